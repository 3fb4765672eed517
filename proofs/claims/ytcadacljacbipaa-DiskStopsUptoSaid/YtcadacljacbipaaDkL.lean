/- What a disk tells: Read, Current, Slots, Acts, Pending, Dead; a new one. -/
import Derived.Test.YtcadacljacbipaaDkK
namespace Go.Proofs.Ytcadacljacbipaa
open Go.RowKit
def Dk.readB (D : Dk) (n : Int) : List UInt8 := if D.dead then [] else if n = 0 then D.s0.now else if n = 1 then D.s1.now else []
def Dk.readE (D : Dk) (n : Int) : Int := if D.dead then 60 else if n = 0 ∨ n = 1 then 0 else 61
def Dk.curN (D : Dk) : Nat := if D.dead then 0 else D.cur
def Dk.pending (D : Dk) : Nat := D.s0.acts.length + D.s1.acts.length
theorem New_any (w : World) :
    Calls Try.prog 26 #[] w fun e w' => ∃ d, e = .returned (.pointer (some ⟨d, 0, none⟩)) ∧ Below w.heap.size w w' ∧ DAt w' (fun k => Nw w w' k) d Dk.new := by
  go_enter Try.func26, Try.ntmps26
  go_wp2
  go_ret
  refine ⟨w.heap.size, rfl, (Below.refl _ _).alloc (Nat.le_refl _) _, ⟨fun _ => False, .slice none 0 0, .slice none 0 0, .slice none 0 0, .slice none 0 0, .slice none 0 0, .slice none 0 0, ?_⟩⟩
  exact
    { at_ := heap_alloc_new _ _
      s0 := ⟨SlI.nil _ _, SlI.nil _ _, ActsAt.nil _ _⟩
      s1 := ⟨SlI.nil _ _, SlI.nil _ _, ActsAt.nil _ _⟩
      cur := by decide
      sd := ⟨Nat.le_refl _, by simp⟩
      id := fun h => h
      is := fun _ h => h.elim
      lt := fun k hk => hk.2
      r0 := fun k hk => by simp [Value.ownBlock] at hk
      r1 := fun k hk => by simp [Value.ownBlock] at hk
      rr := fun k hk => by simp [Value.ownBlock] at hk }
theorem Read_nil (n : Int) (w : World) :
    Calls Try.prog 15 #[.pointer none, .int .i64 n] w fun e w' => e = .returned (.tuple #[.slice none 0 0, .int .i64 0]) ∧ w' = w := by
  go_enter Try.func15, Try.ntmps15
  go_wp2
  go_ret2
  exact ⟨rfl, rfl⟩
/-- all cells of a disk -/
theorem DV.cells {w : World} {S I : Nat → Prop} {d : Nat} {l0 n0 a0 l1 n1 a1 : Value} {D : Dk} (h : DV w S I d l0 n0 a0 l1 n1 a1 D) :
    w.cell? ⟨d, 0, none⟩ = some l0 ∧ w.cell? ⟨d, 1, none⟩ = some n0 ∧ w.cell? ⟨d, 2, none⟩ = some a0 ∧ w.cell? ⟨d, 3, none⟩ = some l1 ∧ w.cell? ⟨d, 4, none⟩ = some n1 ∧ w.cell? ⟨d, 5, none⟩ = some a1 :=
  ⟨by rw [blk_cell h.at_]; rfl, by rw [blk_cell h.at_]; rfl, by rw [blk_cell h.at_]; rfl, by rw [blk_cell h.at_]; rfl, by rw [blk_cell h.at_]; rfl, by rw [blk_cell h.at_]; rfl⟩
set_option maxRecDepth 100000 in
set_option maxHeartbeats 1000000 in
theorem Read_any (w : World) (S : Nat → Prop) (d : Nat) (D : Dk) (n : Int) (h : DAt w S d D) (hroom : D.s0.room + D.s1.room ≤ 140737488355328) :
    Calls Try.prog 15 #[.pointer (some ⟨d, 0, none⟩), .int .i64 n] w fun e w' => ∃ v, e = .returned (.tuple #[v, .int .i64 (D.readE n)]) ∧ OwnB w' w.heap.size v (D.readB n) ∧ Below w.heap.size w w' := by
  obtain ⟨c6, c7, c8, c9, c10, hfz⟩ := h.cells
  obtain ⟨I, l0, n0, a0, l1, n1, a1, hV⟩ := h
  obtain ⟨c0, c1, c2, c3, c4, c5⟩ := hV.cells
  by_cases hd : D.dead = true
  · rw [show D.readE n = 60 from if_pos hd, show D.readB n = [] from if_pos hd]
    rw [hd] at c10
    clear hV hd hfz
    go_enter Try.func15, Try.ntmps15
    go_wp2
    go_ret2
    exact ⟨_, rfl, OwnB.nil _ _, Below.refl _ _⟩
  have hd' : D.dead = false := by simpa using hd
  rw [hd'] at c10
  have r0 := D.s0.now_le
  have r1 := D.s1.now_le
  by_cases h0 : n = 0
  · subst h0
    rw [show D.readE 0 = 0 by unfold Dk.readE; rw [if_neg hd, if_pos (.inl rfl)], show D.readB 0 = D.s0.now by unfold Dk.readB; rw [if_neg hd, if_pos rfl]]
    have H := hid hV.s0.now.sl
    clear hV hd hd' hfz
    go_enter Try.func15, Try.ntmps15
    go_wp2_with fail
    refine (Clone_any n0 D.s0.now w H.out (by omega)).mono ?_
    rintro e w1 ⟨v, rfl, ho, hb⟩
    have R := hid (⟨ho, hb⟩ : OwnB w1 w.heap.size v D.s0.now ∧ Below w.heap.size w w1)
    clear ho hb
    go_wp2
    go_ret2
    exact ⟨v, rfl, R.out⟩
  by_cases h1 : n = 1
  · subst h1
    rw [show D.readE 1 = 0 by unfold Dk.readE; rw [if_neg hd, if_pos (.inr rfl)], show D.readB 1 = D.s1.now by unfold Dk.readB; rw [if_neg hd, if_neg (by omega), if_pos rfl]]
    have H := hid hV.s1.now.sl
    clear hV hd hd' hfz
    go_enter Try.func15, Try.ntmps15
    go_wp2_with fail
    refine (Clone_any n1 D.s1.now w H.out (by omega)).mono ?_
    rintro e w1 ⟨v, rfl, ho, hb⟩
    have R := hid (⟨ho, hb⟩ : OwnB w1 w.heap.size v D.s1.now ∧ Below w.heap.size w w1)
    clear ho hb
    go_wp2
    go_ret2
    exact ⟨v, rfl, R.out⟩
  · rw [show D.readE n = 61 by unfold Dk.readE; rw [if_neg hd, if_neg (by omega)], show D.readB n = [] by unfold Dk.readB; rw [if_neg hd, if_neg h0, if_neg h1]]
    have q0 : (n != 0) = true := by rw [bne_iff_ne]; exact h0
    have q1 : (n != 1) = true := by rw [bne_iff_ne]; exact h1
    clear hV hd hd' hfz h0 h1
    go_enter Try.func15, Try.ntmps15
    go_wp2
    go_ret2
    exact ⟨_, rfl, OwnB.nil _ _, Below.refl _ _⟩
theorem gone_nil (w : World) : Calls Try.prog 38 #[.pointer none] w fun e w' => e = .returned (.bool true) ∧ w' = w := by
  go_enter Try.func38, Try.ntmps38
  go_wp2
  go_ret
  exact ⟨rfl, rfl⟩
theorem gone_any (w : World) (S : Nat → Prop) (d : Nat) (D : Dk) (h : DAt w S d D) : Calls Try.prog 38 #[.pointer (some ⟨d, 0, none⟩)] w fun e w' => e = .returned (.bool D.dead) ∧ w' = w := by
  obtain ⟨c6, c7, c8, c9, c10, hfz⟩ := h.cells
  generalize D.dead = b at *
  clear h hfz
  go_enter Try.func38, Try.ntmps38
  go_wp2
  go_ret
  exact ⟨rfl, rfl⟩
theorem Current_nil (w : World) : Calls Try.prog 18 #[.pointer none] w fun e w' => e = .returned (.int .i64 0) ∧ w' = w := by
  go_enter Try.func18, Try.ntmps18
  go_wp2_with (go_at_call 38; refine (gone_nil _).mono ?_; rintro e w' ⟨rfl, rfl⟩)
  go_ret
  exact ⟨rfl, rfl⟩
theorem Current_any (w : World) (S : Nat → Prop) (d : Nat) (D : Dk) (h : DAt w S d D) : Calls Try.prog 18 #[.pointer (some ⟨d, 0, none⟩)] w fun e w' => e = .returned (.int .i64 (D.curN : Int)) ∧ w' = w := by
  have H := hid h
  obtain ⟨c6, c7, c8, c9, c10, hfz⟩ := h.cells
  unfold Dk.curN
  cases hd : D.dead
  all_goals
    have C := hid (gone_any w S d D H.out)
    rw [hd] at C
    clear h hd hfz
    go_enter Try.func18, Try.ntmps18
    go_wp2_with fail
    refine C.out.mono ?_
    rintro e w' ⟨rfl, hw⟩
    replace hw := hw.symm
    subst hw
    clear C
    go_wp2
    go_ret
    exact ⟨rfl, rfl⟩
theorem Acts_nil (w : World) : Calls Try.prog 29 #[.pointer none] w fun e w' => e = .returned (.int .i64 0) ∧ w' = w := by
  go_enter Try.func29, Try.ntmps29
  go_wp2
  go_ret
  exact ⟨rfl, rfl⟩
theorem Acts_any (w : World) (S : Nat → Prop) (d : Nat) (D : Dk) (h : DAt w S d D) : Calls Try.prog 29 #[.pointer (some ⟨d, 0, none⟩)] w fun e w' => e = .returned (.int .i64 (D.done : Int)) ∧ w' = w := by
  obtain ⟨c6, c7, c8, c9, c10, hfz⟩ := h.cells
  clear h hfz
  go_enter Try.func29, Try.ntmps29
  go_wp2
  go_ret
  exact ⟨rfl, rfl⟩
theorem Dead_nil (w : World) : Calls Try.prog 20 #[.pointer none] w fun e w' => e = .returned (.bool false) ∧ w' = w := by
  go_enter Try.func20, Try.ntmps20
  go_wp2
  go_ret
  exact ⟨rfl, rfl⟩
theorem Dead_any (w : World) (S : Nat → Prop) (d : Nat) (D : Dk) (h : DAt w S d D) : Calls Try.prog 20 #[.pointer (some ⟨d, 0, none⟩)] w fun e w' => e = .returned (.bool D.dead) ∧ w' = w := by
  obtain ⟨c6, c7, c8, c9, c10, hfz⟩ := h.cells
  generalize D.dead = b at *
  clear h hfz
  go_enter Try.func20, Try.ntmps20
  go_wp2
  go_ret
  exact ⟨rfl, rfl⟩
theorem Pending_nil (w : World) : Calls Try.prog 13 #[.pointer none] w fun e w' => e = .returned (.int .i64 0) ∧ w' = w := by
  go_enter Try.func13, Try.ntmps13
  go_wp2
  go_ret
  exact ⟨rfl, rfl⟩
theorem Pending_any (w : World) (S : Nat → Prop) (d : Nat) (D : Dk) (h : DAt w S d D) (hp : D.pending ≤ 1099511627776) : Calls Try.prog 13 #[.pointer (some ⟨d, 0, none⟩)] w fun e w' => e = .returned (.int .i64 (D.pending : Int)) ∧ ∃ n, w' = w.drewN n := by
  obtain ⟨I, l0, n0, a0, l1, n1, a1, hV⟩ := h
  obtain ⟨c0, c1, c2, c3, c4, c5⟩ := hV.cells
  obtain ⟨fs, _, hown, _⟩ := hV.s0.acts
  obtain ⟨A, c, rfl⟩ := own_form hown
  obtain ⟨fs1, _, hown1, _⟩ := hV.s1.acts
  obtain ⟨A1, k1, rfl⟩ := own_form hown1
  have e : (D.pending : Int) = (D.s0.acts.length : Int) + (D.s1.acts.length : Int) := by unfold Dk.pending; omega
  have HE := hid e
  have hs : IntKind.i64.wrap ((D.s0.acts.length : Int) + (D.s1.acts.length : Int)) = (D.s0.acts.length : Int) + (D.s1.acts.length : Int) := by rw [IntKind.wrap_i64]; unfold Dk.pending at hp; omega
  rw [HE.out]
  clear hV hown hown1 e hp
  go_enter Try.func13, Try.ntmps13
  go_wp2
  go_quiet (fail)
  go_wp2
  go_ret
  exact ⟨rfl, _, rfl⟩
end Go.Proofs.Ytcadacljacbipaa
