/- The walks of package pack: what a writer's calls do. -/
import Derived.Test.YtamhlfhblgmhoaaPkW
import Derived.Lib.SliceRun
import Derived.Handy
namespace Go.Proofs.Ytamhlfhblgmhoaa
open Go.RowKit
set_option maxHeartbeats 1000000 in
theorem clone_any (v : Value) (l : List UInt8) (w : World) (h : SlB w v l) (hl : l.length ≤ 140737488355328) :
    Calls Try.prog 35 #[v] w fun e w' => ∃ u, e = .returned u ∧ OwnB w' w.heap.size u l ∧ Below w.heap.size w w' := by
  have H := hid h
  clear h
  obtain ⟨A, c, e1, hc, hnil, _⟩ := H.out
  have hq := fun (a : Option Addr) (n c : Nat) (w : World) => Lib.run_eql_slice_nil (P := Try.prog) w 28 5 a n c 0 0 Try.underlying28
  cases A with
  | none =>
    obtain rfl := hnil rfl
    obtain rfl : l = [] := List.length_eq_zero_iff.1 (by omega)
    subst e1
    clear hnil hc
    go_enter Try.func35, Try.ntmps35
    go_wp2
    go_ret
    exact ⟨_, rfl, OwnB.nil _ _, Below.refl _ _⟩
  | some ad =>
    subst e1
    clear hnil
    go_enter Try.func35, Try.ntmps35
    go_wp2_with (at_builtin; refine wpList_appB rfl (.tmp 5) (.tmp 6) rfl w.heap.size _ _ [] l rfl rfl (by exact lit0 w) (by exact H.out.below ((Below.refl _ _).alloc (Nat.le_refl _) _)) (by simp; omega) (by simp) ?_; intro v1 w1 ho1 hg1; have hb1 := hid (OwnB.grown ((Below.refl w.heap.size w).alloc (Nat.le_refl _) _) (lit0 w) (Nat.le_refl _) (by simp) hg1))
    go_ret
    exact ⟨_, rfl, by simpa using ho1, hb1.out⟩


theorem WAt.c0 {w : World} {g : Nat} {e : Int} {v : Value} {l : List UInt8} (h : WAt w g e v l) : w.cell? ⟨g, 0, none⟩ = some (.int .i64 e) := by rw [blk_cell h.at_]; rfl
theorem WAt.c1 {w : World} {g : Nat} {e : Int} {v : Value} {l : List UInt8} (h : WAt w g e v l) : w.cell? ⟨g, 1, none⟩ = some v := by rw [blk_cell h.at_]; rfl
theorem WAt.fz {w : World} {g : Nat} {e : Int} {v : Value} {l : List UInt8} (h : WAt w g e v l) (i : Nat) : w.frozen? ⟨g, i, none⟩ = false := blk_frozen h.at_ i
theorem fr_set {X : Nat → Prop} {w w1 : World} {g : Nat} (h : Fr X w w1) (hg : X g) (i : Nat) (v : Value) : Fr X w (w1.setCell ⟨g, i, none⟩ v) :=
  h.trans ((Fr.set_ i v).mono fun k _ e => .inl (by rw [e]; exact hg))
def wput (e : Int) (l k : List UInt8) : List UInt8 := if e = 0 then l ++ k else l
def wfail (e c : Int) : Int := if e = 0 then c else e
/-- what a call leaves of a writer -/
def Left (w w' : World) (g : Nat) (v : Value) (e : Int) (l : List UInt8) : Prop :=
  ∃ v', WAt w' g e v' l ∧ Fr (WX g v) w w' ∧ ∀ k, v'.ownBlock = some k → v.ownBlock = some k ∨ w.heap.size ≤ k
theorem Left.refl {w : World} {g : Nat} {e : Int} {v : Value} {l : List UInt8} (h : WAt w g e v l) : Left w w g v e l := ⟨v, h, Fr.refl _ _, fun _ h => .inl h⟩
set_option maxHeartbeats 1000000 in
theorem wfail_zero (c : Int) : wfail 0 c = c := rfl
set_option maxHeartbeats 1000000 in
theorem put_ok (g : Nat) (v u : Value) (l k : List UInt8) (w : World) (h : WAt w g 0 v l) (hu : SlB w u k) (hlen : l.length + k.length ≤ 140737488355328) :
    Calls Try.prog 34 #[.pointer (some ⟨g, 0, none⟩), u] w fun e w' => e = .returned (.tuple #[]) ∧ Left w w' g v 0 (l ++ k) := by
  have H := hid h
  have HU := hid hu
  have c0 := h.c0
  have c1 := h.c1
  clear h hu
  go_enter Try.func34, Try.ntmps34
  go_wp2_with (at_builtin; refine wpList_appBX rfl (.tmp 18) (.tmp 19) rfl 0 _ _ l k rfl rfl H.out.own HU.out hlen (Nat.zero_le _) ?_; intro v2 w2 ho2 hg2 hp2; obtain ⟨A2, c2, rfl⟩ := ho2.form; rw [List.length_append] at ho2 hp2 ⊢; have HO2 := hid ho2; have HG2 : Hid (Fr (fun b => v.ownBlock = some b) w w2) := hid (Fr.of_grown hg2); have HP2 : Hid (∀ b, (Value.slice A2 (l.length + k.length) c2).ownBlock = some b → v.ownBlock = some b ∨ w.heap.size ≤ b) := hid hp2; have HA2 := hid (blk_fr HG2.out H.out.at_ H.out.ne); have d1 : w2.cell? ⟨g, 1, none⟩ = some v := (by rw [blk_cell HA2.out]; rfl); have d2 := blk_frozen HA2.out 1; clear ho2 hg2 hp2)
  go_returns
  refine ⟨rfl, _, ⟨?_, ?_, ?_⟩, ?_, HP2.out⟩
  · rw [blk_set HA2.out]; rfl
  · exact HO2.out.fr (Fr.set_ _ _) (fun b hb e => by
      subst e
      rcases HP2.out _ hb with h | h
      · exact H.out.ne h
      · have := blk_lt H.out.at_; omega)
  · intro hb
    rcases HP2.out _ hb with h | h
    · exact H.out.ne h
    · have := blk_lt H.out.at_; omega
  · exact fr_set (HG2.out.mono fun _ _ h => .inr h) (.inl rfl) _ _
set_option maxHeartbeats 1000000 in
theorem put_no (g : Nat) (e : Int) (v u : Value) (l : List UInt8) (w : World) (he : e ≠ 0) (h : WAt w g e v l) :
    Calls Try.prog 34 #[.pointer (some ⟨g, 0, none⟩), u] w fun r w' => r = .returned (.tuple #[]) ∧ w' = w := by
  have c0 := h.c0
  have hq : (e == 0) = false := by rw [beq_eq_false_iff_ne]; exact he
  clear h he
  go_enter Try.func34, Try.ntmps34
  go_wp2
  go_returns
  exact ⟨rfl, rfl⟩
theorem put_any (g : Nat) (e : Int) (v u : Value) (l k : List UInt8) (w : World) (h : WAt w g e v l) (hu : SlB w u k) (hlen : l.length + k.length ≤ 140737488355328) :
    Calls Try.prog 34 #[.pointer (some ⟨g, 0, none⟩), u] w fun r w' => r = .returned (.tuple #[]) ∧ Left w w' g v e (wput e l k) := by
  unfold wput
  by_cases he : e = 0
  · subst he
    exact (put_ok g v u l k w h hu hlen).mono fun _ _ h => by simpa using h
  · rw [if_neg he]
    exact (put_no g e v u l w he h).mono fun _ _ h2 => by obtain ⟨rfl, rfl⟩ := h2; exact ⟨rfl, Left.refl h⟩
theorem Left.pre {w w1 w2 : World} {g : Nat} {v : Value} {e : Int} {l : List UInt8} (hb : Below w.heap.size w w1) (h : Left w1 w2 g v e l) (_hv : ∀ k, v.ownBlock = some k → k < w.heap.size) : Left w w2 g v e l := by
  obtain ⟨v', h1, h2, h3⟩ := h
  exact ⟨v', h1, ⟨h2.os.trans hb.os, h2.tape.trans hb.tape, h2.output.trans hb.output, Nat.le_trans hb.size h2.size, fun k hk hx => (h2.block k (Nat.lt_of_lt_of_le hk hb.size) hx).trans (hb.block k hk)⟩, fun k hk => (h3 k hk).imp_right fun h => Nat.le_trans hb.size h⟩
theorem WAt.lt {w : World} {g : Nat} {e : Int} {v : Value} {l : List UInt8} (h : WAt w g e v l) : ∀ k, v.ownBlock = some k → k < w.heap.size := fun k hk => (World.ownsRow.lt h.own k hk).2
set_option maxHeartbeats 1000000 in
theorem Uint_any (g : Nat) (e : Int) (v : Value) (l : List UInt8) (n : Nat) (hn : n ≤ 9223372036854775807) (w : World) (h : WAt w g e v l) (hlen : l.length + 9 ≤ 140737488355328) :
    Calls Try.prog 10 #[.pointer (some ⟨g, 0, none⟩), .int .i64 n] w fun r w' => r = .returned (.tuple #[]) ∧ Left w w' g v e (wput e l (Pk.form n)) := by
  have H := hid h
  have H9 := Pk.form_nine n hn
  clear h
  go_enter Try.func10, Try.ntmps10
  go_wp2_with fail
  refine (form_any n hn w).mono ?_
  rintro r w1 ⟨A, c, rfl, ho, hb⟩
  have HO := hid ho
  have HB := hid hb
  clear ho hb
  go_wp2_with fail
  refine (put_any g e v _ l (Pk.form n) w1 (H.out.below HB.out) HO.out.sl (by omega)).mono ?_
  rintro r w2 ⟨rfl, hL⟩
  have HL := hid (hL.pre HB.out H.out.lt)
  clear hL
  go_wp2
  go_returns
  exact ⟨rfl, HL.out⟩
set_option maxHeartbeats 1000000 in
theorem fail_any (g : Nat) (e c : Int) (v : Value) (l : List UInt8) (w : World) (h : WAt w g e v l) :
    Calls Try.prog 33 #[.pointer (some ⟨g, 0, none⟩), .int .i64 c] w fun r w' => r = .returned (.tuple #[]) ∧ Left w w' g v (wfail e c) l := by
  have H := hid h
  have c0 := h.c0
  have c2 := h.fz 0
  clear h
  by_cases he : e = 0
  · subst he
    go_enter Try.func33, Try.ntmps33
    go_wp2
    go_returns
    refine ⟨rfl, v, ⟨?_, ?_, H.out.ne⟩, fr_set (Fr.refl _ _) (.inl rfl) _ _, fun _ h => .inl h⟩
    · rw [blk_set H.out.at_]; rfl
    · exact H.out.own.fr (Fr.set_ _ _) (fun b hb e => by subst e; exact H.out.ne hb)
  · have hq : (e == 0) = false := by rw [beq_eq_false_iff_ne]; exact he
    have HE := hid he
    clear he
    go_enter Try.func33, Try.ntmps33
    go_wp2
    go_returns
    have e1 : wfail e c = e := by unfold wfail; rw [if_neg HE.out]
    rw [e1]
    exact ⟨rfl, Left.refl H.out⟩
set_option maxHeartbeats 1000000 in
theorem Uint_neg (g : Nat) (e : Int) (v : Value) (l : List UInt8) (n : Int) (hn : n < 0) (w : World) (h : WAt w g e v l) :
    Calls Try.prog 10 #[.pointer (some ⟨g, 0, none⟩), .int .i64 n] w fun r w' => r = .returned (.tuple #[]) ∧ Left w w' g v (wfail e 33) l := by
  have H := hid h
  clear h
  go_enter Try.func10, Try.ntmps10
  go_wp2_with fail
  refine (fail_any g e 33 v l w H.out).mono ?_
  rintro r w2 ⟨rfl, hL⟩
  have HL := hid hL
  clear hL
  go_wp2
  go_returns
  exact ⟨rfl, HL.out⟩
set_option maxHeartbeats 1000000 in
theorem Data_ok (g : Nat) (v : Value) (l : List UInt8) (w : World) (h : WAt w g 0 v l) (hlen : l.length ≤ 140737488355328) :
    Calls Try.prog 11 #[.pointer (some ⟨g, 0, none⟩)] w fun r w' => ∃ A c, r = .returned (.slice A l.length c) ∧ OwnB w' w.heap.size (.slice A l.length c) l ∧ Below w.heap.size w w' := by
  have H := hid h
  have c0 := h.c0
  have c1 := h.c1
  clear h
  go_enter Try.func11, Try.ntmps11
  go_wp2_with fail
  refine (clone_any v l w H.out.own.sl hlen).mono ?_
  rintro r w1 ⟨u, rfl, ho, hb⟩
  obtain ⟨A, c, rfl⟩ := ho.form
  have HO := hid ho
  have HB := hid hb
  clear ho hb
  go_wp2
  go_ret
  exact ⟨_, _, rfl, HO.out, HB.out⟩
set_option maxHeartbeats 1000000 in
theorem Data_no (g : Nat) (e : Int) (v : Value) (l : List UInt8) (w : World) (he : e ≠ 0) (h : WAt w g e v l) :
    Calls Try.prog 11 #[.pointer (some ⟨g, 0, none⟩)] w fun r w' => r = .returned (.slice none 0 0) ∧ w' = w := by
  have c0 := h.c0
  have hq : (e != 0) = true := by rw [bne_iff_ne]; exact he
  clear h he
  go_enter Try.func11, Try.ntmps11
  go_wp2
  go_ret
  exact ⟨rfl, rfl⟩
end Go.Proofs.Ytamhlfhblgmhoaa
