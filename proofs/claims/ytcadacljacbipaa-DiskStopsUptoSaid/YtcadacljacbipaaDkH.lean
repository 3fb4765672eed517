/- One of the four acts. -/
import Derived.Test.YtcadacljacbipaaDkG
namespace Go.Proofs.Ytcadacljacbipaa
open Go.RowKit
theorem eff_done (o : DOp) (i : Nat) (D : Dk) : (o.eff i D).done = D.done := by
  cases o <;> simp only [DOp.eff, Dk.setSlot] <;> repeat' split
  all_goals rfl
theorem eff_dead (o : DOp) (i : Nat) (D : Dk) : (o.eff i D).dead = D.dead := by
  cases o <;> simp only [DOp.eff, Dk.setSlot] <;> repeat' split
  all_goals rfl
theorem eff_named (o : DOp) (i : Nat) (D : Dk) : (o.eff i D).named = D.named := by
  cases o <;> simp only [DOp.eff, Dk.setSlot] <;> repeat' split
  all_goals rfl
theorem eff_with (o : DOp) (i : Nat) (D : Dk) : (o.eff i D).withIt = D.withIt := by
  cases o <;> simp only [DOp.eff, Dk.setSlot] <;> repeat' split
  all_goals rfl
/-- the block itself, where the slots are as they were -/
theorem DV.turn {w : World} {S I : Nat → Prop} {d : Nat} {l0 n0 a0 l1 n1 a1 : Value} {D D' : Dk} (h : DV w S I d l0 n0 a0 l1 n1 a1 D) (j : Nat) (v : Value) (hc : (dkCells l0 n0 a0 l1 n1 a1 D).setIfInBounds j v = dkCells l0 n0 a0 l1 n1 a1 D') (h0 : D'.s0 = D.s0) (h1 : D'.s1 = D.s1) (hcur : D'.cur < 2) :
    DV (w.setCell ⟨d, j, none⟩ v) S I d l0 n0 a0 l1 n1 a1 D' := by
  have hF : Fr (fun k => k = d) w (w.setCell ⟨d, j, none⟩ v) := Fr.set_ _ _
  have hX : ∀ k, I k → ¬ (k = d) := fun k hk e => h.id (e ▸ hk)
  exact
    { at_ := by rw [← hc]; exact blk_set h.at_ _ _
      s0 := by rw [h0]; exact h.s0.fr hF hX (fun _ h => h) (fun k hk => (h.r0 k hk).2.2)
      s1 := by rw [h1]; exact h.s1.fr hF hX (fun _ h => h) (fun k hk => (h.r1 k hk).2.2)
      cur := hcur
      sd := h.sd
      id := h.id
      is := h.is
      lt := fun k hk => Nat.lt_of_lt_of_le (h.lt k hk) hF.size
      r0 := h.r0
      r1 := h.r1
      rr := h.rr }
theorem DV.near {w : World} {S I : Nat → Prop} {d : Nat} {l0 n0 a0 l1 n1 a1 : Value} {D : Dk} (h : DV w S I d l0 n0 a0 l1 n1 a1 D) :
    DV ((w.setCell ⟨d, 10, none⟩ (.bool (D.named == 1))).setCell ⟨d, 8, none⟩ (.int .i64 ((D.named - 1 : Nat) : Int))) S I d l0 n0 a0 l1 n1 a1 D.near :=
  (h.turn (D' := { D with dead := D.named == 1 }) 10 _ rfl rfl rfl h.cur).turn (D' := D.near) 8 _ rfl rfl rfl h.cur
theorem Did.more {w w1 w3 : World} {S T : Nat → Prop} {d : Nat} {D : Dk} (hf : Fr (fun k => k = d) w w1) (hs : w1.heap.size = w.heap.size) (hd : S d) (h : Did w1 w3 S T d D) : Did w (w3.setCell ⟨d, 7, none⟩ (.int .i64 ((D.done + 1 : Nat) : Int))) S T d D.more := by
  obtain ⟨⟨I, l0, n0, a0, l1, n1, a1, hV⟩, hF⟩ := h
  have h3 := hV.turn (D' := D.more) 7 (.int .i64 ((D.done + 1 : Nat) : Int)) rfl rfl rfl hV.cur
  have hsz : (w3.setCell ⟨d, 7, none⟩ (.int .i64 ((D.done + 1 : Nat) : Int))).heap.size = w3.heap.size := by simp
  refine ⟨⟨I, l0, n0, a0, l1, n1, a1, h3.fr (Fr.refl (fun _ => False) _) (fun _ _ h => h) (fun k hk => ?_) (fun k hk => ?_)⟩, ?_⟩
  · rcases hk with g | g | g
    · exact .inl g
    · exact .inr (.inl g)
    · refine .inr (.inr ⟨?_, ?_⟩)
      · rw [← hs]; exact g.1
      · rw [hsz]; exact g.2
  · rcases hk with g | g | g
    · exact h3.lt k (.inl g)
    · exact h3.lt k (.inr (.inl g))
    · exact g.2
  · exact (hf.mono fun k _ e => e ▸ hd).trans ((hF.mono fun k _ hk => .inl hk).trans ((Fr.set_ _ _).mono fun k _ e => .inl (.inl (e ▸ hd))))
theorem Did.stay {w w1 : World} {S T : Nat → Prop} {d : Nat} {D : Dk} (hf : Fr (fun k => k = d) w w1) (hd : S d) (h : DAt w1 S d D) (hT : ∀ k, T k → k < w.heap.size) : Did w w1 S T d D := by
  refine ⟨h.fr (Fr.refl (fun _ => False) _) (fun _ _ h => h) (fun k hk => .inl hk) (fun k hk => ?_), hf.mono fun k _ e => e ▸ hd⟩
  have := hf.size
  rcases hk with g | g | g
  · exact h.lt k g
  · have := hT k g; omega
  · exact g.2
theorem DAt.cells {w : World} {S : Nat → Prop} {d : Nat} {D : Dk} (h : DAt w S d D) : w.cell? ⟨d, 6, none⟩ = some (.int .i64 (D.cur : Int)) ∧ w.cell? ⟨d, 7, none⟩ = some (.int .i64 (D.done : Int)) ∧ w.cell? ⟨d, 8, none⟩ = some (.int .i64 (D.named : Int)) ∧ w.cell? ⟨d, 9, none⟩ = some (.bool D.withIt) ∧ w.cell? ⟨d, 10, none⟩ = some (.bool D.dead) ∧ ∀ j, w.frozen? ⟨d, j, none⟩ = false := by
  obtain ⟨I, l0, n0, a0, l1, n1, a1, hV⟩ := h
  exact ⟨by rw [blk_cell hV.at_]; rfl, by rw [blk_cell hV.at_]; rfl, by rw [blk_cell hV.at_]; rfl, by rw [blk_cell hV.at_]; rfl, by rw [blk_cell hV.at_]; rfl, fun j => blk_frozen hV.at_ j⟩
theorem DAt.sd {w : World} {S : Nat → Prop} {d : Nat} {D : Dk} (h : DAt w S d D) : S d := by
  obtain ⟨I, l0, n0, a0, l1, n1, a1, hV⟩ := h
  exact hV.sd
theorem act_nil (v f : Value) (b : Bool) (w : World) :
    Calls Try.prog 35 #[.pointer none, v, .bool b, f] w fun e w' => e = .returned (.int .i64 0) ∧ w' = w := by
  go_enter Try.func35, Try.ntmps35
  go_wp2
  go_ret
  exact ⟨rfl, rfl⟩
set_option maxRecDepth 100000 in
theorem act_dead (w : World) (S : Nat → Prop) (d : Nat) (D : Dk) (h : DAt w S d D) (hd : D.dead = true) (v f : Value) (b : Bool) :
    Calls Try.prog 35 #[.pointer (some ⟨d, 0, none⟩), v, .bool b, f] w fun e w' => e = .returned (.int .i64 60) ∧ w' = w := by
  obtain ⟨c6, c7, c8, c9, c10, _⟩ := h.cells
  rw [hd] at c10
  clear h hd
  go_enter Try.func35, Try.ntmps35
  go_wp2
  go_ret
  exact ⟨rfl, rfl⟩
set_option maxRecDepth 100000 in
set_option maxHeartbeats 1000000 in
theorem act_bad (w : World) (S : Nat → Prop) (d : Nat) (D : Dk) (h : DAt w S d D) (hd : D.dead = false) (n : Int) (f : Value) (b : Bool) (hb : D.bad n b = true) :
    Calls Try.prog 35 #[.pointer (some ⟨d, 0, none⟩), .int .i64 n, .bool b, f] w fun e w' => e = .returned (.int .i64 61) ∧ w' = w := by
  obtain ⟨c6, c7, c8, c9, c10, _⟩ := h.cells
  rw [hd] at c10
  have hcur := h.ok.2.2
  unfold Dk.bad at hb
  generalize D.cur = cur at *
  clear h hd c7 c8 c9
  by_cases h0 : n = 0
  · subst h0
    have hb' : b = true ∧ cur = 0 := by
      have : b = true ∧ (0 : Int) = (cur : Int) := by simpa using hb
      exact ⟨this.1, by omega⟩
    obtain ⟨rfl, rfl⟩ := hb'
    clear hb
    go_enter Try.func35, Try.ntmps35
    go_wp2
    go_ret
    exact ⟨rfl, rfl⟩
  by_cases h1 : n = 1
  · subst h1
    have hb' : b = true ∧ cur = 1 := by
      have : b = true ∧ (1 : Int) = (cur : Int) := by simpa using hb
      exact ⟨this.1, by omega⟩
    obtain ⟨rfl, rfl⟩ := hb'
    clear hb
    go_enter Try.func35, Try.ntmps35
    go_wp2
    go_ret
    exact ⟨rfl, rfl⟩
  · have q0 : (n != 0) = true := by rw [bne_iff_ne]; exact h0
    have q1 : (n != 1) = true := by rw [bne_iff_ne]; exact h1
    clear hb h0 h1
    go_enter Try.func35, Try.ntmps35
    go_wp2
    go_ret
    exact ⟨rfl, rfl⟩
end Go.Proofs.Ytcadacljacbipaa
