/- The document's disk: an act, up to what it does to its slot; the Switch. -/
import Derived.Test.YtcadacljacbipaaAll12
namespace Go.Proofs.Ytcadacljacbipaa
open Go.RowKit
section
variable {w : World} {S I : Nat → Prop} {d : Nat} {l0 l1 a0 a1 : Value} {D : Dk}
theorem heap_size_set (w : World) (d j : Nat) (v : Value) : (w.setCell ⟨d, j, none⟩ v).heap.size = w.heap.size := by simp
theorem RV.pre0 (h : RV w S I d l0 l1 a0 a1 D) (hn : D.named = 0) (hd : D.dead = false) : RV (w.setCell ⟨d, 5, none⟩ (.int .i64 ((D.done : Int) + 1))) S I d l0 l1 a0 a1 D.near.more ∧ Fr (fun k => k = d) w (w.setCell ⟨d, 5, none⟩ (.int .i64 ((D.done : Int) + 1))) ∧ (w.setCell ⟨d, 5, none⟩ (.int .i64 ((D.done : Int) + 1))).heap.size = w.heap.size := by
  refine ⟨h.turn 5 _ ?_ rfl rfl h.cur, Fr.set_ _ _, heap_size_set _ _ _ _⟩
  unfold refCells Dk.more Dk.near
  simp only [hn, hd]
  rfl
theorem RV.near1 (h : RV w S I d l0 l1 a0 a1 D) (hn : D.named = 1) : RV ((w.setCell ⟨d, 6, none⟩ (.int .i64 0)).setCell ⟨d, 8, none⟩ (.bool true)) S I d l0 l1 a0 a1 D.near ∧ Fr (fun k => k = d) w ((w.setCell ⟨d, 6, none⟩ (.int .i64 0)).setCell ⟨d, 8, none⟩ (.bool true)) ∧ ((w.setCell ⟨d, 6, none⟩ (.int .i64 0)).setCell ⟨d, 8, none⟩ (.bool true)).heap.size = w.heap.size := by
  refine ⟨(h.turn (D' := { D with named := 0 }) 6 _ rfl rfl rfl h.cur).turn 8 _ ?_ rfl rfl h.cur, (Fr.set_ _ _).trans ((Fr.set_ _ _).mono fun k _ e => .inl e), by rw [heap_size_set, heap_size_set]⟩
  unfold refCells Dk.near
  simp only [hn]
  rfl
theorem RV.pre1 (h : RV w S I d l0 l1 a0 a1 D) (hn : D.named = 1) : RV (((w.setCell ⟨d, 6, none⟩ (.int .i64 0)).setCell ⟨d, 8, none⟩ (.bool true)).setCell ⟨d, 5, none⟩ (.int .i64 ((D.done : Int) + 1))) S I d l0 l1 a0 a1 D.near.more ∧ Fr (fun k => k = d) w (((w.setCell ⟨d, 6, none⟩ (.int .i64 0)).setCell ⟨d, 8, none⟩ (.bool true)).setCell ⟨d, 5, none⟩ (.int .i64 ((D.done : Int) + 1))) ∧ (((w.setCell ⟨d, 6, none⟩ (.int .i64 0)).setCell ⟨d, 8, none⟩ (.bool true)).setCell ⟨d, 5, none⟩ (.int .i64 ((D.done : Int) + 1))).heap.size = w.heap.size := by
  obtain ⟨h1, h2, h3⟩ := h.near1 hn
  exact ⟨h1.turn 5 _ rfl rfl rfl h.cur, h2.trans ((Fr.set_ _ _).mono fun k _ e => .inl e), by rw [heap_size_set]; exact h3⟩
theorem RV.pre2 (h : RV w S I d l0 l1 a0 a1 D) (hn : 1 < D.named) (hd : D.dead = false) : RV ((w.setCell ⟨d, 6, none⟩ (.int .i64 ((D.named : Int) - 1))).setCell ⟨d, 5, none⟩ (.int .i64 ((D.done : Int) + 1))) S I d l0 l1 a0 a1 D.near.more ∧ Fr (fun k => k = d) w ((w.setCell ⟨d, 6, none⟩ (.int .i64 ((D.named : Int) - 1))).setCell ⟨d, 5, none⟩ (.int .i64 ((D.done : Int) + 1))) ∧ ((w.setCell ⟨d, 6, none⟩ (.int .i64 ((D.named : Int) - 1))).setCell ⟨d, 5, none⟩ (.int .i64 ((D.done : Int) + 1))).heap.size = w.heap.size := by
  refine ⟨((h.turn (D' := { D with named := D.named - 1 }) 6 _ ?_ rfl rfl h.cur).turn 5 _ ?_ rfl rfl h.cur), (Fr.set_ _ _).trans ((Fr.set_ _ _).mono fun k _ e => .inl e), by rw [heap_size_set, heap_size_set]⟩
  · unfold refCells
    rw [show ((D.named - 1 : Nat) : Int) = (D.named : Int) - 1 by omega]
    rfl
  · unfold refCells Dk.more Dk.near
    rw [show (D.named == 1) = false by simp; omega]
    simp only [hd]
    rfl
end
set_option maxRecDepth 100000 in
theorem ract_dead (w : World) (S : Nat → Prop) (d : Nat) (D : Dk) (n k : Int) (v : Value) (h : RAt w S d D) (hd : D.dead = true) :
    Calls Try.prog 65 #[.pointer (some ⟨d, 0, none⟩), .int .i64 k, .int .i64 n, v] w fun e w' => e = .returned (.int .i64 60) ∧ w' = w := by
  obtain ⟨c4, c5, c6, c7, c8, hfz⟩ := h.cells
  rw [hd] at c8
  clear h hd hfz
  go_enter Try.func65, Try.ntmps65
  go_wp2
  go_ret
  exact ⟨rfl, rfl⟩
set_option maxRecDepth 100000 in
set_option maxHeartbeats 1000000 in
theorem ract_bad (w : World) (S : Nat → Prop) (d : Nat) (D : Dk) (n k : Int) (v : Value) (h : RAt w S d D) (hd : D.dead = false) (hb : D.bad n (k == 2) = true) :
    Calls Try.prog 65 #[.pointer (some ⟨d, 0, none⟩), .int .i64 k, .int .i64 n, v] w fun e w' => e = .returned (.int .i64 61) ∧ w' = w := by
  obtain ⟨c4, c5, c6, c7, c8, hfz⟩ := h.cells
  rw [hd] at c8
  by_cases hn : n = 0 ∨ n = 1
  · have hk : k = 2 := by
      unfold Dk.bad at hb
      rcases hn with rfl | rfl <;> simp at hb <;> exact hb.1
    have hc : (D.cur : Int) = n := by
      unfold Dk.bad at hb
      rcases hn with rfl | rfl <;> simp at hb <;> omega
    rw [hc] at c4
    subst hk
    clear h hd hfz hb hc
    rcases hn with rfl | rfl
    all_goals
      go_enter Try.func65, Try.ntmps65
      go_wp2
      go_ret
      exact ⟨rfl, rfl⟩
  · have q0 : (n != 0) = true := by rw [bne_iff_ne]; omega
    have q1 : (n != 1) = true := by rw [bne_iff_ne]; omega
    clear h hd hfz hb hn
    go_enter Try.func65, Try.ntmps65
    go_wp2
    go_ret
    exact ⟨rfl, rfl⟩
end Go.Proofs.Ytcadacljacbipaa

/- The document's disk: one loose act more. -/
namespace Go.Proofs.Ytcadacljacbipaa
open Go.RowKit
/-- a loose act more at slot 0 -/
theorem RV.more0 {w w4 w5 : World} {S I T : Nat → Prop} {d g cap : Nat} {l0 l1 a0 a1 u : Value} {D : Dk} {a : DAct} {vs : List Value} (h : RV w S I d l0 l1 a0 a1 D) (hb : Below w.heap.size w w4) (h4 : Fr (fun k => a0.ownBlock = some k) w4 w5) (hu : SlI w4 T u a.data) (ha : a.ok) (hT : ∀ k, T k → w.heap.size ≤ k ∧ k < w4.heap.size)
    (hvl : vs.length = D.s0.acts.length) (hve : ∀ (i : Nat) (v : Value) (b : DAct), vs[i]? = some v → D.s0.acts[i]? = some b → LAct w I v b)
    (hown : w5.ownsRow 0 92 2 (.slice (some ⟨g, 0, none⟩) (D.s0.acts.length + 1) cap) (D.s0.acts.length + 1) (looseCells vs D.s0.acts ++ [.bool (isW a), u])) (hat : a0.ownBlock = some g ∨ w4.heap.size ≤ g) (hgl : g < w5.heap.size) :
    Rt w (w5.setCell ⟨d, 2, none⟩ (.slice (some ⟨g, 0, none⟩) (D.s0.acts.length + 1) cap)) S d { D with s0 := ⟨D.s0.lasts, D.s0.acts ++ [a]⟩ } := by
  have hs4 := hb.size
  have hs5 := h4.size
  have hdl := h.lt d h.sd
  have hal : ∀ k, a0.ownBlock = some k → k < w.heap.size := fun k hk => h.lt k (h.r0 k hk).1
  have F5 : Fr (fun k => a0.ownBlock = some k) w w5 := ((Fr.of_below hb).mono fun _ _ h => h.elim).trans (h4.mono fun k _ hk => .inl hk)
  have F : Fr (fun k => k = d ∨ a0.ownBlock = some k) w (w5.setCell ⟨d, 2, none⟩ (.slice (some ⟨g, 0, none⟩) (D.s0.acts.length + 1) cap)) := (F5.mono fun k _ hk => .inr hk).trans ((Fr.set_ _ _).mono fun k _ hk => .inl (.inl hk))
  have hsz : (w5.setCell ⟨d, 2, none⟩ (.slice (some ⟨g, 0, none⟩) (D.s0.acts.length + 1) cap)).heap.size = w5.heap.size := by simp
  have hd5 := blk_fr F5 h.at_ (fun e => (h.r0 d e).2.2 rfl)
  have hgd : g ≠ d := by
    rcases hat with e | e
    · exact (h.r0 g e).2.2
    · omega
  have hI : ∀ k, I k → ¬ (k = d ∨ a0.ownBlock = some k) := fun k hk e => e.elim (fun e => h.id (e ▸ hk)) (fun e => (h.r0 k e).2.1 hk)
  have F4 : Fr (fun k => k = d ∨ a0.ownBlock = some k) w4 (w5.setCell ⟨d, 2, none⟩ (.slice (some ⟨g, 0, none⟩) (D.s0.acts.length + 1) cap)) := (h4.mono fun k _ hk => .inr hk).trans ((Fr.set_ _ _).mono fun k _ hk => .inl (.inl hk))
  refine h.puta0 (T := T) (blk_set hd5 _ _) F ⟨vs ++ [u], by simp [hvl], ?_, fun i v b hi hb' => ?_⟩ (fun k hk => ⟨(hT k hk).1, by have := (hT k hk).2; omega⟩) (fun k hk => ?_)
  · rw [List.length_append, looseCells_snoc _ _ _ _ hvl]
    exact own_fr hown (Fr.set_ _ _) (fun k hk e => by simp only [Value.ownBlock, Option.some.injEq] at hk; omega)
  · rcases Nat.lt_or_ge i D.s0.acts.length with hlt | hge
    · rw [List.getElem?_append_left (by omega)] at hi
      rw [List.getElem?_append_left hlt] at hb'
      exact ⟨(hve i v b hi hb').1.fr F hI (fun _ h => .inl h), (hve i v b hi hb').2⟩
    · rw [List.getElem?_append_right (by omega)] at hi
      rw [List.getElem?_append_right hge] at hb'
      have e : i - D.s0.acts.length = 0 := by
        have := (List.getElem?_eq_some_iff.1 hb').1
        simp at this; omega
      rw [hvl, e] at hi
      rw [e] at hb'
      simp at hi hb'
      subst hi hb'
      exact ⟨hu.fr F4 (fun k hk e => by have := hT k hk; rcases e with e | e; omega; have := hal k e; omega) (fun _ h => .inr h), ha⟩
  · simp only [Value.ownBlock, Option.some.injEq] at hk
    subst hk
    refine ⟨?_, fun e => ?_⟩
    · rcases hat with e | e
      · exact .inl e
      · exact .inr ⟨by omega, by omega⟩
    · have := hT g e
      rcases hat with e | e
      · have := hal g e; omega
      · omega
/-- a loose act more at slot 1 -/
theorem RV.more1 {w w4 w5 : World} {S I T : Nat → Prop} {d g cap : Nat} {l0 l1 a0 a1 u : Value} {D : Dk} {a : DAct} {vs : List Value} (h : RV w S I d l0 l1 a0 a1 D) (hb : Below w.heap.size w w4) (h4 : Fr (fun k => a1.ownBlock = some k) w4 w5) (hu : SlI w4 T u a.data) (ha : a.ok) (hT : ∀ k, T k → w.heap.size ≤ k ∧ k < w4.heap.size)
    (hvl : vs.length = D.s1.acts.length) (hve : ∀ (i : Nat) (v : Value) (b : DAct), vs[i]? = some v → D.s1.acts[i]? = some b → LAct w I v b)
    (hown : w5.ownsRow 0 92 2 (.slice (some ⟨g, 0, none⟩) (D.s1.acts.length + 1) cap) (D.s1.acts.length + 1) (looseCells vs D.s1.acts ++ [.bool (isW a), u])) (hat : a1.ownBlock = some g ∨ w4.heap.size ≤ g) (hgl : g < w5.heap.size) :
    Rt w (w5.setCell ⟨d, 3, none⟩ (.slice (some ⟨g, 0, none⟩) (D.s1.acts.length + 1) cap)) S d { D with s1 := ⟨D.s1.lasts, D.s1.acts ++ [a]⟩ } := by
  have hs4 := hb.size
  have hs5 := h4.size
  have hdl := h.lt d h.sd
  have hal : ∀ k, a1.ownBlock = some k → k < w.heap.size := fun k hk => h.lt k (h.r1 k hk).1
  have F5 : Fr (fun k => a1.ownBlock = some k) w w5 := ((Fr.of_below hb).mono fun _ _ h => h.elim).trans (h4.mono fun k _ hk => .inl hk)
  have F : Fr (fun k => k = d ∨ a1.ownBlock = some k) w (w5.setCell ⟨d, 3, none⟩ (.slice (some ⟨g, 0, none⟩) (D.s1.acts.length + 1) cap)) := (F5.mono fun k _ hk => .inr hk).trans ((Fr.set_ _ _).mono fun k _ hk => .inl (.inl hk))
  have hsz : (w5.setCell ⟨d, 3, none⟩ (.slice (some ⟨g, 0, none⟩) (D.s1.acts.length + 1) cap)).heap.size = w5.heap.size := by simp
  have hd5 := blk_fr F5 h.at_ (fun e => (h.r1 d e).2.2 rfl)
  have hgd : g ≠ d := by
    rcases hat with e | e
    · exact (h.r1 g e).2.2
    · omega
  have hI : ∀ k, I k → ¬ (k = d ∨ a1.ownBlock = some k) := fun k hk e => e.elim (fun e => h.id (e ▸ hk)) (fun e => (h.r1 k e).2.1 hk)
  have F4 : Fr (fun k => k = d ∨ a1.ownBlock = some k) w4 (w5.setCell ⟨d, 3, none⟩ (.slice (some ⟨g, 0, none⟩) (D.s1.acts.length + 1) cap)) := (h4.mono fun k _ hk => .inr hk).trans ((Fr.set_ _ _).mono fun k _ hk => .inl (.inl hk))
  refine h.puta1 (T := T) (blk_set hd5 _ _) F ⟨vs ++ [u], by simp [hvl], ?_, fun i v b hi hb' => ?_⟩ (fun k hk => ⟨(hT k hk).1, by have := (hT k hk).2; omega⟩) (fun k hk => ?_)
  · rw [List.length_append, looseCells_snoc _ _ _ _ hvl]
    exact own_fr hown (Fr.set_ _ _) (fun k hk e => by simp only [Value.ownBlock, Option.some.injEq] at hk; omega)
  · rcases Nat.lt_or_ge i D.s1.acts.length with hlt | hge
    · rw [List.getElem?_append_left (by omega)] at hi
      rw [List.getElem?_append_left hlt] at hb'
      exact ⟨(hve i v b hi hb').1.fr F hI (fun _ h => .inl h), (hve i v b hi hb').2⟩
    · rw [List.getElem?_append_right (by omega)] at hi
      rw [List.getElem?_append_right hge] at hb'
      have e : i - D.s1.acts.length = 0 := by
        have := (List.getElem?_eq_some_iff.1 hb').1
        simp at this; omega
      rw [hvl, e] at hi
      rw [e] at hb'
      simp at hi hb'
      subst hi hb'
      exact ⟨hu.fr F4 (fun k hk e => by have := hT k hk; rcases e with e | e; omega; have := hal k e; omega) (fun _ h => .inr h), ha⟩
  · simp only [Value.ownBlock, Option.some.injEq] at hk
    subst hk
    refine ⟨?_, fun e => ?_⟩
    · rcases hat with e | e
      · exact .inl e
      · exact .inr ⟨by omega, by omega⟩
    · have := hT g e
      rcases hat with e | e
      · have := hal g e; omega
      · omega
theorem infoLs : (Try.prog.info? 92).map (fun i => (i.zero, i.size, i.bytes)) = some (some (.agg #[.bool false, .slice none 0 0]), 2, 32) := by kernel_rfl
theorem eff_more (o : DOp) (i : Nat) (D : Dk) : (o.eff i D).more = o.eff i D.more := by
  cases o with
  | append l =>
    simp only [DOp.eff]
    by_cases h : 0 < l.length
    · rw [if_pos h, if_pos h]; unfold Dk.setSlot Dk.slot Dk.more; split <;> rfl
    · rw [if_neg h, if_neg h]
  | wipe => simp only [DOp.eff]; unfold Dk.setSlot Dk.slot Dk.more; split <;> rfl
  | sync => simp only [DOp.eff]; unfold Dk.setSlot Dk.slot Dk.more; split <;> rfl
  | switch => rfl
end Go.Proofs.Ytcadacljacbipaa
