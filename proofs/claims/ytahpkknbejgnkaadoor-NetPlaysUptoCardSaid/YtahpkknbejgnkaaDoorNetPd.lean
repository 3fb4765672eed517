/- The document's network: copied, node, Len, there, without, Flight. -/
import Derived.Test.YtahpkknbejgnkaaDoorNetPc
namespace Go.Proofs.YtahpkknbejgnkaaDoor
open Go.RowKit
/-- one more in a thing's list -/
theorem HV.more {t : TypeId} {S I J : Nat → Prop} {w w2 w3 w4 : World} {d g cap : Nat} {fv u : Value} {vs : List Value} {P : List Pkt} {p : Pkt} (h : HV t w S I d fv vs P) (hb : Below w.heap.size w w2) (hu : SlI w2 J u p.data)
    (hJ : ∀ k, J k → w.heap.size ≤ k ∧ k < w2.heap.size) (hb3 : Below w2.heap.size w2 w3)
    (hown : w4.ownsRow 0 32 6 (.slice (some ⟨g, 0, none⟩) (P.length + 1) cap) (P.length + 1) (pktCells vs P ++ p.cells u)) (hg : w3.grownBy w4 fv.ownBlock) (hat : fv.ownBlock = some g ∨ w2.heap.size ≤ g) :
    Ht t w (w4.setCell ⟨d, 0, none⟩ (.slice (some ⟨g, 0, none⟩) (P.length + 1) cap)) S d (P ++ [p]) := by
  obtain ⟨k1, k2⟩ := h.pv.more hb hu (fun k hk => .inr (hJ k hk)) hb3 hown hg hat
  have hdl := h.pv.lt d h.sd
  refine h.put (k2.mono fun k _ hk => ⟨(h.pv.r k hk).1, h.rd k hk⟩) k1 (fun k hk => hk) (fun e => e.elim h.id fun e => by have := (hJ d e).1; omega) (fun k hk => ?_)
  injection hk with hk
  have hk : g = k := hk
  subst hk
  rcases hat with h1 | h1
  · exact h.rd g h1
  · have := hb.size; omega
set_option maxRecDepth 100000 in
set_option maxHeartbeats 1000000 in
theorem rcopied_at (fk fi tk ti : Int) (l : List UInt8) (lost : Bool) (v : Value) (w : World) (h : SlB w v l) (hl : l.length ≤ 140737488355328) :
    Calls Tryd.prog 37 #[.agg #[.int .i64 fk, .int .i64 fi, .int .i64 tk, .int .i64 ti, v, .bool lost]] w fun e w' => ∃ u, e = .returned (.agg #[.int .i64 fk, .int .i64 fi, .int .i64 tk, .int .i64 ti, u, .bool lost]) ∧ OwnB w' w.heap.size u l ∧ Below w.heap.size w w' := by
  have H := hid h
  obtain ⟨A, c, rfl⟩ := h.form
  clear h
  go_enter Tryd.func37, Tryd.ntmps37
  go_upto_region 2 with (fail)
  refine Code.seen (fun W => W.heap[w.heap.size]? = some (.cells #[.int .i64 fk, .int .i64 fi, .int .i64 tk, .int .i64 ti, .slice A l.length c, .bool lost] 32 (0, 0)) ∧ W.heap[w.heap.size + 1]? = some (.cells #[.int .i64 0, .int .i64 0, .int .i64 0, .int .i64 0, .slice none 0 0, .bool false] 32 (0, 0)) ∧ W.heap.size = w.heap.size + 2 ∧ Below w.heap.size w W) ⟨?_, ?_, by simp, ((Below.refl _ _).alloc (Nat.le_refl _) _).alloc (by simp) _⟩ fun w1 Z1 => ?_
  · exact (heap_alloc_old _ _ (by simp)).trans (heap_alloc_new _ _)
  · have := heap_alloc_new (w.alloc (.cells #[.int .i64 fk, .int .i64 fi, .int .i64 tk, .int .i64 ti, .slice A l.length c, .bool lost] 32)) (.cells #[.int .i64 0, .int .i64 0, .int .i64 0, .int .i64 0, .slice none 0 0, .bool false] 32)
    simpa using this
  obtain ⟨x0, x1, x2, x3, x4, x5⟩ := pk_at Z1.out.1
  have HB1 := hid Z1.out.2.2.2
  have HZ1 := hid Z1.out.2.2.1
  have HR0 := hid Z1.out.1
  have HR1 := hid Z1.out.2.1
  clear Z1
  go_upto_region 3 with (at_builtin; refine wpList_appBX rfl (.tmp 4) (.tmp 6) rfl w1.heap.size (.slice none 0 0) (.slice A l.length c) [] l rfl rfl (OwnB.nil _ _) (H.out.below HB1.out) (by simp only [List.length_nil]; omega) (Nat.le_refl _) ?_; intro v2 w2 ho2 hg2 hat2; rw [List.nil_append] at ho2; obtain ⟨A2, c2, rfl⟩ := ho2.form; have HO2 := hid ho2; have hb2 : Below w1.heap.size w1 w2 := OwnB.grown (Below.refl _ _) (OwnB.nil _ _) (Nat.le_refl _) (Nat.le_refl _) hg2; have HB2 := hid hb2; have hbl1 := hid (blk_keep hb2 HR1.out (by rw [HZ1.out]; omega)); have hbl0 := hid (blk_keep hb2 HR0.out (by rw [HZ1.out]; omega)); have f1 : ∀ i, w2.frozen? ⟨w.heap.size, i, none⟩ = false := (fun i => blk_frozen hbl0.out i); obtain ⟨y0, y1, y2, y3, y4, y5⟩ := pk_at hbl0.out; clear ho2 hg2 hb2 x0 x1 x2 x3 x4 x5 hat2)
  have hs1 : w1.heap.size = w.heap.size + 2 := HZ1.out
  refine Code.seen (fun W => W.heap[w.heap.size + 1]? = some (.cells #[.int .i64 0, .int .i64 0, .int .i64 0, .int .i64 0, .slice none 0 0, .bool false] 32 (0, 0)) ∧ W.heap[w.heap.size]? = some (.cells #[.int .i64 fk, .int .i64 fi, .int .i64 tk, .int .i64 ti, .slice A2 l.length c2, .bool lost] 32 (0, 0)) ∧ OwnB W w1.heap.size (.slice A2 l.length c2) l ∧ Below w.heap.size w W) ⟨?_, ?_, ?_, ?_⟩ fun w3 Z3 => ?_
  · rw [heap_setCell_other _ _ _ _ (by simp)]; exact hbl1.out
  · rw [blk_set hbl0.out]; rfl
  · exact HO2.out.fr (Fr.set_ (g := w.heap.size) 4 _) (fun k hk e => by have := (World.ownsRow.lt HO2.out k hk).1; omega)
  · exact below_set (below_then HB1.out HB2.out) (Nat.le_refl _) _ _
  obtain ⟨x0, x1, x2, x3, x4, x5⟩ := pk_at Z3.out.2.1
  obtain ⟨z0, z1, z2, z3, z4, z5⟩ := pk_at Z3.out.1
  have hfz : ∀ i, w3.frozen? ⟨w.heap.size + 1, i, none⟩ = false := fun i => blk_frozen Z3.out.1 i
  clear y0 y1 y2 y3 y4 y5 f1 hbl0 hbl1
  go_wp2_with fail
  have e0 := hid (set6 Z3.out.1 (.int .i64 fk) (.int .i64 fi) (.int .i64 tk) (.int .i64 ti) (.slice A2 l.length c2) (.bool lost))
  have hf := fr6 w3 (w.heap.size + 1) (.int .i64 fk) (.int .i64 fi) (.int .i64 tk) (.int .i64 ti) (.slice A2 l.length c2) (.bool lost)
  have e1 := hid (Z3.out.2.2.1.fr hf (fun k hk e => by have := (World.ownsRow.lt Z3.out.2.2.1 k hk).1; omega))
  have e2 := hid (Z3.out.2.2.2.trans (hf.to_below (fun k hk e => by omega) Z3.out.2.2.2.size))
  clear x0 x1 x2 x3 x4 x5 z0 z1 z2 z3 z4 z5 hfz hf
  generalize ((((((w3.setCell ⟨w.heap.size + 1, 0, none⟩ (.int .i64 fk)).setCell ⟨w.heap.size + 1, 1, none⟩ (.int .i64 fi)).setCell ⟨w.heap.size + 1, 2, none⟩ (.int .i64 tk)).setCell ⟨w.heap.size + 1, 3, none⟩ (.int .i64 ti)).setCell ⟨w.heap.size + 1, 4, none⟩ (.slice A2 l.length c2)).setCell ⟨w.heap.size + 1, 5, none⟩ (.bool lost)) = w5 at *
  obtain ⟨q0, q1, q2, q3, q4, q5⟩ := pk_at e0.out
  have R := hid (And.intro (own_base e1.out (show w.heap.size ≤ w1.heap.size by omega)) e2.out)
  clear e0 e1 e2 Z3
  refine bodyPost_ret (v := .agg #[.int .i64 fk, .int .i64 fi, .int .i64 tk, .int .i64 ti, .slice A2 l.length c2, .bool lost]) ?_ rfl ⟨_, rfl, R.out⟩
  simp [results, Tryd.results37, go_sem, *]
set_option maxHeartbeats 1000000 in
theorem node_any (k i : Int) (w : World) : Calls Tryd.prog 39 #[.agg #[.int .i64 k, .int .i64 i]] w fun e w' => e = .returned (.bool (okNode k i)) ∧ Below w.heap.size w w' := by
  have HB := hid ((Below.refl w.heap.size w).alloc (Nat.le_refl _) (.cells #[.int .i64 k, .int .i64 i] 29))
  by_cases h1 : k = 1
  · subst h1
    by_cases ha : 0 ≤ i
    · by_cases hb : i < 255
      all_goals
        go_enter Tryd.func39, Tryd.ntmps39
        go_wp2_with fail
        go_ret
        exact ⟨by simp [okNode, *] <;> omega, HB.out⟩
    · go_enter Tryd.func39, Tryd.ntmps39
      go_wp2_with fail
      go_ret
      exact ⟨by simp [okNode, *] <;> omega, HB.out⟩
  · by_cases h2 : k = 2
    · subst h2
      by_cases ha : 1 ≤ i
      · by_cases hb : i ≤ 65535
        all_goals
          go_enter Tryd.func39, Tryd.ntmps39
          go_wp2_with fail
          go_ret
          exact ⟨by simp [okNode, *] <;> omega, HB.out⟩
      · go_enter Tryd.func39, Tryd.ntmps39
        go_wp2_with fail
        go_ret
        exact ⟨by simp [okNode, *] <;> omega, HB.out⟩
    · go_enter Tryd.func39, Tryd.ntmps39
      go_wp2_with fail
      go_ret
      exact ⟨by simp [okNode, *] <;> omega, HB.out⟩
abbrev RAt (w : World) (S : Nat → Prop) (d : Nat) (P : List Pkt) : Prop := HAt 61 w S d P
abbrev RAtt (w w' : World) (S : Nat → Prop) (d : Nat) (P : List Pkt) : Prop := Ht 61 w w' S d P
theorem HAt.c0 {t : TypeId} {w : World} {S : Nat → Prop} {d : Nat} {P : List Pkt} (h : HAt t w S d P) : ∃ A c, w.cell? ⟨d, 0, none⟩ = some (.slice A P.length c) := by
  obtain ⟨I, fv, vs, h⟩ := h
  obtain ⟨A, c, rfl⟩ := own_form h.pv.row
  exact ⟨A, c, by rw [blk_cell h.at_]; rfl⟩
theorem rLen_any (w : World) (S : Nat → Prop) (d : Nat) (P : List Pkt) (h : RAt w S d P) : Calls Tryd.prog 17 #[.pointer (some ⟨d, 0, none⟩)] w fun e w' => e = .returned (.int .i64 (P.length : Int)) ∧ w' = w := by
  obtain ⟨A, c, c0⟩ := h.c0
  clear h
  go_enter Tryd.func17, Tryd.ntmps17
  go_wp2
  go_ret
  exact ⟨rfl, rfl⟩
theorem rLen_nil (w : World) : Calls Tryd.prog 17 #[.pointer none] w fun e w' => e = .returned (.int .i64 0) ∧ w' = w := by
  go_enter Tryd.func17, Tryd.ntmps17
  go_wp2
  go_ret
  exact ⟨rfl, rfl⟩
theorem there_yes (w : World) (S : Nat → Prop) (d : Nat) (P : List Pkt) (i : Nat) (h : RAt w S d P) (hi : i < P.length) : Calls Tryd.prog 40 #[.pointer (some ⟨d, 0, none⟩), .int .i64 (i : Int)] w fun e w' => e = .returned (.bool true) ∧ w' = w := by
  obtain ⟨A, c, c0⟩ := h.c0
  have i1 : (i : Int) < (P.length : Int) := by omega
  clear h
  go_enter Tryd.func40, Tryd.ntmps40
  go_wp2
  go_ret
  exact ⟨by simp <;> omega, rfl⟩
theorem there_no (w : World) (S : Nat → Prop) (d : Nat) (P : List Pkt) (i : Int) (h : RAt w S d P) (hi : i < 0 ∨ (P.length : Int) ≤ i) : Calls Tryd.prog 40 #[.pointer (some ⟨d, 0, none⟩), .int .i64 i] w fun e w' => e = .returned (.bool false) ∧ w' = w := by
  obtain ⟨A, c, c0⟩ := h.c0
  clear h
  by_cases h0 : i < 0
  case' neg => have h1 : (P.length : Int) ≤ i := by omega
  all_goals
    clear hi
    go_enter Tryd.func40, Tryd.ntmps40
    go_wp2
    go_ret
    exact ⟨by simp <;> omega, rfl⟩
end Go.Proofs.YtahpkknbejgnkaaDoor
