/- A network as it lies; copied, isNode. -/
import Derived.Test.YtahpkknbejgnkaaDoorNetM
import Derived.Laws.CopyOwn
namespace Go.Proofs.YtahpkknbejgnkaaDoor
open Go.RowKit
theorem own_row {w : World} {base g : Nat} {l : List UInt8} {t : TypeId} (ht : t = 5) (h : w.heap[g]? = some (.cells (l.map B).toArray t (0, 0))) (hb : base ≤ g) (hl : l.length ≤ maxLen) : OwnB w base (.slice (some ⟨g, 0, none⟩) l.length l.length) l := by
  subst ht
  refine ⟨by simp, .inr ⟨g, l.length, _, rfl, hb, h, Nat.le_refl _, hl, by simp, by simp [List.take_of_length_le]⟩⟩
theorem own_heap {w : World} {base g n : Nat} {l : List UInt8} (h : OwnB w base (.slice (some ⟨g, 0, none⟩) n n) l) : w.heap[g]? = some (.cells (l.map B).toArray 5 (0, 0)) ∧ n = l.length ∧ base ≤ g := by
  have hn := h.base_le.2
  obtain ⟨_, ⟨h, _⟩ | ⟨g', cap, cur, h, hb, hg, h1, h2, h3, h4⟩⟩ := h
  · cases h
  · injection h with e1 e2 e3
    injection e1 with e1
    injection e1 with e1
    subst e1 e3
    refine ⟨?_, hn, hb⟩
    rw [hg, ← h4, List.take_of_length_le (by simp [h3]; omega)]
theorem mapB_one (l : List UInt8) : ∀ v ∈ l.map B, v.oneCell' = true := by
  intro v hv
  obtain ⟨b, _, rfl⟩ := List.mem_map.1 hv
  rfl
theorem sl_src {w : World} {A : Option Addr} {n c : Nat} {l : List UInt8} (h : SlB w (.slice A n c) l) (h0 : 0 < (l.map B).length) : ∃ ad, A = some ad ∧ ∀ j v, (l.map B)[j]? = some v → w.cell? (ad.add j) = some v := by
  obtain ⟨A', c', e, h1, h2, h3⟩ := h
  injection e with e1 e2 e3
  subst e1
  obtain ⟨b, off, rfl, hc⟩ := h3 (by simpa using h0)
  refine ⟨_, rfl, fun j v hj => ?_⟩
  have hjl : j < l.length := by have := (List.getElem?_eq_some_iff.1 hj).1; simpa using this
  have e : (⟨b, off, none⟩ : Addr).add j = ⟨b, off + j, none⟩ := by unfold Addr.add; split <;> simp_all
  rw [e, hc j hjl]
  rw [List.getElem?_map, List.getElem?_eq_getElem hjl] at hj
  injection hj with hj
  simp only [← hj]
  simp [hjl]
set_option maxHeartbeats 1000000 in
theorem copied_any (p : Pkt) (v : Value) (w : World) (h : SlB w v p.data) (hl : p.data.length ≤ 140737488355328) :
    Calls Tryd.prog 24 #[p.val v] w fun e w' => ∃ u, e = .returned (p.val u) ∧ OwnB w' w.heap.size u p.data ∧ Below w.heap.size w w' := by
  obtain ⟨fk, fi, tk, ti, l, lost⟩ := p
  have H := hid h
  obtain ⟨A, c, rfl⟩ := h.form
  unfold Pkt.val
  simp only at hl ⊢
  clear h
  go_enter Tryd.func24, Tryd.ntmps24
  go_upto_region 1 with (fail)
  refine Code.seen (fun W => W.heap[w.heap.size]? = some (.cells #[.int .i64 fk, .int .i64 fi, .int .i64 tk, .int .i64 ti, .slice A l.length c, .bool lost] 32 (0, 0)) ∧ W.heap[w.heap.size + 1]? = some (.cells #[.int .i64 0, .int .i64 0, .int .i64 0, .int .i64 0, .slice none 0 0, .bool false] 32 (0, 0)) ∧ W.heap.size = w.heap.size + 2 ∧ Below w.heap.size w W) ⟨?_, ?_, by simp, ((Below.refl _ _).alloc (Nat.le_refl _) _).alloc (by simp) _⟩ fun w1 H1 => ?_
  · exact (heap_alloc_old _ _ (by simp)).trans (heap_alloc_new _ _)
  · have := heap_alloc_new (w.alloc (.cells #[.int .i64 fk, .int .i64 fi, .int .i64 tk, .int .i64 ti, .slice A l.length c, .bool lost] 32 (0, 0))) (.cells #[.int .i64 0, .int .i64 0, .int .i64 0, .int .i64 0, .slice none 0 0, .bool false] 32 (0, 0))
    simpa using this
  obtain ⟨w2, hmk, ho, hb2⟩ := make_bytes w1 l.length (by omega)
  obtain ⟨o1, -, o3⟩ := own_heap ho
  have HO := hid o1
  have HB2 := hid (H1.out.2.2.2.trans (hb2.mono H1.out.2.2.2.size))
  have hk := hid (fun k (hk : k < w1.heap.size) => hb2.block k hk)
  have hz := H1.out.2.2.1
  have y4 : w1.cell? ⟨w.heap.size, 4, none⟩ = some (.slice A l.length c) := by rw [blk_cell H1.out.1]; rfl
  have hbk : w2.heap[w.heap.size]? = some (.cells #[.int .i64 fk, .int .i64 fi, .int .i64 tk, .int .i64 ti, .slice A l.length c, .bool lost] 32 (0, 0)) := (hk.out _ (by omega)).trans H1.out.1
  have z4 : w2.cell? ⟨w.heap.size, 4, none⟩ = some (.slice A l.length c) := by rw [blk_cell hbk]; rfl
  have HBK := hid hbk
  have HBR : Hid (w2.heap[w.heap.size + 1]? = some (.cells #[.int .i64 0, .int .i64 0, .int .i64 0, .int .i64 0, .slice none 0 0, .bool false] 32 (0, 0))) := hid ((hk.out _ (by omega)).trans H1.out.2.1)
  have HS : Hid (SlB w2 (.slice A l.length c) l) := hid (H.out.below HB2.out)
  have HSZ := hid hz
  clear hbk ho o1 o3 hb2 hz hk
  go_upto_region 3 with (with_reducible show wpList _ _ _ (⟨some 11, _, _, _, _, _⟩ :: _) _ _; (refine wpList_copy_splice rfl (.tmp 8) (.tmp 10) 30 30 rfl 5 Tryd.underlying30 (by kernel_rfl) (some ⟨w1.heap.size, 0, none⟩) A l.length l.length l.length c rfl rfl w1.heap.size 0 _ _ HO.out (l.map B) (by simp) (fun h0 => ⟨rfl, sl_src HS.out h0⟩) (by simp) (mapB_one l) w1.heap.size w2 (Below.refl _ _) (Nat.le_refl _) ?_); intro w3 hg3 hb3; have HB3 := hid hb3; clear hb3)
  have hz := HSZ.out
  have HBK3 := hid ((HB3.out.block w.heap.size (by omega)).trans HBK.out)
  have HBR3 := hid ((HB3.out.block (w.heap.size + 1) (by omega)).trans HBR.out)
  have HBL3 := hid (HB2.out.trans (HB3.out.mono (by omega)))
  have HO3 : Hid (OwnB w3 w.heap.size (.slice (some ⟨w1.heap.size, 0, none⟩) l.length l.length) l) := hid (own_row (t := 5) rfl (by have := hg3.out; simpa [splice] using this) (by omega) (by unfold maxLen; omega))
  clear hz y4 z4 hmk HBK HBR HB3 HS HO hg3 HB2
  have c4 : w3.cell? ⟨w.heap.size, 4, none⟩ = some (.slice A l.length c) := by rw [blk_cell HBK3.out]; rfl
  have f4 : w3.frozen? ⟨w.heap.size, 4, none⟩ = false := blk_frozen HBK3.out _
  go_upto_region 4 with (fail)
  have hz := HSZ.out
  refine Code.seen (fun W => W.heap[w.heap.size]? = some (.cells #[.int .i64 fk, .int .i64 fi, .int .i64 tk, .int .i64 ti, .slice (some ⟨w1.heap.size, 0, none⟩) l.length l.length, .bool lost] 32 (0, 0)) ∧ W.heap[w.heap.size + 1]? = some (.cells #[.int .i64 0, .int .i64 0, .int .i64 0, .int .i64 0, .slice none 0 0, .bool false] 32 (0, 0)) ∧ OwnB W w.heap.size (.slice (some ⟨w1.heap.size, 0, none⟩) l.length l.length) l ∧ Below w.heap.size w W) ⟨?_, ?_, ?_, below_set HBL3.out (Nat.le_refl _) _ _⟩ fun w4 H4 => ?_
  · rw [blk_set HBK3.out]; rfl
  · rw [heap_setCell_other _ _ _ _ (by simp)]; exact HBR3.out
  · exact HO3.out.fr (Fr.set_ (g := w.heap.size) 4 _) (fun k hk e => by injection hk with hk; simp at hk; omega)
  clear hz c4 f4 HBK3 HBR3 HBL3 HO3 H1
  have x0 : w4.cell? ⟨w.heap.size, 0, none⟩ = some (.int .i64 fk) := by rw [blk_cell H4.out.1]; rfl
  have x1 : w4.cell? ⟨w.heap.size, 1, none⟩ = some (.int .i64 fi) := by rw [blk_cell H4.out.1]; rfl
  have x2 : w4.cell? ⟨w.heap.size, 2, none⟩ = some (.int .i64 tk) := by rw [blk_cell H4.out.1]; rfl
  have x3 : w4.cell? ⟨w.heap.size, 3, none⟩ = some (.int .i64 ti) := by rw [blk_cell H4.out.1]; rfl
  have x4 : w4.cell? ⟨w.heap.size, 4, none⟩ = some (.slice (some ⟨w1.heap.size, 0, none⟩) l.length l.length) := by rw [blk_cell H4.out.1]; rfl
  have x5 : w4.cell? ⟨w.heap.size, 5, none⟩ = some (.bool lost) := by rw [blk_cell H4.out.1]; rfl
  have y0 : w4.cell? ⟨w.heap.size + 1, 0, none⟩ = some (.int .i64 0) := by rw [blk_cell H4.out.2.1]; rfl
  have y1 : w4.cell? ⟨w.heap.size + 1, 1, none⟩ = some (.int .i64 0) := by rw [blk_cell H4.out.2.1]; rfl
  have y2 : w4.cell? ⟨w.heap.size + 1, 2, none⟩ = some (.int .i64 0) := by rw [blk_cell H4.out.2.1]; rfl
  have y3 : w4.cell? ⟨w.heap.size + 1, 3, none⟩ = some (.int .i64 0) := by rw [blk_cell H4.out.2.1]; rfl
  have y4 : w4.cell? ⟨w.heap.size + 1, 4, none⟩ = some (.slice none 0 0) := by rw [blk_cell H4.out.2.1]; rfl
  have y5 : w4.cell? ⟨w.heap.size + 1, 5, none⟩ = some (.bool false) := by rw [blk_cell H4.out.2.1]; rfl
  have hfz : ∀ i, w4.frozen? ⟨w.heap.size + 1, i, none⟩ = false := fun i => blk_frozen H4.out.2.1 i
  go_wp2_with fail
  have e0 := (blk_set (blk_set (blk_set (blk_set (blk_set (blk_set H4.out.2.1 0 (.int .i64 fk)) 1 (.int .i64 fi)) 2 (.int .i64 tk)) 3 (.int .i64 ti)) 4 (.slice (some ⟨w1.heap.size, 0, none⟩) l.length l.length)) 5 (.bool lost))
  have e1 : Below w.heap.size w ((((((w4.setCell ⟨w.heap.size + 1, 0, none⟩ (.int .i64 fk)).setCell ⟨w.heap.size + 1, 1, none⟩ (.int .i64 fi)).setCell ⟨w.heap.size + 1, 2, none⟩ (.int .i64 tk)).setCell ⟨w.heap.size + 1, 3, none⟩ (.int .i64 ti)).setCell ⟨w.heap.size + 1, 4, none⟩ (.slice (some ⟨w1.heap.size, 0, none⟩) l.length l.length)).setCell ⟨w.heap.size + 1, 5, none⟩ (.bool lost)) := (below_set (below_set (below_set (below_set (below_set (below_set H4.out.2.2.2 (Nat.le_succ _) 0 _) (Nat.le_succ _) 1 _) (Nat.le_succ _) 2 _) (Nat.le_succ _) 3 _) (Nat.le_succ _) 4 _) (Nat.le_succ _) 5 _)
  have e2 : OwnB ((((((w4.setCell ⟨w.heap.size + 1, 0, none⟩ (.int .i64 fk)).setCell ⟨w.heap.size + 1, 1, none⟩ (.int .i64 fi)).setCell ⟨w.heap.size + 1, 2, none⟩ (.int .i64 tk)).setCell ⟨w.heap.size + 1, 3, none⟩ (.int .i64 ti)).setCell ⟨w.heap.size + 1, 4, none⟩ (.slice (some ⟨w1.heap.size, 0, none⟩) l.length l.length)).setCell ⟨w.heap.size + 1, 5, none⟩ (.bool lost)) w.heap.size (.slice (some ⟨w1.heap.size, 0, none⟩) l.length l.length) l := by
    have ho := H4.out.2.2.1
    have hne : ∀ k, (Value.slice (some ⟨w1.heap.size, 0, none⟩) l.length l.length).ownBlock = some k → ¬ k = w.heap.size + 1 := by
      intro k hk e
      injection hk with hk
      have hk : w1.heap.size = k := hk
      have := HSZ.out
      omega
    exact (((((ho.fr (Fr.set_ _ _) hne).fr (Fr.set_ _ _) hne).fr (Fr.set_ _ _) hne).fr (Fr.set_ _ _) hne).fr (Fr.set_ _ _) hne).fr (Fr.set_ _ _) hne
  generalize ((((((w4.setCell ⟨w.heap.size + 1, 0, none⟩ (.int .i64 fk)).setCell ⟨w.heap.size + 1, 1, none⟩ (.int .i64 fi)).setCell ⟨w.heap.size + 1, 2, none⟩ (.int .i64 tk)).setCell ⟨w.heap.size + 1, 3, none⟩ (.int .i64 ti)).setCell ⟨w.heap.size + 1, 4, none⟩ (.slice (some ⟨w1.heap.size, 0, none⟩) l.length l.length)).setCell ⟨w.heap.size + 1, 5, none⟩ (.bool lost)) = w5 at e0 e1 e2 ⊢
  have q0 : w5.cell? ⟨w.heap.size + 1, 0, none⟩ = some (.int .i64 fk) := by rw [blk_cell e0]; rfl
  have q1 : w5.cell? ⟨w.heap.size + 1, 1, none⟩ = some (.int .i64 fi) := by rw [blk_cell e0]; rfl
  have q2 : w5.cell? ⟨w.heap.size + 1, 2, none⟩ = some (.int .i64 tk) := by rw [blk_cell e0]; rfl
  have q3 : w5.cell? ⟨w.heap.size + 1, 3, none⟩ = some (.int .i64 ti) := by rw [blk_cell e0]; rfl
  have q4 : w5.cell? ⟨w.heap.size + 1, 4, none⟩ = some (.slice (some ⟨w1.heap.size, 0, none⟩) l.length l.length) := by rw [blk_cell e0]; rfl
  have q5 : w5.cell? ⟨w.heap.size + 1, 5, none⟩ = some (.bool lost) := by rw [blk_cell e0]; rfl
  clear e0 H4 x0 x1 x2 x3 x4 x5 y0 y1 y2 y3 y4 y5 hfz
  refine bodyPost_ret (v := .agg #[.int .i64 fk, .int .i64 fi, .int .i64 tk, .int .i64 ti, .slice (some ⟨w1.heap.size, 0, none⟩) l.length l.length, .bool lost]) ?_ rfl ⟨_, rfl, e2, e1⟩
  simp [results, Tryd.results24, go_sem, *]
set_option maxHeartbeats 1000000 in
theorem isNode_any (k i : Int) (w : World) : Calls Tryd.prog 38 #[.agg #[.int .i64 k, .int .i64 i]] w fun e w' => e = .returned (.bool (okNode k i)) ∧ Below w.heap.size w w' := by
  have HB := hid ((Below.refl w.heap.size w).alloc (Nat.le_refl _) (.cells #[.int .i64 k, .int .i64 i] 29))
  by_cases h1 : k = 1
  · subst h1
    by_cases ha : 0 ≤ i
    · by_cases hb : i < 255
      · go_enter Tryd.func38, Tryd.ntmps38
        go_wp2_with fail
        go_ret
        exact ⟨by simp [okNode, *] <;> omega, HB.out⟩
      · go_enter Tryd.func38, Tryd.ntmps38
        go_wp2_with fail
        go_ret
        exact ⟨by simp [okNode, *] <;> omega, HB.out⟩
    · go_enter Tryd.func38, Tryd.ntmps38
      go_wp2_with fail
      go_ret
      exact ⟨by simp [okNode, *] <;> omega, HB.out⟩
  · by_cases h2 : k = 2
    · subst h2
      by_cases ha : 1 ≤ i
      · by_cases hb : i ≤ 65535
        · go_enter Tryd.func38, Tryd.ntmps38
          go_wp2_with fail
          go_ret
          exact ⟨by simp [okNode, *] <;> omega, HB.out⟩
        · go_enter Tryd.func38, Tryd.ntmps38
          go_wp2_with fail
          go_ret
          exact ⟨by simp [okNode, *] <;> omega, HB.out⟩
      · go_enter Tryd.func38, Tryd.ntmps38
        go_wp2_with fail
        go_ret
        exact ⟨by simp [okNode, *] <;> omega, HB.out⟩
    · go_enter Tryd.func38, Tryd.ntmps38
      go_wp2_with fail
      go_ret
      exact ⟨by simp [okNode, *] <;> omega, HB.out⟩
end Go.Proofs.YtahpkknbejgnkaaDoor
