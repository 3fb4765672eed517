/- One taken out of those in flight. -/
import Derived.Test.YtahpkknbejgnkaaDoorNetD
namespace Go.Proofs.YtahpkknbejgnkaaDoor
open Go.RowKit
theorem pk_one : ∀ (vs : List Value) (P : List Pkt), (∀ (i : Nat) (u : Value) (p : Pkt), vs[i]? = some u → P[i]? = some p → u.oneCell' = true) → ∀ v ∈ pktCells vs P, v.oneCell' = true
  | [], _, _, v, hv => by simp [pktCells] at hv
  | _ :: _, [], _, v, hv => by simp [pktCells] at hv
  | u :: vs, p :: P, h, v, hv => by
    rw [pktCells, List.mem_append] at hv
    rcases hv with hv | hv
    · exact cells_one p u (h 0 u p rfl rfl) v hv
    · exact pk_one vs P (fun i u p hu hp => h (i + 1) u p (by simpa using hu) (by simpa using hp)) v hv
theorem NV.one {w : World} {S I : Nat → Prop} {d : Nat} {fv : Value} {vs : List Value} {P : List Pkt} (h : NV w S I d fv vs P) : ∀ v ∈ pktCells vs P, v.oneCell' = true :=
  pk_one vs P fun i u p hu hp => by
    obtain ⟨A, c, rfl⟩ := (h.each i u p hu hp).sl.form
    rfl
theorem own_of_row {w : World} {g n s e : Nat} {xs : List Value} (h : w.heap[g]? = some (.cells xs.toArray e (0, 0))) (hl : xs.length = n * s) (hn : n ≤ maxLen) : w.ownsRow 0 e s (.slice (some ⟨g, 0, none⟩) n n) n xs :=
  ⟨hl, .inr ⟨g, n, _, rfl, Nat.zero_le _, h, Nat.le_refl _, hn, by simp [hl], by simp [← hl]⟩⟩
/-- one datagram less -/
theorem NV.less {S I : Nat → Prop} {w w3 : World} {d i m : Nat} {fv : Value} {vs : List Value} {P : List Pkt} (h : NV w S I d fv vs P) (hi : i < P.length) (hm : P.length = m + 1) (hml : m ≤ maxLen) (hb : Below w.heap.size w w3)
    (hrow : w3.heap[w.heap.size]? = some (.cells ((pktCells vs P).take (i * 6) ++ (pktCells vs P).drop ((i + 1) * 6)).toArray 32 (0, 0))) :
    Nt w (w3.setCell ⟨d, 0, none⟩ (.slice (some ⟨w.heap.size, 0, none⟩) m m)) S d (P.eraseIdx i) := by
  have hdl := h.lt d h.sd
  have hd3 := blk_keep hb h.at_ hdl
  have hset : Fr (fun k => k = d) w3 (w3.setCell ⟨d, 0, none⟩ (.slice (some ⟨w.heap.size, 0, none⟩) m m)) := Fr.set_ (g := d) 0 _
  have hlen : (P.eraseIdx i).length = m := by rw [List.length_eraseIdx, if_pos hi]; omega
  have hsz : (w3.setCell ⟨d, 0, none⟩ (.slice (some ⟨w.heap.size, 0, none⟩) m m)).heap.size = w3.heap.size := by simp
  have hfr : Fr (fun k => k = d) w (w3.setCell ⟨d, 0, none⟩ (.slice (some ⟨w.heap.size, 0, none⟩) m m)) := ((Fr.of_below hb).mono fun _ _ h => h.elim).trans (hset.mono fun k _ e => .inl e)
  have hgl := blk_lt hrow
  refine ⟨⟨I, .slice (some ⟨w.heap.size, 0, none⟩) m m, vs.eraseIdx i, ?_⟩, hfr.mono fun k _ e => e ▸ h.sd⟩
  constructor
  · rw [blk_set hd3]; rfl
  · rw [List.length_eraseIdx, List.length_eraseIdx, h.len]
  · rw [hlen]
    refine own_fr (own_of_row (xs := pktCells (vs.eraseIdx i) (P.eraseIdx i)) ?_ ?_ hml) hset (fun k hk e => by injection hk with hk; have hk : w.heap.size = k := hk; omega)
    · rw [pktCells_erase _ _ _ h.len]; exact hrow
    · rw [pktCells_length _ _ (by rw [List.length_eraseIdx, List.length_eraseIdx, h.len]), hlen]
  · intro j u q hu hq
    rw [List.getElem?_eraseIdx] at hu hq
    have hx : ∀ k, I k → ¬ k = d := fun k hk e => h.id (e ▸ hk)
    split at hu
    · rw [if_pos (by assumption)] at hq
      exact (h.each j u q hu hq).fr hfr hx (fun _ h => h)
    · rw [if_neg (by assumption)] at hq
      exact (h.each _ u q hu hq).fr hfr hx (fun _ h => h)
  · exact .inl h.sd
  · exact h.id
  · exact fun k hk => .inl (h.is k hk)
  · rintro k (hk | hk)
    · have := h.lt k hk; rw [hsz]; omega
    · exact hk.2
  · intro k hk
    injection hk with hk
    have hk : w.heap.size = k := hk
    subst hk
    exact ⟨.inr ⟨Nat.le_refl _, by rw [hsz]; exact hgl⟩, fun e => by have := h.lt _ (h.is _ e); omega, by omega⟩
theorem splice_two {α : Type} (xs T D : List α) (k : Nat) (hT : T.length = k) (hx : xs.length = k + D.length) : splice (splice xs 0 T) k D = T ++ D := by
  have e1 : splice xs 0 T = T ++ xs.drop k := by unfold splice; simp [hT]
  unfold splice at e1 ⊢
  rw [e1, List.take_append_of_le_length (by omega), List.take_of_length_le (by omega), List.drop_of_length_le (by simp [hT, hx]), List.append_nil]
theorem splice_nil {α : Type} (xs : List α) : splice xs 0 [] = xs := by unfold splice; simp
theorem splice_one {α : Type} (xs T : List α) (hx : xs.length = T.length) : splice xs 0 T = T := by
  unfold splice; simp [← hx]
set_option maxRecDepth 100000 in
set_option maxHeartbeats 4000000 in
theorem drop_at (w : World) (S : Nat → Prop) (d : Nat) (P : List Pkt) (i : Nat) (a : Int) (pat : Int) (h : NAt w S d P) (hi : i < P.length) (hP : P.length ≤ 1099511627776) :
    Calls Tryd.prog 60 #[.pointer (some ⟨d, 0, none⟩), .int .i64 (i : Int), .int .i64 a, .int .u32 pat] w fun e w' => e = .returned (.int .i64 0) ∧ Nt w w' S d (P.eraseIdx i) := by
  obtain ⟨I, fv, vs, hN⟩ := h
  have hrow := hN.row
  obtain ⟨hxl, ⟨_, h0⟩ | ⟨g, cap, cur, rfl, _, hg, hn, hm, hs, htake⟩⟩ := hrow
  · omega
  have c0 : w.cell? ⟨d, 0, none⟩ = some (.slice (some ⟨g, 0, none⟩) P.length cap) := by rw [blk_cell hN.at_]; rfl
  have HN := hid hN
  have HG := hid hg
  have HT := hid htake
  have HS := hid hs
  obtain ⟨m, hm1⟩ : ∃ m, P.length = m + 1 := ⟨P.length - 1, by omega⟩
  obtain ⟨w1, xs, hmk, hxs, hxl2, hb1⟩ := make_pkts w m (by omega)
  have hic : i ≤ cap := by omega
  have hic2 : i + 1 ≤ cap := by omega
  have HXS := hid hxs
  have HXL := hid hxl2
  have HB1 := hid hb1
  have c1 : w1.cell? ⟨d, 0, none⟩ = some (.slice (some ⟨g, 0, none⟩) P.length cap) := (hb1.cell (p := ⟨d, 0, none⟩) (hN.lt d hN.sd)).trans c0
  have HSRC : Hid (∀ W, Below w.heap.size w W → ∀ (o j : Nat) (v : Value), o * 6 + j < P.length * 6 → (pktCells vs P)[o * 6 + j]? = some v → W.cell? ⟨g, o * 6 + j, none⟩ = some v) := hid fun W hb o j v hj hv => by
    rw [hb.cell (p := ⟨g, o * 6 + j, none⟩) (blk_lt hg), blk_cell hg, ← hv, ← htake, List.getElem?_take_of_lt hj]
    simp
  have him : i ≤ m := by omega
  have hm2 : m ≤ 1099511627776 := by omega
  have hic3 : m + 1 ≤ cap := by omega
  have HCL : Hid ((pktCells vs P).length = (m + 1) * 6) := hid (by rw [hxl, hm1])
  have HM1 := hid hm1
  rw [hm1] at c0 c1
  have HO1 : Hid (∀ v ∈ (pktCells vs P).take (i * 6), v.oneCell' = true) := hid (fun v hv => hN.one v (List.mem_of_mem_take hv))
  have HSR : Hid (∀ W, Below w.heap.size w W → ∀ (j : Nat) (v : Value), ((pktCells vs P).take (i * 6))[j]? = some v → W.cell? ((⟨g, 0, none⟩ : Addr).add j) = some v) := hid fun W hb j v hv => by
    have hjl := (List.getElem?_eq_some_iff.1 hv).1
    rw [List.length_take] at hjl
    rw [List.getElem?_take_of_lt (by omega)] at hv
    have e : (⟨g, 0, none⟩ : Addr).add j = ⟨g, j, none⟩ := by unfold Addr.add; split <;> simp_all
    rw [e, hb.cell (p := ⟨g, j, none⟩) (blk_lt hg), blk_cell hg, ← hv, ← htake, List.getElem?_take_of_lt (by omega)]
    simp
  have HO2 := hid hN.one
  have HSR2 : Hid (∀ W : World, W.heap[g]? = some (.cells cur 32 (0, 0)) → ∀ (j : Nat) (v : Value), ((pktCells vs P).drop ((i + 1) * 6))[j]? = some v → W.cell? ((⟨g, (i + 1) * 6, none⟩ : Addr).add j) = some v) := hid fun W hb j v hv => by
    rw [List.getElem?_drop] at hv
    have hjl := (List.getElem?_eq_some_iff.1 hv).1
    have e : (⟨g, (i + 1) * 6, none⟩ : Addr).add j = ⟨g, (i + 1) * 6 + j, none⟩ := by unfold Addr.add; split <;> simp_all
    rw [e, blk_cell hb, ← hv, ← htake, List.getElem?_take_of_lt (by omega)]
    simp
  clear hN hg hs htake hxs hxl2 hb1 hxl hm1 hi hP hn
  go_enter Tryd.func60, Tryd.ntmps60
  go_upto_region 3 with (with_reducible show wpList _ _ _ (⟨some 24, _, _, _, _, _⟩ :: _) _ _; (refine wpList_copyN rfl (.tmp 17) (.tmp 23) 25 25 rfl 32 Tryd.underlying25 6 (by kernel_rfl) w.heap.size 0 m m ⟨g, 0, none⟩ i cap i rfl rfl xs 32 HXS.out ((pktCells vs P).take (i * 6)) (Nat.min_eq_left him).symm (by rw [List.length_take, HCL.out]; omega) (HSR.out _ HB1.out) (by rw [List.length_take, HCL.out, HXL.out]; omega) HO1.out ?_); intro w2 hw2 hf2; have HF2 := hid hf2; clear hf2)
  have hdl : d < w.heap.size := HN.out.lt d HN.out.sd
  have HD1 := hid (blk_keep HB1.out HN.out.at_ hdl)
  have HD2 := hid (blk_fr HF2.out HD1.out (by omega))
  have c2 : w2.cell? ⟨d, 0, none⟩ = some (.slice (some ⟨g, 0, none⟩) (m + 1) cap) := by rw [blk_cell HD2.out, HM1.out]; rfl
  have HG2 : Hid (w2.heap[g]? = some (.cells cur 32 (0, 0))) := hid (blk_fr HF2.out (blk_keep HB1.out HG.out (blk_lt HG.out)) (by have := blk_lt HG.out; omega))
  clear hmk c0 c1 HSR
  by_cases hlt : i < m
  · have hwi : IntKind.i64.wrap ((i : Int) + 1) = ((i + 1 : Nat) : Int) := by rw [IntKind.wrap_i64]; omega
    have hne : ¬ cap = i + 1 := by omega
    have hpos : (0 : Int) ≤ (i : Int) + 1 := by omega
    have hne2 : ¬ m = i := by omega
    go_region_law (first | (go_loud (refine step_copyN (by rfl) (.tmp 27) (.tmp 34) 25 25 (by rfl) 32 Tryd.underlying25 6 (by kernel_rfl) w.heap.size (i * 6) (m - i) (m - i) ⟨g, (i + 1) * 6, none⟩ (m - i) (cap - (i + 1)) (m - i) (by rfl) (by rfl) _ _ (show w2.drew.heap[w.heap.size]? = _ from hw2.out) ((pktCells vs P).drop ((i + 1) * 6)) (Nat.min_self _).symm (by rw [List.length_drop, HCL.out]; omega) (HSR2.out w2.drew HG2.out) (by rw [List.length_drop, HCL.out, length_splice _ _ _ (by rw [List.length_take, HCL.out, HXL.out]; omega), HXL.out]; omega) (fun v hv => HO2.out v (List.mem_of_mem_drop hv)) ?_); intro w3 hw3 hf3))
    have HD3 := hid (blk_fr hf3 (show w2.drew.heap[d]? = _ from HD2.out) (by omega))
    have c3 : w3.cell? ⟨d, 0, none⟩ = some (.slice (some ⟨g, 0, none⟩) (m + 1) cap) := by rw [blk_cell HD3.out, HM1.out]; rfl
    have f3 : w3.frozen? ⟨d, 0, none⟩ = false := blk_frozen HD3.out _
    have HB3 : Hid (Below w.heap.size w w3) := hid (HB1.out.trans (((HF2.out.to_below (B := w.heap.size) (fun k hk e => by omega) HB1.out.size).trans ((drew_below w2).mono (Nat.le_trans HB1.out.size HF2.out.size))).trans (hf3.to_below (B := w.heap.size) (fun k hk e => by omega) (Nat.le_trans HB1.out.size HF2.out.size))))
    have HR3 := hid (hw3.out)
    clear hf3 hw3 hwi hne hpos hne2
    go_wp2
    go_ret
    exact ⟨rfl, HN.out.less (by rw [HM1.out]; omega) HM1.out (by unfold maxLen; omega) HB3.out (by have h := HR3.out; rw [splice_two _ _ _ (i * 6) (by rw [List.length_take, HCL.out]; omega) (by rw [HXL.out, List.length_drop, HCL.out]; omega)] at h; exact h)⟩
  · obtain rfl : i = m := by omega
    have hwi : IntKind.i64.wrap ((i : Int) + 1) = ((i + 1 : Nat) : Int) := by rw [IntKind.wrap_i64]; omega
    have hpos : (0 : Int) ≤ (i : Int) + 1 := by omega
    by_cases hcap : cap = i + 1
    · subst hcap
      go_region_law (first | (go_loud (refine step_copyN (by rfl) (.tmp 27) (.tmp 34) 25 25 (by rfl) 32 Tryd.underlying25 6 (by kernel_rfl) w.heap.size 0 0 0 ⟨g, 0, none⟩ 0 0 0 (by rfl) (by rfl) _ _ (show w2.drew.heap[w.heap.size]? = _ from hw2.out) [] (Nat.min_self _).symm rfl (fun j v hv => by simp at hv) (by rw [length_splice _ _ _ (by rw [List.length_take, HCL.out, HXL.out]; omega), HXL.out]; simp) (fun v hv => by simp at hv) ?_); intro w3 hw3 hf3))
      have HD3 := hid (blk_fr hf3 (show w2.drew.heap[d]? = _ from HD2.out) (by omega))
      have HB3 : Hid (Below w.heap.size w w3) := hid (HB1.out.trans (((HF2.out.to_below (B := w.heap.size) (fun k hk e => by omega) HB1.out.size).trans ((drew_below w2).mono (Nat.le_trans HB1.out.size HF2.out.size))).trans (hf3.to_below (B := w.heap.size) (fun k hk e => by omega) (Nat.le_trans HB1.out.size HF2.out.size))))
      have HR3 := hid (hw3.out)
      clear hf3 hw3 hwi hpos
      have c3 : w3.cell? ⟨d, 0, none⟩ = some (.slice (some ⟨g, 0, none⟩) (i + 1) (i + 1)) := by rw [blk_cell HD3.out, HM1.out]; rfl
      have f3 : w3.frozen? ⟨d, 0, none⟩ = false := blk_frozen HD3.out _
      go_wp2
      go_ret
      exact ⟨rfl, HN.out.less (by rw [HM1.out]; omega) HM1.out (by unfold maxLen; omega) HB3.out (by have h := HR3.out; rw [splice_nil, splice_one _ _ (by rw [List.length_take, HCL.out, HXL.out]; omega)] at h; rw [List.drop_of_length_le (by rw [HCL.out]; omega), List.append_nil]; exact h)⟩
    · have hcap2 : ¬ i + 1 = cap := fun e => hcap e.symm
      go_region_law (first | (go_loud (refine step_copyN (by rfl) (.tmp 27) (.tmp 34) 25 25 (by rfl) 32 Tryd.underlying25 6 (by kernel_rfl) w.heap.size 0 0 0 ⟨g, (i + 1) * 6, none⟩ 0 (cap - (i + 1)) 0 (by rfl) (by rfl) _ _ (show w2.drew.heap[w.heap.size]? = _ from hw2.out) [] (Nat.min_self _).symm rfl (fun j v hv => by simp at hv) (by rw [length_splice _ _ _ (by rw [List.length_take, HCL.out, HXL.out]; omega), HXL.out]; simp) (fun v hv => by simp at hv) ?_); intro w3 hw3 hf3))
      have HD3 := hid (blk_fr hf3 (show w2.drew.heap[d]? = _ from HD2.out) (by omega))
      have HB3 : Hid (Below w.heap.size w w3) := hid (HB1.out.trans (((HF2.out.to_below (B := w.heap.size) (fun k hk e => by omega) HB1.out.size).trans ((drew_below w2).mono (Nat.le_trans HB1.out.size HF2.out.size))).trans (hf3.to_below (B := w.heap.size) (fun k hk e => by omega) (Nat.le_trans HB1.out.size HF2.out.size))))
      have HR3 := hid (hw3.out)
      clear hf3 hw3 hwi hpos
      have c3 : w3.cell? ⟨d, 0, none⟩ = some (.slice (some ⟨g, 0, none⟩) (i + 1) cap) := by rw [blk_cell HD3.out, HM1.out]; rfl
      have f3 : w3.frozen? ⟨d, 0, none⟩ = false := blk_frozen HD3.out _
      go_wp2
      go_ret
      exact ⟨rfl, HN.out.less (by rw [HM1.out]; omega) HM1.out (by unfold maxLen; omega) HB3.out (by have h := HR3.out; rw [splice_nil, splice_one _ _ (by rw [List.length_take, HCL.out, HXL.out]; omega)] at h; rw [List.drop_of_length_le (by rw [HCL.out]; omega), List.append_nil]; exact h)⟩
end Go.Proofs.YtahpkknbejgnkaaDoor
