/- One doubled. -/
import Derived.Test.YtahpkknbejgnkaaDoorNetE
namespace Go.Proofs.YtahpkknbejgnkaaDoor
open Go.RowKit
/-- the cells of datagram i -/
theorem NV.get {w : World} {S I : Nat → Prop} {d g cap : Nat} {vs : List Value} {P : List Pkt} (h : NV w S I d (.slice (some ⟨g, 0, none⟩) P.length cap) vs P) (i : Nat) (hi : i < P.length) :
    ∃ u, SlI w I u P[i].data ∧ ∀ j v, (P[i].cells u)[j]? = some v → w.cell? ⟨g, i * 6 + j, none⟩ = some v := by
  have hv : vs[i]? = some (vs[i]'(by rw [h.len]; exact hi)) := List.getElem?_eq_getElem _
  refine ⟨vs[i]'(by rw [h.len]; exact hi), h.each i _ _ hv (List.getElem?_eq_getElem hi), fun j v hj => ?_⟩
  obtain ⟨hxl, ⟨h0, _⟩ | ⟨g', cap', cur, e, _, hg, hn, hm, hs, htake⟩⟩ := h.row
  · cases h0
  · injection e with e1 e2 e3
    injection e1 with e1
    injection e1 with e1
    subst e1
    have hp := pktCells_at vs P i j _ _ v h.len hv (List.getElem?_eq_getElem hi) hj
    have hlt : i * 6 + j < P.length * 6 := by rw [← hxl]; exact (List.getElem?_eq_some_iff.1 hp).1
    rw [blk_cell hg, ← hp, ← htake, List.getElem?_take_of_lt hlt]
    simp
theorem pk6 {w : World} {g k : Nat} {p : Pkt} {u : Value} (h : ∀ j v, (p.cells u)[j]? = some v → w.cell? ⟨g, k + j, none⟩ = some v) :
    w.cell? ⟨g, k, none⟩ = some (.int .i64 p.fk) ∧ w.cell? ⟨g, k + 1, none⟩ = some (.int .i64 p.fi) ∧ w.cell? ⟨g, k + 2, none⟩ = some (.int .i64 p.tk) ∧ w.cell? ⟨g, k + 3, none⟩ = some (.int .i64 p.ti) ∧ w.cell? ⟨g, k + 4, none⟩ = some u ∧ w.cell? ⟨g, k + 5, none⟩ = some (.bool p.lost) :=
  ⟨h 0 _ rfl, h 1 _ rfl, h 2 _ rfl, h 3 _ rfl, h 4 _ rfl, h 5 _ rfl⟩
set_option maxRecDepth 100000 in
set_option maxHeartbeats 4000000 in
theorem double_at (w : World) (S : Nat → Prop) (d : Nat) (P : List Pkt) (i : Nat) (a : Int) (pat : Int) (h : NAt w S d P) (hi : i < P.length) (hl : ∀ p ∈ P, p.data.length ≤ 140737488355328) (hP : P.length ≤ 1099511627776) :
    Calls Tryd.prog 61 #[.pointer (some ⟨d, 0, none⟩), .int .i64 (i : Int), .int .i64 a, .int .u32 pat] w fun e w' => e = .returned (.int .i64 0) ∧ Nt w w' S d (P ++ [P[i]]) := by
  obtain ⟨I, fv, vs, hN⟩ := h
  have hrow := hN.row
  obtain ⟨hxl, ⟨_, h0⟩ | ⟨g, cap, cur, rfl, _, hg, hn, hm, hs, htake⟩⟩ := hrow
  · omega
  have c0 : w.cell? ⟨d, 0, none⟩ = some (.slice (some ⟨g, 0, none⟩) P.length cap) := by rw [blk_cell hN.at_]; rfl
  obtain ⟨u0, hu0, hc⟩ := hN.get i hi
  have hpl := hl _ (List.getElem_mem hi)
  obtain ⟨p, hp⟩ : ∃ p, p = P[i] := ⟨_, rfl⟩
  rw [← hp] at hu0 hc hpl
  obtain ⟨x0, x1, x2, x3, x4, x5⟩ := pk6 hc
  have HP := hid hp
  have HN := hid hN
  have HU0 := hid hu0
  obtain ⟨fk, fi, tk, ti, l, lost⟩ := p
  simp only at x0 x1 x2 x3 x4 x5 hpl
  have HV : Hid (SlB w u0 l) := hid hu0.sl
  obtain ⟨A, c, rfl⟩ := HV.out.form
  have hdl : d < w.heap.size := hN.lt d hN.sd
  obtain ⟨i0, hi0, hz0, hz1, hz2⟩ := info_parts infoK
  have hal : (P.length + 1) * 64 ≤ 140737488355328 := by omega
  have hbne : ∀ k, (Value.slice (some ⟨g, 0, none⟩) P.length cap).ownBlock = some k → ¬ k = d := fun k hk => (hN.r k hk).2.2
  have HGC : Hid (P.length ≤ cap) := hid hn
  clear hN hu0 hc hp hg hs htake hxl hm hl hn
  go_enter Tryd.func61, Tryd.ntmps61
  go_upto_region 1 with (fail)
  go_region_law (first
    | (go_simp; go_at_call 24; go_loud (refine (copied_at fk fi tk ti l lost _ _ (HV.out.drew) (by omega)).mono ?_; rintro e w4 ⟨u, rfl, hu, hb4⟩; obtain ⟨Au, cu, rfl⟩ := hu.form; have HU := hid hu; have HB4 := hid (below_then (drew_below w) hb4); have cd4 : w4.cell? ⟨d, 0, none⟩ = some (.slice (some ⟨g, 0, none⟩) P.length cap) := blk_cell (blk_keep HB4.out HN.out.at_ hdl) 0; have hs4 := HB4.out.size; have cda : ∀ o, (w4.alloc o).cell? ⟨d, 0, none⟩ = some (.slice (some ⟨g, 0, none⟩) P.length cap) := fun o => (((Below.refl w4.heap.size w4).alloc (Nat.le_refl _) o).cell (p := ⟨d, 0, none⟩) (show d < w4.heap.size by omega)).trans cd4; have HOX := hid (own_fr HN.out.row (Fr.of_below HB4.out) (fun _ _ h => h)); clear hu hb4))
    | (refine step_append_lies _ (by rfl) (.tmp 13) (.tmp 22) 25 (by rfl) 0 32 i0 _ 6 64 Tryd.underlying25 hi0 hz0 hz1 hz2 rfl (by omega) (.slice (some ⟨g, 0, none⟩) P.length cap) P.length (pktCells vs P) (by rfl) (HOX.out.alloc _) ⟨w4.heap.size, 0, none⟩ 1 1 [.int .i64 fk, .int .i64 fi, .int .i64 tk, .int .i64 ti, .slice Au l.length cu, .bool lost] (by rfl) (by rfl) (World.news_of_block (cs := #[.int .i64 fk, .int .i64 fi, .int .i64 tk, .int .i64 ti, .slice Au l.length cu, .bool lost]) (t := 32) (fr := (0, 0)) (heap_alloc_new w4 _)) (by simp [Value.oneCell']) (by omega) (by unfold maxLen; omega) hal (Nat.zero_le _) (w4.heap.size + 1) (by simp) ?_; intro g2 cap2 w5 hown5 hgrow hat hlt5; have f5 : w5.frozen? ⟨d, 0, none⟩ = false := (hgrow.frozen_far ⟨d, 0, none⟩ (show d < (w4.alloc _).heap.size by simp; omega) (fun e => hbne d e.symm rfl)).trans (((Below.refl w4.heap.size w4).alloc (Nat.le_refl _) _).frozen (p := ⟨d, 0, none⟩) (show d < w4.heap.size by omega) |>.trans (blk_frozen (blk_keep HB4.out HN.out.at_ hdl) _)); have c5 : w5.cell? ⟨d, 0, none⟩ = some (.slice (some ⟨g, 0, none⟩) P.length cap) := (hgrow.cell_far ⟨d, 0, none⟩ (show d < (w4.alloc _).heap.size by simp; omega) (fun e => hbne d e.symm rfl)).trans ((((Below.refl w4.heap.size w4).alloc (Nat.le_refl _) _).cell (p := ⟨d, 0, none⟩) (show d < w4.heap.size by omega)).trans cd4)))
  all_goals
    go_wp2
    go_ret
    refine ⟨rfl, ?_⟩
    rw [← HP.out]
    exact NV.more (p := ⟨fk, fi, tk, ti, l, lost⟩) HN.out HB4.out (own_base HU.out (Nat.le_refl _)) ((Below.refl _ _).alloc (Nat.le_refl _) _) hown5 hgrow (hat.imp id (fun e => by omega))
end Go.Proofs.YtahpkknbejgnkaaDoor
