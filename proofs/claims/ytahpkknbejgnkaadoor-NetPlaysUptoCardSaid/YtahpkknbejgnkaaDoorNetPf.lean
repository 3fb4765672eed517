/- The document's network: Send, Take, Drop, Double. -/
import Derived.Test.YtahpkknbejgnkaaDoorNetPe
namespace Go.Proofs.YtahpkknbejgnkaaDoor
open Go.RowKit
theorem rSend_nil (w : World) (p : Pkt) (v : Value) : Calls Tryd.prog 25 #[.pointer none, p.val v] w fun e w' => e = .returned (.int .i64 0) ∧ Below w.heap.size w w' := by
  obtain ⟨fk, fi, tk, ti, l, lost⟩ := p
  unfold Pkt.val
  go_enter Tryd.func25, Tryd.ntmps25
  go_wp2
  go_ret
  exact ⟨rfl, (Below.refl _ _).alloc (Nat.le_refl _) _⟩
set_option maxRecDepth 100000 in
set_option maxHeartbeats 4000000 in
theorem rSend_no (w : World) (d : Nat) (p : Pkt) (v : Value) (hv : SlB w v p.data) (he : sendE p ≠ 0) :
    Calls Tryd.prog 25 #[.pointer (some ⟨d, 0, none⟩), p.val v] w fun e w' => e = .returned (.int .i64 (sendE p)) ∧ Below w.heap.size w w' := by
  obtain ⟨fk, fi, tk, ti, l, lost⟩ := p
  obtain ⟨A, c, rfl⟩ := hv.form
  obtain ⟨b1, hb1⟩ : ∃ b, okNode fk fi = b := ⟨_, rfl⟩
  obtain ⟨b2, hb2⟩ : ∃ b, okNode tk ti = b := ⟨_, rfl⟩
  have H1 := hid hb1
  have H2 := hid hb2
  unfold sendE at he ⊢
  unfold Pkt.val
  simp only at he ⊢
  rw [hb1, hb2] at he ⊢
  clear hv hb1 hb2
  go_enter Tryd.func25, Tryd.ntmps25
  go_upto_region 1 with (fail)
  refine Code.seen (fun W => W.heap[w.heap.size]? = some (.cells #[.int .i64 fk, .int .i64 fi, .int .i64 tk, .int .i64 ti, .slice A l.length c, .bool lost] 32 (0, 0)) ∧ Below w.heap.size w W) ⟨heap_alloc_new _ _, (Below.refl _ _).alloc (Nat.le_refl _) _⟩ fun w1 Z1 => ?_
  have HK : Hid (∀ W, Below w1.heap.size w1 W → PkAt W w.heap.size fk fi tk ti (.slice A l.length c) lost) := hid fun W hb => pk_at (blk_keep hb Z1.out.1 (blk_lt Z1.out.1))
  have HB1 := hid Z1.out.2
  have HE := hid he
  clear Z1 he
  obtain ⟨x0, x1, -, -, -, -⟩ := HK.out w1 (Below.refl _ _)
  go_wp2_with fail
  refine (node_any fk fi w1).mono ?_
  rw [H1.out]
  rintro e w2 ⟨rfl, hb2⟩
  have HB2 := hid hb2
  clear x0 x1 hb2
  obtain ⟨-, -, x2, x3, -, -⟩ := HK.out w2 HB2.out
  cases b1
  · go_wp2_with fail
    go_ret
    exact ⟨by simp, below_then HB1.out HB2.out⟩
  · go_wp2_with fail
    refine (node_any tk ti w2).mono ?_
    rw [H2.out]
    rintro e w3 ⟨rfl, hb3⟩
    have HB3 := hid (below_then HB2.out hb3)
    clear x2 x3 hb3
    obtain ⟨-, -, -, -, x4, -⟩ := HK.out w3 HB3.out
    cases b2
    · go_wp2_with fail
      go_ret
      exact ⟨by simp, below_then HB1.out HB3.out⟩
    · have hl : 66000 < l.length := by
        rcases Nat.lt_or_ge 66000 l.length with h | h
        · exact h
        · exact absurd (by simp; omega) HE.out
      go_wp2_with fail
      go_ret
      exact ⟨by simp [], below_then HB1.out HB3.out⟩
set_option maxRecDepth 100000 in
set_option maxHeartbeats 4000000 in
theorem rSend_ok (w : World) (S : Nat → Prop) (d : Nat) (P : List Pkt) (p : Pkt) (v : Value) (h : RAt w S d P) (hv : SlB w v p.data) (h1 : okNode p.fk p.fi = true) (h2 : okNode p.tk p.ti = true) (h3 : p.data.length ≤ 66000) (hP : P.length ≤ 1099511627776) :
    Calls Tryd.prog 25 #[.pointer (some ⟨d, 0, none⟩), p.val v] w fun e w' => e = .returned (.int .i64 0) ∧ RAtt w w' S d (P ++ [p]) := by
  obtain ⟨I, fv, vs, hN⟩ := h
  obtain ⟨Af, cf, rfl⟩ := own_form hN.pv.row
  have c0 : w.cell? ⟨d, 0, none⟩ = some (.slice Af P.length cf) := by rw [blk_cell hN.at_]; rfl
  obtain ⟨fk, fi, tk, ti, l, lost⟩ := p
  have HV := hid hv
  have HN := hid hN
  have H1 := hid h1
  have H2 := hid h2
  obtain ⟨A, c, rfl⟩ := hv.form
  unfold Pkt.val
  simp only at h3 ⊢
  clear hv hN h1 h2
  go_enter Tryd.func25, Tryd.ntmps25
  go_upto_region 1 with (fail)
  refine Code.seen (fun W => W.heap[w.heap.size]? = some (.cells #[.int .i64 fk, .int .i64 fi, .int .i64 tk, .int .i64 ti, .slice A l.length c, .bool lost] 32 (0, 0)) ∧ Below w.heap.size w W) ⟨heap_alloc_new _ _, (Below.refl _ _).alloc (Nat.le_refl _) _⟩ fun w1 Z1 => ?_
  have HK : Hid (∀ W, Below w1.heap.size w1 W → PkAt W w.heap.size fk fi tk ti (.slice A l.length c) lost) := hid fun W hb => pk_at (blk_keep hb Z1.out.1 (blk_lt Z1.out.1))
  have HD : Hid (∀ W, Below w1.heap.size w1 W → W.cell? ⟨d, 0, none⟩ = some (.slice Af P.length cf)) := hid fun W hb => by
    rw [blk_cell (blk_keep hb (blk_keep Z1.out.2 HN.out.at_ (blk_lt HN.out.at_)) (Nat.lt_of_lt_of_le (blk_lt HN.out.at_) Z1.out.2.size))]; rfl
  have HB1 := hid Z1.out.2
  have HZ := hid (blk_lt Z1.out.1)
  clear c0 Z1
  obtain ⟨x0, x1, -, -, -, -⟩ := HK.out w1 (Below.refl _ _)
  go_wp2_with fail
  refine (node_any fk fi w1).mono ?_
  rw [show okNode fk fi = true from H1.out]
  rintro e w2 ⟨rfl, hb2⟩
  have HB2 := hid hb2
  clear x0 x1 hb2
  obtain ⟨-, -, x2, x3, -, -⟩ := HK.out w2 HB2.out
  go_wp2_with fail
  refine (node_any tk ti w2).mono ?_
  rw [show okNode tk ti = true from H2.out]
  rintro e w3 ⟨rfl, hb3⟩
  have HB3 := hid (below_then HB2.out hb3)
  clear x2 x3 hb3 HB2
  obtain ⟨x0, x1, x2, x3, x4, x5⟩ := HK.out w3 HB3.out
  have cd := HD.out w3 HB3.out
  go_wp2
  obtain ⟨i0, hi0, hz0, hz1, hz2⟩ := info_parts infoK
  have HBW := hid (below_then HB1.out HB3.out)
  have hal : (P.length + 1) * 64 ≤ 140737488355328 := by omega
  have hdl : d < w.heap.size := HN.out.pv.lt d HN.out.sd
  have hbne : ∀ k, (Value.slice Af P.length cf).ownBlock = some k → ¬ k = d := fun k hk => HN.out.rd k hk
  have hs3 : w.heap.size ≤ w3.heap.size := HBW.out.size
  go_region_law (first
    | (go_simp; go_at_call 37; go_loud (refine (rcopied_at fk fi tk ti l lost _ _ ((HV.out.below HBW.out).drew) (by omega)).mono ?_; rintro e w4 ⟨u, rfl, hu, hb4⟩; obtain ⟨Au, cu, rfl⟩ := hu.form; have HU := hid hu; have HBD := hid (below_then (drew_below w3) hb4); have HB4 := hid (below_then HBW.out HBD.out); have cd4 : w4.cell? ⟨d, 0, none⟩ = some (.slice Af P.length cf) := blk_cell (blk_keep HB4.out HN.out.at_ hdl) 0; have hs4 := HB4.out.size; have cda : ∀ o, (w4.alloc o).cell? ⟨d, 0, none⟩ = some (.slice Af P.length cf) := fun o => (((Below.refl w4.heap.size w4).alloc (Nat.le_refl _) o).cell (p := ⟨d, 0, none⟩) (show d < w4.heap.size by omega)).trans cd4; have HOX := hid (own_fr HN.out.pv.row (Fr.of_below HB4.out) (fun _ _ h => h)); clear hu hb4))
    | (refine step_append_lies _ (by rfl) (.tmp 25) (.tmp 28) 25 (by rfl) 0 32 i0 _ 6 64 Tryd.underlying25 hi0 hz0 hz1 hz2 rfl (by omega) (.slice Af P.length cf) P.length (pktCells vs P) (by rfl) (HOX.out.alloc _) ⟨w4.heap.size, 0, none⟩ 1 1 [.int .i64 fk, .int .i64 fi, .int .i64 tk, .int .i64 ti, .slice Au l.length cu, .bool lost] (by rfl) (by rfl) (World.news_of_block (cs := #[.int .i64 fk, .int .i64 fi, .int .i64 tk, .int .i64 ti, .slice Au l.length cu, .bool lost]) (t := 32) (fr := (0, 0)) (heap_alloc_new w4 _)) (by simp [Value.oneCell']) (by omega) (by unfold maxLen; omega) hal (Nat.zero_le _) (w4.heap.size + 1) (by simp) ?_; intro g cap w5 hown5 hgrow hat hlt5; have f5 : w5.frozen? ⟨d, 0, none⟩ = false := (hgrow.frozen_far ⟨d, 0, none⟩ (show d < (w4.alloc _).heap.size by simp; omega) (fun e => hbne d e.symm rfl)).trans (((Below.refl w4.heap.size w4).alloc (Nat.le_refl _) _).frozen (p := ⟨d, 0, none⟩) (show d < w4.heap.size by omega) |>.trans (blk_frozen (blk_keep HB4.out HN.out.at_ hdl) _)); have c5 : w5.cell? ⟨d, 0, none⟩ = some (.slice Af P.length cf) := (hgrow.cell_far ⟨d, 0, none⟩ (show d < (w4.alloc _).heap.size by simp; omega) (fun e => hbne d e.symm rfl)).trans ((((Below.refl w4.heap.size w4).alloc (Nat.le_refl _) _).cell (p := ⟨d, 0, none⟩) (show d < w4.heap.size by omega)).trans cd4)))
  all_goals
    go_wp2
    go_ret
    refine ⟨rfl, ?_⟩
    exact HN.out.more (p := ⟨fk, fi, tk, ti, l, lost⟩) (J := fun k => (Value.slice Au l.length cu).ownBlock = some k ∧ w3.heap.size ≤ k ∧ k < w4.heap.size) HB4.out ⟨HU.out.sl, fun _ k hk => ⟨hk, World.ownsRow.lt HU.out k hk⟩⟩ (fun k hk => ⟨Nat.le_trans hs3 hk.2.1, hk.2.2⟩) ((Below.refl _ _).alloc (Nat.le_refl _) _) hown5 hgrow (hat.imp id (fun e => by omega))
set_option maxRecDepth 100000 in
set_option maxHeartbeats 4000000 in
theorem rDouble_ok (w : World) (S : Nat → Prop) (d : Nat) (P : List Pkt) (i : Nat) (h : RAt w S d P) (hi : i < P.length) (hl : ∀ p ∈ P, p.data.length ≤ 140737488355328) (hP : P.length ≤ 1099511627776) :
    Calls Tryd.prog 30 #[.pointer (some ⟨d, 0, none⟩), .int .i64 (i : Int)] w fun e w' => e = .returned (.int .i64 0) ∧ RAtt w w' S d (P ++ [P[i]]) := by
  have HT := hid (there_yes w S d P i h hi)
  obtain ⟨I, fv, vs, hN⟩ := h
  obtain ⟨g, cap, rfl, hSg, hIg, hcap, hgl, _⟩ := hN.pv.lies (by omega)
  have c0 : w.cell? ⟨d, 0, none⟩ = some (.slice (some ⟨g, 0, none⟩) P.length cap) := by rw [blk_cell hN.at_]; rfl
  obtain ⟨u0, -, hu0, hc⟩ := hN.pv.get i hi
  have hpl := hl _ (List.getElem_mem hi)
  obtain ⟨p, hp⟩ : ∃ p, p = P[i] := ⟨_, rfl⟩
  rw [← hp] at hu0 hc hpl
  obtain ⟨x0, x1, x2, x3, x4, x5⟩ := pk6 hc
  have HP := hid hp
  have HN := hid hN
  obtain ⟨fk, fi, tk, ti, l, lost⟩ := p
  simp only at x0 x1 x2 x3 x4 x5 hpl
  have HV : Hid (SlB w u0 l) := hid hu0.sl
  obtain ⟨A, c, rfl⟩ := HV.out.form
  have hdl : d < w.heap.size := hN.pv.lt d hN.sd
  obtain ⟨i0, hi0, hz0, hz1, hz2⟩ := info_parts infoK
  have hal : (P.length + 1) * 64 ≤ 140737488355328 := by omega
  have hbne : ∀ k, (Value.slice (some ⟨g, 0, none⟩) P.length cap).ownBlock = some k → ¬ k = d := fun k hk => hN.rd k hk
  clear hN hu0 hc hp hl
  go_enter Tryd.func30, Tryd.ntmps30
  go_wp2_with fail
  refine HT.out.mono ?_
  rintro e w' ⟨rfl, hw⟩
  replace hw := hw.symm
  subst hw
  go_upto_region 5 with (fail)
  go_region_law (first
    | (go_simp; go_at_call 37; go_loud (refine (rcopied_at fk fi tk ti l lost _ _ (HV.out.drew) (by omega)).mono ?_; rintro e w4 ⟨u, rfl, hu, hb4⟩; obtain ⟨Au, cu, rfl⟩ := hu.form; have HU := hid hu; have HB4 := hid (below_then (drew_below w) hb4); have cd4 : w4.cell? ⟨d, 0, none⟩ = some (.slice (some ⟨g, 0, none⟩) P.length cap) := blk_cell (blk_keep HB4.out HN.out.at_ hdl) 0; have hs4 := HB4.out.size; have cda : ∀ o, (w4.alloc o).cell? ⟨d, 0, none⟩ = some (.slice (some ⟨g, 0, none⟩) P.length cap) := fun o => (((Below.refl w4.heap.size w4).alloc (Nat.le_refl _) o).cell (p := ⟨d, 0, none⟩) (show d < w4.heap.size by omega)).trans cd4; have HOX := hid (own_fr HN.out.pv.row (Fr.of_below HB4.out) (fun _ _ h => h)); clear hu hb4))
    | (refine step_append_lies _ (by rfl) (.tmp 15) (.tmp 24) 25 (by rfl) 0 32 i0 _ 6 64 Tryd.underlying25 hi0 hz0 hz1 hz2 rfl (by omega) (.slice (some ⟨g, 0, none⟩) P.length cap) P.length (pktCells vs P) (by rfl) (HOX.out.alloc _) ⟨w4.heap.size, 0, none⟩ 1 1 [.int .i64 fk, .int .i64 fi, .int .i64 tk, .int .i64 ti, .slice Au l.length cu, .bool lost] (by rfl) (by rfl) (World.news_of_block (cs := #[.int .i64 fk, .int .i64 fi, .int .i64 tk, .int .i64 ti, .slice Au l.length cu, .bool lost]) (t := 32) (fr := (0, 0)) (heap_alloc_new w4 _)) (by simp [Value.oneCell']) (by omega) (by unfold maxLen; omega) hal (Nat.zero_le _) (w4.heap.size + 1) (by simp) ?_; intro g2 cap2 w5 hown5 hgrow hat hlt5; have f5 : w5.frozen? ⟨d, 0, none⟩ = false := (hgrow.frozen_far ⟨d, 0, none⟩ (show d < (w4.alloc _).heap.size by simp; omega) (fun e => hbne d e.symm rfl)).trans (((Below.refl w4.heap.size w4).alloc (Nat.le_refl _) _).frozen (p := ⟨d, 0, none⟩) (show d < w4.heap.size by omega) |>.trans (blk_frozen (blk_keep HB4.out HN.out.at_ hdl) _)); have c5 : w5.cell? ⟨d, 0, none⟩ = some (.slice (some ⟨g, 0, none⟩) P.length cap) := (hgrow.cell_far ⟨d, 0, none⟩ (show d < (w4.alloc _).heap.size by simp; omega) (fun e => hbne d e.symm rfl)).trans ((((Below.refl w4.heap.size w4).alloc (Nat.le_refl _) _).cell (p := ⟨d, 0, none⟩) (show d < w4.heap.size by omega)).trans cd4)))
  all_goals
    go_wp2
    go_ret
    refine ⟨rfl, ?_⟩
    rw [← HP.out]
    exact HN.out.more (p := ⟨fk, fi, tk, ti, l, lost⟩) (J := fun k => (Value.slice Au l.length cu).ownBlock = some k ∧ w.heap.size ≤ k ∧ k < w4.heap.size) HB4.out ⟨HU.out.sl, fun _ k hk => ⟨hk, World.ownsRow.lt HU.out k hk⟩⟩ (fun k hk => hk.2) ((Below.refl _ _).alloc (Nat.le_refl _) _) hown5 hgrow (hat.imp id (fun e => by omega))
end Go.Proofs.YtahpkknbejgnkaaDoor
