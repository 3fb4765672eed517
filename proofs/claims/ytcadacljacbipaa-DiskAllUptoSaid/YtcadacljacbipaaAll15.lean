/- The document's disk: Append, Wipe, Sync, Switch within 'act'. (Printed by genract.py.) -/
import Derived.Test.YtcadacljacbipaaAll13
import Derived.Test.YtcadacljacbipaaAll14
namespace Go.Proofs.Ytcadacljacbipaa
open Go.RowKit

set_option maxRecDepth 100000 in
set_option maxHeartbeats 8000000 in
theorem ract_app1 (w : World) (S : Nat → Prop) (d : Nat) (D : Dk) (n : Int) (Av : Option Addr) (cv : Nat) (da : List UInt8) (h : RAt w S d D) (hd : D.dead = false) (hn : n = 0 ∨ n = 1) (hdone : D.done + 1 ≤ 4611686018427387904) (hnm : D.named ≤ 9223372036854775807) (ha : D.s0.acts.length ≤ 1099511627776 ∧ D.s1.acts.length ≤ 1099511627776) (hv : SlB w (.slice Av da.length cv) da) (hvS : 0 < da.length → ∀ k, (Value.slice Av da.length cv).ownBlock = some k → ¬ S k) (h0 : 0 < da.length) (hdl2 : da.length ≤ 140737488355328) :
    Calls Try.prog 65 #[.pointer (some ⟨d, 0, none⟩), .int .i64 1, .int .i64 n, .slice Av da.length cv] w fun e w' => e = .returned (.int .i64 (if D.named = 1 then 60 else 0)) ∧ Rt w w' S d (if D.named = 1 ∧ D.withIt = false then D.near else ((DOp.append da).eff n.toNat D.near).more) := by
  obtain ⟨c4, c5, c6, c7, c8, hfz⟩ := h.cells
  obtain ⟨I, l0, l1, a0, a1, hV⟩ := h
  have HV := hid hV
  rw [hd] at c8
  have f5 := hfz 5
  have f6 := hfz 6
  have f8 := hfz 8
  have HDV := hid hv
  have i0 : (0 : Int) < (da.length : Int) := by omega
  clear hv
  clear hV hfz
  by_cases h1 : D.named = 1
  · rw [if_pos h1]
    rw [h1] at c6
    by_cases h2 : D.withIt = false
    · rw [if_pos ⟨h1, h2⟩]
      rw [h2] at c7
      have R := hid (HV.out.near1 h1)
      clear h1 h2 hd
      rcases hn with rfl | rfl
      all_goals
        go_enter Try.func65, Try.ntmps65
        go_wp2
        go_ret
        exact ⟨rfl, Rt.of_turn HV.out.sd R.out.2.1 R.out.1⟩
    · have h2' : D.withIt = true := by simpa using h2
      rw [if_neg (fun e => h2 e.2)]
      rw [h2'] at c7
      have R := hid (HV.out.pre1 h1)
      clear h1 h2 h2' hd
      rcases hn with rfl | rfl

      · go_enter Try.func65, Try.ntmps65
        go_upto_region 15 with (fail)
        refine Code.seen (fun W => RV W S I d l0 l1 a0 a1 D.near.more ∧ Fr (fun k => k = d) w W ∧ W.heap.size = w.heap.size) R.out fun w1 H1 => ?_
        clear c4 c5 c6 c7 c8 f5 f6 f8 R
        obtain ⟨c0, c1, c2, c3, c4, c5, c6, c7, c8⟩ := H1.out.1.cells
        obtain ⟨vs, hvl, hown, hve⟩ := H1.out.1.m0
        obtain ⟨Af, cf, rfl⟩ := own_form hown
        obtain ⟨i0, hi0, hz0, hz1, hz2⟩ := info_parts infoLs
        have HVL := hid hvl
        have HVE := hid hve
        have HOWN := hid hown
        have hdl := H1.out.1.lt d H1.out.1.sd
        have hal : (D.s0.acts.length + 1) * 32 ≤ 140737488355328 := by omega
        have hbne : ∀ k, (Value.slice Af D.s0.acts.length cf).ownBlock = some k → ¬ k = d := fun k hk => (H1.out.1.r0 k hk).2.2
        clear hvl hve hown
        have HD1 := hid ((sl_fr0 HDV.out H1.out.2.1 (fun h0 k hk e => hvS h0 k hk (e ▸ HV.out.sd))).drew)
        have C := hid (laid_app (.slice none 0 0) (.slice Av da.length cv) [] da w1.drew (Sl.nil _ _) HD1.out (by simp only [List.length_nil]; omega))
        go_upto_region 18 with (fail)
        go_region_law (first
          | (go_simp; go_at_call 63; (with_reducible refine C.out.mono ?_); rintro e w4 ⟨u, rfl, hu, hb4⟩; rw [List.nil_append] at hu; obtain ⟨Au, cu, rfl⟩ := hu.form; have HU := hid hu; have HB4 := hid (below_then (drew_below w1) hb4); have hs4 := HB4.out.size; have cd4 : w4.cell? ⟨d, 2, none⟩ = some (.slice Af D.s0.acts.length cf) := (blk_cell (blk_keep HB4.out H1.out.1.at_ hdl) _).trans rfl; have cda : ∀ o, (w4.alloc o).cell? ⟨d, 2, none⟩ = some (.slice Af D.s0.acts.length cf) := fun o => (((Below.refl w4.heap.size w4).alloc (Nat.le_refl _) o).cell (p := ⟨d, 2, none⟩) (show d < w4.heap.size by omega)).trans cd4; have HOX := hid (own_fr HOWN.out (Fr.of_below HB4.out) (fun _ _ h => h)); clear hu hb4)
          | (refine step_append_lies _ (by rfl) (.tmp 80) (.tmp 85) 80 (by rfl) 0 92 i0 _ 2 32 Try.underlying80 hi0 hz0 hz1 hz2 rfl (by omega) (.slice Af D.s0.acts.length cf) D.s0.acts.length (looseCells vs D.s0.acts) (by rfl) (HOX.out.alloc _) ⟨w4.heap.size, 0, none⟩ 1 1 [.bool false, .slice Au da.length cu] (by rfl) (by rfl) (World.news_of_block (cs := #[.bool false, .slice Au da.length cu]) (t := 92) (fr := (0, 0)) (heap_alloc_new w4 _)) (by simp [Value.oneCell']) (by omega) (by unfold maxLen; omega) hal (Nat.zero_le _) (w4.heap.size + 1) (by simp) ?_; intro g cap w5 hown5 hgrow hat hlt5; have f5 : w5.frozen? ⟨d, 2, none⟩ = false := (hgrow.frozen_far ⟨d, 2, none⟩ (show d < (World.alloc w4 _).heap.size by simp; omega) (fun e => hbne d e.symm rfl)).trans (((Below.refl w4.heap.size w4).alloc (Nat.le_refl _) _).frozen (p := ⟨d, 2, none⟩) (show d < w4.heap.size by first | exact hdl | omega) |>.trans (blk_frozen (blk_keep HB4.out H1.out.1.at_ hdl) _)); have c5 : w5.cell? ⟨d, 2, none⟩ = some (.slice Af D.s0.acts.length cf) := (hgrow.cell_far ⟨d, 2, none⟩ (show d < (World.alloc w4 _).heap.size by simp; omega) (fun e => hbne d e.symm rfl)).trans ((((Below.refl w4.heap.size w4).alloc (Nat.le_refl _) _).cell (p := ⟨d, 2, none⟩) (show d < w4.heap.size by first | exact hdl | omega)).trans cd4); clear cd4))
        all_goals
          have R := hid (H1.out.1.more0 (a := .app da) (T := fun k => (Value.slice Au da.length cu).ownBlock = some k) HB4.out ((Fr.alloc _ w4 _).trans ((Fr.of_grown hgrow).mono fun k _ h => .inl h)) ⟨HU.out.sl, fun _ k hk => hk⟩ h0 (fun k hk => World.ownsRow.lt HU.out k hk) HVL.out HVE.out hown5 (hat.imp id (fun e => by omega)) hlt5)
          clear c0 c1 c2 c3 c4 c6 c7 c8
          go_wp2
          go_ret
          exact ⟨rfl, Rt.eff (i := 0) (o := .append da) HV.out.sd H1.out R.out (by simp only [DOp.eff]; rw [if_pos h0]; rfl)⟩
      · go_enter Try.func65, Try.ntmps65
        go_upto_region 15 with (fail)
        refine Code.seen (fun W => RV W S I d l0 l1 a0 a1 D.near.more ∧ Fr (fun k => k = d) w W ∧ W.heap.size = w.heap.size) R.out fun w1 H1 => ?_
        clear c4 c5 c6 c7 c8 f5 f6 f8 R
        obtain ⟨c0, c1, c2, c3, c4, c5, c6, c7, c8⟩ := H1.out.1.cells
        obtain ⟨vs, hvl, hown, hve⟩ := H1.out.1.m1
        obtain ⟨Af, cf, rfl⟩ := own_form hown
        obtain ⟨i0, hi0, hz0, hz1, hz2⟩ := info_parts infoLs
        have HVL := hid hvl
        have HVE := hid hve
        have HOWN := hid hown
        have hdl := H1.out.1.lt d H1.out.1.sd
        have hal : (D.s1.acts.length + 1) * 32 ≤ 140737488355328 := by omega
        have hbne : ∀ k, (Value.slice Af D.s1.acts.length cf).ownBlock = some k → ¬ k = d := fun k hk => (H1.out.1.r1 k hk).2.2
        clear hvl hve hown
        have HD1 := hid ((sl_fr0 HDV.out H1.out.2.1 (fun h0 k hk e => hvS h0 k hk (e ▸ HV.out.sd))).drew)
        have C := hid (laid_app (.slice none 0 0) (.slice Av da.length cv) [] da w1.drew (Sl.nil _ _) HD1.out (by simp only [List.length_nil]; omega))
        go_upto_region 18 with (fail)
        go_region_law (first
          | (go_simp; go_at_call 63; (with_reducible refine C.out.mono ?_); rintro e w4 ⟨u, rfl, hu, hb4⟩; rw [List.nil_append] at hu; obtain ⟨Au, cu, rfl⟩ := hu.form; have HU := hid hu; have HB4 := hid (below_then (drew_below w1) hb4); have hs4 := HB4.out.size; have cd4 : w4.cell? ⟨d, 3, none⟩ = some (.slice Af D.s1.acts.length cf) := (blk_cell (blk_keep HB4.out H1.out.1.at_ hdl) _).trans rfl; have cda : ∀ o, (w4.alloc o).cell? ⟨d, 3, none⟩ = some (.slice Af D.s1.acts.length cf) := fun o => (((Below.refl w4.heap.size w4).alloc (Nat.le_refl _) o).cell (p := ⟨d, 3, none⟩) (show d < w4.heap.size by omega)).trans cd4; have HOX := hid (own_fr HOWN.out (Fr.of_below HB4.out) (fun _ _ h => h)); clear hu hb4)
          | (refine step_append_lies _ (by rfl) (.tmp 80) (.tmp 85) 80 (by rfl) 0 92 i0 _ 2 32 Try.underlying80 hi0 hz0 hz1 hz2 rfl (by omega) (.slice Af D.s1.acts.length cf) D.s1.acts.length (looseCells vs D.s1.acts) (by rfl) (HOX.out.alloc _) ⟨w4.heap.size, 0, none⟩ 1 1 [.bool false, .slice Au da.length cu] (by rfl) (by rfl) (World.news_of_block (cs := #[.bool false, .slice Au da.length cu]) (t := 92) (fr := (0, 0)) (heap_alloc_new w4 _)) (by simp [Value.oneCell']) (by omega) (by unfold maxLen; omega) hal (Nat.zero_le _) (w4.heap.size + 1) (by simp) ?_; intro g cap w5 hown5 hgrow hat hlt5; have f5 : w5.frozen? ⟨d, 3, none⟩ = false := (hgrow.frozen_far ⟨d, 3, none⟩ (show d < (World.alloc w4 _).heap.size by simp; omega) (fun e => hbne d e.symm rfl)).trans (((Below.refl w4.heap.size w4).alloc (Nat.le_refl _) _).frozen (p := ⟨d, 3, none⟩) (show d < w4.heap.size by first | exact hdl | omega) |>.trans (blk_frozen (blk_keep HB4.out H1.out.1.at_ hdl) _)); have c5 : w5.cell? ⟨d, 3, none⟩ = some (.slice Af D.s1.acts.length cf) := (hgrow.cell_far ⟨d, 3, none⟩ (show d < (World.alloc w4 _).heap.size by simp; omega) (fun e => hbne d e.symm rfl)).trans ((((Below.refl w4.heap.size w4).alloc (Nat.le_refl _) _).cell (p := ⟨d, 3, none⟩) (show d < w4.heap.size by first | exact hdl | omega)).trans cd4); clear cd4))
        all_goals
          have R := hid (H1.out.1.more1 (a := .app da) (T := fun k => (Value.slice Au da.length cu).ownBlock = some k) HB4.out ((Fr.alloc _ w4 _).trans ((Fr.of_grown hgrow).mono fun k _ h => .inl h)) ⟨HU.out.sl, fun _ k hk => hk⟩ h0 (fun k hk => World.ownsRow.lt HU.out k hk) HVL.out HVE.out hown5 (hat.imp id (fun e => by omega)) hlt5)
          clear c0 c1 c2 c3 c4 c6 c7 c8
          go_wp2
          go_ret
          exact ⟨rfl, Rt.eff (i := 1) (o := .append da) HV.out.sd H1.out R.out (by simp only [DOp.eff]; rw [if_pos h0]; rfl)⟩
  · rw [if_neg h1, if_neg (fun e => h1 e.1)]
    by_cases h2 : D.named = 0
    · rw [h2] at c6
      have R := hid (HV.out.pre0 h2 hd)
      clear h1 h2 hd
      rcases hn with rfl | rfl
      · go_enter Try.func65, Try.ntmps65
        go_upto_region 15 with (fail)
        refine Code.seen (fun W => RV W S I d l0 l1 a0 a1 D.near.more ∧ Fr (fun k => k = d) w W ∧ W.heap.size = w.heap.size) R.out fun w1 H1 => ?_
        clear c4 c5 c6 c7 c8 f5 f6 f8 R
        obtain ⟨c0, c1, c2, c3, c4, c5, c6, c7, c8⟩ := H1.out.1.cells
        obtain ⟨vs, hvl, hown, hve⟩ := H1.out.1.m0
        obtain ⟨Af, cf, rfl⟩ := own_form hown
        obtain ⟨i0, hi0, hz0, hz1, hz2⟩ := info_parts infoLs
        have HVL := hid hvl
        have HVE := hid hve
        have HOWN := hid hown
        have hdl := H1.out.1.lt d H1.out.1.sd
        have hal : (D.s0.acts.length + 1) * 32 ≤ 140737488355328 := by omega
        have hbne : ∀ k, (Value.slice Af D.s0.acts.length cf).ownBlock = some k → ¬ k = d := fun k hk => (H1.out.1.r0 k hk).2.2
        clear hvl hve hown
        have HD1 := hid ((sl_fr0 HDV.out H1.out.2.1 (fun h0 k hk e => hvS h0 k hk (e ▸ HV.out.sd))).drew)
        have C := hid (laid_app (.slice none 0 0) (.slice Av da.length cv) [] da w1.drew (Sl.nil _ _) HD1.out (by simp only [List.length_nil]; omega))
        go_upto_region 18 with (fail)
        go_region_law (first
          | (go_simp; go_at_call 63; (with_reducible refine C.out.mono ?_); rintro e w4 ⟨u, rfl, hu, hb4⟩; rw [List.nil_append] at hu; obtain ⟨Au, cu, rfl⟩ := hu.form; have HU := hid hu; have HB4 := hid (below_then (drew_below w1) hb4); have hs4 := HB4.out.size; have cd4 : w4.cell? ⟨d, 2, none⟩ = some (.slice Af D.s0.acts.length cf) := (blk_cell (blk_keep HB4.out H1.out.1.at_ hdl) _).trans rfl; have cda : ∀ o, (w4.alloc o).cell? ⟨d, 2, none⟩ = some (.slice Af D.s0.acts.length cf) := fun o => (((Below.refl w4.heap.size w4).alloc (Nat.le_refl _) o).cell (p := ⟨d, 2, none⟩) (show d < w4.heap.size by omega)).trans cd4; have HOX := hid (own_fr HOWN.out (Fr.of_below HB4.out) (fun _ _ h => h)); clear hu hb4)
          | (refine step_append_lies _ (by rfl) (.tmp 80) (.tmp 85) 80 (by rfl) 0 92 i0 _ 2 32 Try.underlying80 hi0 hz0 hz1 hz2 rfl (by omega) (.slice Af D.s0.acts.length cf) D.s0.acts.length (looseCells vs D.s0.acts) (by rfl) (HOX.out.alloc _) ⟨w4.heap.size, 0, none⟩ 1 1 [.bool false, .slice Au da.length cu] (by rfl) (by rfl) (World.news_of_block (cs := #[.bool false, .slice Au da.length cu]) (t := 92) (fr := (0, 0)) (heap_alloc_new w4 _)) (by simp [Value.oneCell']) (by omega) (by unfold maxLen; omega) hal (Nat.zero_le _) (w4.heap.size + 1) (by simp) ?_; intro g cap w5 hown5 hgrow hat hlt5; have f5 : w5.frozen? ⟨d, 2, none⟩ = false := (hgrow.frozen_far ⟨d, 2, none⟩ (show d < (World.alloc w4 _).heap.size by simp; omega) (fun e => hbne d e.symm rfl)).trans (((Below.refl w4.heap.size w4).alloc (Nat.le_refl _) _).frozen (p := ⟨d, 2, none⟩) (show d < w4.heap.size by first | exact hdl | omega) |>.trans (blk_frozen (blk_keep HB4.out H1.out.1.at_ hdl) _)); have c5 : w5.cell? ⟨d, 2, none⟩ = some (.slice Af D.s0.acts.length cf) := (hgrow.cell_far ⟨d, 2, none⟩ (show d < (World.alloc w4 _).heap.size by simp; omega) (fun e => hbne d e.symm rfl)).trans ((((Below.refl w4.heap.size w4).alloc (Nat.le_refl _) _).cell (p := ⟨d, 2, none⟩) (show d < w4.heap.size by first | exact hdl | omega)).trans cd4); clear cd4))
        all_goals
          have R := hid (H1.out.1.more0 (a := .app da) (T := fun k => (Value.slice Au da.length cu).ownBlock = some k) HB4.out ((Fr.alloc _ w4 _).trans ((Fr.of_grown hgrow).mono fun k _ h => .inl h)) ⟨HU.out.sl, fun _ k hk => hk⟩ h0 (fun k hk => World.ownsRow.lt HU.out k hk) HVL.out HVE.out hown5 (hat.imp id (fun e => by omega)) hlt5)
          clear c0 c1 c2 c3 c4 c6 c7 c8
          go_wp2
          go_ret
          exact ⟨rfl, Rt.eff (i := 0) (o := .append da) HV.out.sd H1.out R.out (by simp only [DOp.eff]; rw [if_pos h0]; rfl)⟩
      · go_enter Try.func65, Try.ntmps65
        go_upto_region 15 with (fail)
        refine Code.seen (fun W => RV W S I d l0 l1 a0 a1 D.near.more ∧ Fr (fun k => k = d) w W ∧ W.heap.size = w.heap.size) R.out fun w1 H1 => ?_
        clear c4 c5 c6 c7 c8 f5 f6 f8 R
        obtain ⟨c0, c1, c2, c3, c4, c5, c6, c7, c8⟩ := H1.out.1.cells
        obtain ⟨vs, hvl, hown, hve⟩ := H1.out.1.m1
        obtain ⟨Af, cf, rfl⟩ := own_form hown
        obtain ⟨i0, hi0, hz0, hz1, hz2⟩ := info_parts infoLs
        have HVL := hid hvl
        have HVE := hid hve
        have HOWN := hid hown
        have hdl := H1.out.1.lt d H1.out.1.sd
        have hal : (D.s1.acts.length + 1) * 32 ≤ 140737488355328 := by omega
        have hbne : ∀ k, (Value.slice Af D.s1.acts.length cf).ownBlock = some k → ¬ k = d := fun k hk => (H1.out.1.r1 k hk).2.2
        clear hvl hve hown
        have HD1 := hid ((sl_fr0 HDV.out H1.out.2.1 (fun h0 k hk e => hvS h0 k hk (e ▸ HV.out.sd))).drew)
        have C := hid (laid_app (.slice none 0 0) (.slice Av da.length cv) [] da w1.drew (Sl.nil _ _) HD1.out (by simp only [List.length_nil]; omega))
        go_upto_region 18 with (fail)
        go_region_law (first
          | (go_simp; go_at_call 63; (with_reducible refine C.out.mono ?_); rintro e w4 ⟨u, rfl, hu, hb4⟩; rw [List.nil_append] at hu; obtain ⟨Au, cu, rfl⟩ := hu.form; have HU := hid hu; have HB4 := hid (below_then (drew_below w1) hb4); have hs4 := HB4.out.size; have cd4 : w4.cell? ⟨d, 3, none⟩ = some (.slice Af D.s1.acts.length cf) := (blk_cell (blk_keep HB4.out H1.out.1.at_ hdl) _).trans rfl; have cda : ∀ o, (w4.alloc o).cell? ⟨d, 3, none⟩ = some (.slice Af D.s1.acts.length cf) := fun o => (((Below.refl w4.heap.size w4).alloc (Nat.le_refl _) o).cell (p := ⟨d, 3, none⟩) (show d < w4.heap.size by omega)).trans cd4; have HOX := hid (own_fr HOWN.out (Fr.of_below HB4.out) (fun _ _ h => h)); clear hu hb4)
          | (refine step_append_lies _ (by rfl) (.tmp 80) (.tmp 85) 80 (by rfl) 0 92 i0 _ 2 32 Try.underlying80 hi0 hz0 hz1 hz2 rfl (by omega) (.slice Af D.s1.acts.length cf) D.s1.acts.length (looseCells vs D.s1.acts) (by rfl) (HOX.out.alloc _) ⟨w4.heap.size, 0, none⟩ 1 1 [.bool false, .slice Au da.length cu] (by rfl) (by rfl) (World.news_of_block (cs := #[.bool false, .slice Au da.length cu]) (t := 92) (fr := (0, 0)) (heap_alloc_new w4 _)) (by simp [Value.oneCell']) (by omega) (by unfold maxLen; omega) hal (Nat.zero_le _) (w4.heap.size + 1) (by simp) ?_; intro g cap w5 hown5 hgrow hat hlt5; have f5 : w5.frozen? ⟨d, 3, none⟩ = false := (hgrow.frozen_far ⟨d, 3, none⟩ (show d < (World.alloc w4 _).heap.size by simp; omega) (fun e => hbne d e.symm rfl)).trans (((Below.refl w4.heap.size w4).alloc (Nat.le_refl _) _).frozen (p := ⟨d, 3, none⟩) (show d < w4.heap.size by first | exact hdl | omega) |>.trans (blk_frozen (blk_keep HB4.out H1.out.1.at_ hdl) _)); have c5 : w5.cell? ⟨d, 3, none⟩ = some (.slice Af D.s1.acts.length cf) := (hgrow.cell_far ⟨d, 3, none⟩ (show d < (World.alloc w4 _).heap.size by simp; omega) (fun e => hbne d e.symm rfl)).trans ((((Below.refl w4.heap.size w4).alloc (Nat.le_refl _) _).cell (p := ⟨d, 3, none⟩) (show d < w4.heap.size by first | exact hdl | omega)).trans cd4); clear cd4))
        all_goals
          have R := hid (H1.out.1.more1 (a := .app da) (T := fun k => (Value.slice Au da.length cu).ownBlock = some k) HB4.out ((Fr.alloc _ w4 _).trans ((Fr.of_grown hgrow).mono fun k _ h => .inl h)) ⟨HU.out.sl, fun _ k hk => hk⟩ h0 (fun k hk => World.ownsRow.lt HU.out k hk) HVL.out HVE.out hown5 (hat.imp id (fun e => by omega)) hlt5)
          clear c0 c1 c2 c3 c4 c6 c7 c8
          go_wp2
          go_ret
          exact ⟨rfl, Rt.eff (i := 1) (o := .append da) HV.out.sd H1.out R.out (by simp only [DOp.eff]; rw [if_pos h0]; rfl)⟩
    · have R := hid (HV.out.pre2 (by omega) hd)
      have g1 : ((D.named : Int) == 1) = false := by simp; omega
      have g2 : (0 : Int) < (D.named : Int) := by omega
      clear h1 h2 hd
      rcases hn with rfl | rfl
      · go_enter Try.func65, Try.ntmps65
        go_upto_region 15 with (fail)
        refine Code.seen (fun W => RV W S I d l0 l1 a0 a1 D.near.more ∧ Fr (fun k => k = d) w W ∧ W.heap.size = w.heap.size) R.out fun w1 H1 => ?_
        clear c4 c5 c6 c7 c8 f5 f6 f8 R
        obtain ⟨c0, c1, c2, c3, c4, c5, c6, c7, c8⟩ := H1.out.1.cells
        obtain ⟨vs, hvl, hown, hve⟩ := H1.out.1.m0
        obtain ⟨Af, cf, rfl⟩ := own_form hown
        obtain ⟨i0, hi0, hz0, hz1, hz2⟩ := info_parts infoLs
        have HVL := hid hvl
        have HVE := hid hve
        have HOWN := hid hown
        have hdl := H1.out.1.lt d H1.out.1.sd
        have hal : (D.s0.acts.length + 1) * 32 ≤ 140737488355328 := by omega
        have hbne : ∀ k, (Value.slice Af D.s0.acts.length cf).ownBlock = some k → ¬ k = d := fun k hk => (H1.out.1.r0 k hk).2.2
        clear hvl hve hown
        have HD1 := hid ((sl_fr0 HDV.out H1.out.2.1 (fun h0 k hk e => hvS h0 k hk (e ▸ HV.out.sd))).drew)
        have C := hid (laid_app (.slice none 0 0) (.slice Av da.length cv) [] da w1.drew (Sl.nil _ _) HD1.out (by simp only [List.length_nil]; omega))
        go_upto_region 18 with (fail)
        go_region_law (first
          | (go_simp; go_at_call 63; (with_reducible refine C.out.mono ?_); rintro e w4 ⟨u, rfl, hu, hb4⟩; rw [List.nil_append] at hu; obtain ⟨Au, cu, rfl⟩ := hu.form; have HU := hid hu; have HB4 := hid (below_then (drew_below w1) hb4); have hs4 := HB4.out.size; have cd4 : w4.cell? ⟨d, 2, none⟩ = some (.slice Af D.s0.acts.length cf) := (blk_cell (blk_keep HB4.out H1.out.1.at_ hdl) _).trans rfl; have cda : ∀ o, (w4.alloc o).cell? ⟨d, 2, none⟩ = some (.slice Af D.s0.acts.length cf) := fun o => (((Below.refl w4.heap.size w4).alloc (Nat.le_refl _) o).cell (p := ⟨d, 2, none⟩) (show d < w4.heap.size by omega)).trans cd4; have HOX := hid (own_fr HOWN.out (Fr.of_below HB4.out) (fun _ _ h => h)); clear hu hb4)
          | (refine step_append_lies _ (by rfl) (.tmp 80) (.tmp 85) 80 (by rfl) 0 92 i0 _ 2 32 Try.underlying80 hi0 hz0 hz1 hz2 rfl (by omega) (.slice Af D.s0.acts.length cf) D.s0.acts.length (looseCells vs D.s0.acts) (by rfl) (HOX.out.alloc _) ⟨w4.heap.size, 0, none⟩ 1 1 [.bool false, .slice Au da.length cu] (by rfl) (by rfl) (World.news_of_block (cs := #[.bool false, .slice Au da.length cu]) (t := 92) (fr := (0, 0)) (heap_alloc_new w4 _)) (by simp [Value.oneCell']) (by omega) (by unfold maxLen; omega) hal (Nat.zero_le _) (w4.heap.size + 1) (by simp) ?_; intro g cap w5 hown5 hgrow hat hlt5; have f5 : w5.frozen? ⟨d, 2, none⟩ = false := (hgrow.frozen_far ⟨d, 2, none⟩ (show d < (World.alloc w4 _).heap.size by simp; omega) (fun e => hbne d e.symm rfl)).trans (((Below.refl w4.heap.size w4).alloc (Nat.le_refl _) _).frozen (p := ⟨d, 2, none⟩) (show d < w4.heap.size by first | exact hdl | omega) |>.trans (blk_frozen (blk_keep HB4.out H1.out.1.at_ hdl) _)); have c5 : w5.cell? ⟨d, 2, none⟩ = some (.slice Af D.s0.acts.length cf) := (hgrow.cell_far ⟨d, 2, none⟩ (show d < (World.alloc w4 _).heap.size by simp; omega) (fun e => hbne d e.symm rfl)).trans ((((Below.refl w4.heap.size w4).alloc (Nat.le_refl _) _).cell (p := ⟨d, 2, none⟩) (show d < w4.heap.size by first | exact hdl | omega)).trans cd4); clear cd4))
        all_goals
          have R := hid (H1.out.1.more0 (a := .app da) (T := fun k => (Value.slice Au da.length cu).ownBlock = some k) HB4.out ((Fr.alloc _ w4 _).trans ((Fr.of_grown hgrow).mono fun k _ h => .inl h)) ⟨HU.out.sl, fun _ k hk => hk⟩ h0 (fun k hk => World.ownsRow.lt HU.out k hk) HVL.out HVE.out hown5 (hat.imp id (fun e => by omega)) hlt5)
          clear c0 c1 c2 c3 c4 c6 c7 c8
          go_wp2
          go_ret
          exact ⟨rfl, Rt.eff (i := 0) (o := .append da) HV.out.sd H1.out R.out (by simp only [DOp.eff]; rw [if_pos h0]; rfl)⟩
      · go_enter Try.func65, Try.ntmps65
        go_upto_region 15 with (fail)
        refine Code.seen (fun W => RV W S I d l0 l1 a0 a1 D.near.more ∧ Fr (fun k => k = d) w W ∧ W.heap.size = w.heap.size) R.out fun w1 H1 => ?_
        clear c4 c5 c6 c7 c8 f5 f6 f8 R
        obtain ⟨c0, c1, c2, c3, c4, c5, c6, c7, c8⟩ := H1.out.1.cells
        obtain ⟨vs, hvl, hown, hve⟩ := H1.out.1.m1
        obtain ⟨Af, cf, rfl⟩ := own_form hown
        obtain ⟨i0, hi0, hz0, hz1, hz2⟩ := info_parts infoLs
        have HVL := hid hvl
        have HVE := hid hve
        have HOWN := hid hown
        have hdl := H1.out.1.lt d H1.out.1.sd
        have hal : (D.s1.acts.length + 1) * 32 ≤ 140737488355328 := by omega
        have hbne : ∀ k, (Value.slice Af D.s1.acts.length cf).ownBlock = some k → ¬ k = d := fun k hk => (H1.out.1.r1 k hk).2.2
        clear hvl hve hown
        have HD1 := hid ((sl_fr0 HDV.out H1.out.2.1 (fun h0 k hk e => hvS h0 k hk (e ▸ HV.out.sd))).drew)
        have C := hid (laid_app (.slice none 0 0) (.slice Av da.length cv) [] da w1.drew (Sl.nil _ _) HD1.out (by simp only [List.length_nil]; omega))
        go_upto_region 18 with (fail)
        go_region_law (first
          | (go_simp; go_at_call 63; (with_reducible refine C.out.mono ?_); rintro e w4 ⟨u, rfl, hu, hb4⟩; rw [List.nil_append] at hu; obtain ⟨Au, cu, rfl⟩ := hu.form; have HU := hid hu; have HB4 := hid (below_then (drew_below w1) hb4); have hs4 := HB4.out.size; have cd4 : w4.cell? ⟨d, 3, none⟩ = some (.slice Af D.s1.acts.length cf) := (blk_cell (blk_keep HB4.out H1.out.1.at_ hdl) _).trans rfl; have cda : ∀ o, (w4.alloc o).cell? ⟨d, 3, none⟩ = some (.slice Af D.s1.acts.length cf) := fun o => (((Below.refl w4.heap.size w4).alloc (Nat.le_refl _) o).cell (p := ⟨d, 3, none⟩) (show d < w4.heap.size by omega)).trans cd4; have HOX := hid (own_fr HOWN.out (Fr.of_below HB4.out) (fun _ _ h => h)); clear hu hb4)
          | (refine step_append_lies _ (by rfl) (.tmp 80) (.tmp 85) 80 (by rfl) 0 92 i0 _ 2 32 Try.underlying80 hi0 hz0 hz1 hz2 rfl (by omega) (.slice Af D.s1.acts.length cf) D.s1.acts.length (looseCells vs D.s1.acts) (by rfl) (HOX.out.alloc _) ⟨w4.heap.size, 0, none⟩ 1 1 [.bool false, .slice Au da.length cu] (by rfl) (by rfl) (World.news_of_block (cs := #[.bool false, .slice Au da.length cu]) (t := 92) (fr := (0, 0)) (heap_alloc_new w4 _)) (by simp [Value.oneCell']) (by omega) (by unfold maxLen; omega) hal (Nat.zero_le _) (w4.heap.size + 1) (by simp) ?_; intro g cap w5 hown5 hgrow hat hlt5; have f5 : w5.frozen? ⟨d, 3, none⟩ = false := (hgrow.frozen_far ⟨d, 3, none⟩ (show d < (World.alloc w4 _).heap.size by simp; omega) (fun e => hbne d e.symm rfl)).trans (((Below.refl w4.heap.size w4).alloc (Nat.le_refl _) _).frozen (p := ⟨d, 3, none⟩) (show d < w4.heap.size by first | exact hdl | omega) |>.trans (blk_frozen (blk_keep HB4.out H1.out.1.at_ hdl) _)); have c5 : w5.cell? ⟨d, 3, none⟩ = some (.slice Af D.s1.acts.length cf) := (hgrow.cell_far ⟨d, 3, none⟩ (show d < (World.alloc w4 _).heap.size by simp; omega) (fun e => hbne d e.symm rfl)).trans ((((Below.refl w4.heap.size w4).alloc (Nat.le_refl _) _).cell (p := ⟨d, 3, none⟩) (show d < w4.heap.size by first | exact hdl | omega)).trans cd4); clear cd4))
        all_goals
          have R := hid (H1.out.1.more1 (a := .app da) (T := fun k => (Value.slice Au da.length cu).ownBlock = some k) HB4.out ((Fr.alloc _ w4 _).trans ((Fr.of_grown hgrow).mono fun k _ h => .inl h)) ⟨HU.out.sl, fun _ k hk => hk⟩ h0 (fun k hk => World.ownsRow.lt HU.out k hk) HVL.out HVE.out hown5 (hat.imp id (fun e => by omega)) hlt5)
          clear c0 c1 c2 c3 c4 c6 c7 c8
          go_wp2
          go_ret
          exact ⟨rfl, Rt.eff (i := 1) (o := .append da) HV.out.sd H1.out R.out (by simp only [DOp.eff]; rw [if_pos h0]; rfl)⟩
end Go.Proofs.Ytcadacljacbipaa
