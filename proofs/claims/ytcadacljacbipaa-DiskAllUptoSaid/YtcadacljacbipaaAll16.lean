/- The document's disk: Append, Wipe, Sync, Switch within 'act'. (Printed by genract.py.) -/
import Derived.Test.YtcadacljacbipaaAll13
import Derived.Test.YtcadacljacbipaaAll14
namespace Go.Proofs.Ytcadacljacbipaa
open Go.RowKit

set_option maxRecDepth 100000 in
set_option maxHeartbeats 8000000 in
theorem ract_wipe (w : World) (S : Nat → Prop) (d : Nat) (D : Dk) (n : Int) (v : Value) (h : RAt w S d D) (hd : D.dead = false) (hn : n = 0 ∨ n = 1) (hdone : D.done + 1 ≤ 4611686018427387904) (hnm : D.named ≤ 9223372036854775807) (ha : D.s0.acts.length ≤ 1099511627776 ∧ D.s1.acts.length ≤ 1099511627776) (hb : n ≠ (D.cur : Int)) :
    Calls Try.prog 65 #[.pointer (some ⟨d, 0, none⟩), .int .i64 2, .int .i64 n, v] w fun e w' => e = .returned (.int .i64 (if D.named = 1 then 60 else 0)) ∧ Rt w w' S d (if D.named = 1 ∧ D.withIt = false then D.near else (DOp.wipe.eff n.toNat D.near).more) := by
  obtain ⟨c4, c5, c6, c7, c8, hfz⟩ := h.cells
  obtain ⟨I, l0, l1, a0, a1, hV⟩ := h
  have HV := hid hV
  rw [hd] at c8
  have f5 := hfz 5
  have f6 := hfz 6
  have f8 := hfz 8
  have hc : (n == (D.cur : Int)) = false := by simp [hb]
  clear hb
  clear hV hfz
  by_cases h1 : D.named = 1
  · rw [if_pos h1]
    rw [h1] at c6
    by_cases h2 : D.withIt = false
    · rw [if_pos ⟨h1, h2⟩]
      rw [h2] at c7
      have R := hid (HV.out.near1 h1)
      clear h1 h2 hd
      rcases hn with rfl | rfl
      all_goals
        go_enter Try.func65, Try.ntmps65
        go_wp2
        go_ret
        exact ⟨rfl, Rt.of_turn HV.out.sd R.out.2.1 R.out.1⟩
    · have h2' : D.withIt = true := by simpa using h2
      rw [if_neg (fun e => h2 e.2)]
      rw [h2'] at c7
      have R := hid (HV.out.pre1 h1)
      clear h1 h2 h2' hd
      rcases hn with rfl | rfl

      · go_enter Try.func65, Try.ntmps65
        go_upto_region 15 with (fail)
        refine Code.seen (fun W => RV W S I d l0 l1 a0 a1 D.near.more ∧ Fr (fun k => k = d) w W ∧ W.heap.size = w.heap.size) R.out fun w1 H1 => ?_
        clear c4 c5 c6 c7 c8 f5 f6 f8 R
        obtain ⟨c0, c1, c2, c3, c4, c5, c6, c7, c8⟩ := H1.out.1.cells
        obtain ⟨vs, hvl, hown, hve⟩ := H1.out.1.m0
        obtain ⟨Af, cf, rfl⟩ := own_form hown
        obtain ⟨i0, hi0, hz0, hz1, hz2⟩ := info_parts infoLs
        have HVL := hid hvl
        have HVE := hid hve
        have HOWN := hid hown
        have hdl := H1.out.1.lt d H1.out.1.sd
        have hal : (D.s0.acts.length + 1) * 32 ≤ 140737488355328 := by omega
        have hbne : ∀ k, (Value.slice Af D.s0.acts.length cf).ownBlock = some k → ¬ k = d := fun k hk => (H1.out.1.r0 k hk).2.2
        clear hvl hve hown
        have HOX := hid (own_fr HOWN.out (Fr.of_below (drew_below w1)) (fun _ _ h => h))
        have HB4 := hid (drew_below w1)
        have cd4 : w1.drew.cell? ⟨d, 2, none⟩ = some (.slice Af D.s0.acts.length cf) := c2
        go_upto_region 20 with (fail)
        go_region_law (refine step_append_lies _ (by rfl) (.tmp 99) (.tmp 101) 80 (by rfl) 0 92 i0 _ 2 32 Try.underlying80 hi0 hz0 hz1 hz2 rfl (by omega) (.slice Af D.s0.acts.length cf) D.s0.acts.length (looseCells vs D.s0.acts) (by rfl) (HOX.out.alloc _) ⟨w1.drew.heap.size, 0, none⟩ 1 1 [.bool true, .slice none 0 0] (by rfl) (by rfl) (World.news_of_block (cs := #[.bool true, .slice none 0 0]) (t := 92) (fr := (0, 0)) (heap_alloc_new w1.drew _)) (by simp [Value.oneCell']) (by omega) (by unfold maxLen; omega) hal (Nat.zero_le _) (w1.drew.heap.size + 1) (by simp) ?_; intro g cap w5 hown5 hgrow hat hlt5; have f5 : w5.frozen? ⟨d, 2, none⟩ = false := (hgrow.frozen_far ⟨d, 2, none⟩ (show d < (World.alloc w1.drew _).heap.size by simp; omega) (fun e => hbne d e.symm rfl)).trans (((Below.refl w1.drew.heap.size w1.drew).alloc (Nat.le_refl _) _).frozen (p := ⟨d, 2, none⟩) (show d < w1.drew.heap.size by first | exact hdl | omega) |>.trans (blk_frozen (blk_keep HB4.out H1.out.1.at_ hdl) _)); have c5 : w5.cell? ⟨d, 2, none⟩ = some (.slice Af D.s0.acts.length cf) := (hgrow.cell_far ⟨d, 2, none⟩ (show d < (World.alloc w1.drew _).heap.size by simp; omega) (fun e => hbne d e.symm rfl)).trans ((((Below.refl w1.drew.heap.size w1.drew).alloc (Nat.le_refl _) _).cell (p := ⟨d, 2, none⟩) (show d < w1.drew.heap.size by first | exact hdl | omega)).trans cd4); clear cd4)
        all_goals
          have R := hid (H1.out.1.more0 (a := .wipe) (T := fun _ => False) HB4.out ((Fr.alloc _ w1.drew _).trans ((Fr.of_grown hgrow).mono fun k _ h => .inl h)) (SlI.nil _ _) trivial (fun k h => h.elim) HVL.out HVE.out hown5 (hat.imp id (fun e => by omega)) hlt5)
          clear c0 c1 c2 c3 c4 c6 c7 c8
          go_wp2
          go_ret
          exact ⟨rfl, Rt.eff (i := 0) (o := .wipe) HV.out.sd H1.out R.out rfl⟩
      · go_enter Try.func65, Try.ntmps65
        go_upto_region 15 with (fail)
        refine Code.seen (fun W => RV W S I d l0 l1 a0 a1 D.near.more ∧ Fr (fun k => k = d) w W ∧ W.heap.size = w.heap.size) R.out fun w1 H1 => ?_
        clear c4 c5 c6 c7 c8 f5 f6 f8 R
        obtain ⟨c0, c1, c2, c3, c4, c5, c6, c7, c8⟩ := H1.out.1.cells
        obtain ⟨vs, hvl, hown, hve⟩ := H1.out.1.m1
        obtain ⟨Af, cf, rfl⟩ := own_form hown
        obtain ⟨i0, hi0, hz0, hz1, hz2⟩ := info_parts infoLs
        have HVL := hid hvl
        have HVE := hid hve
        have HOWN := hid hown
        have hdl := H1.out.1.lt d H1.out.1.sd
        have hal : (D.s1.acts.length + 1) * 32 ≤ 140737488355328 := by omega
        have hbne : ∀ k, (Value.slice Af D.s1.acts.length cf).ownBlock = some k → ¬ k = d := fun k hk => (H1.out.1.r1 k hk).2.2
        clear hvl hve hown
        have HOX := hid (own_fr HOWN.out (Fr.of_below (drew_below w1)) (fun _ _ h => h))
        have HB4 := hid (drew_below w1)
        have cd4 : w1.drew.cell? ⟨d, 3, none⟩ = some (.slice Af D.s1.acts.length cf) := c3
        go_upto_region 20 with (fail)
        go_region_law (refine step_append_lies _ (by rfl) (.tmp 99) (.tmp 101) 80 (by rfl) 0 92 i0 _ 2 32 Try.underlying80 hi0 hz0 hz1 hz2 rfl (by omega) (.slice Af D.s1.acts.length cf) D.s1.acts.length (looseCells vs D.s1.acts) (by rfl) (HOX.out.alloc _) ⟨w1.drew.heap.size, 0, none⟩ 1 1 [.bool true, .slice none 0 0] (by rfl) (by rfl) (World.news_of_block (cs := #[.bool true, .slice none 0 0]) (t := 92) (fr := (0, 0)) (heap_alloc_new w1.drew _)) (by simp [Value.oneCell']) (by omega) (by unfold maxLen; omega) hal (Nat.zero_le _) (w1.drew.heap.size + 1) (by simp) ?_; intro g cap w5 hown5 hgrow hat hlt5; have f5 : w5.frozen? ⟨d, 3, none⟩ = false := (hgrow.frozen_far ⟨d, 3, none⟩ (show d < (World.alloc w1.drew _).heap.size by simp; omega) (fun e => hbne d e.symm rfl)).trans (((Below.refl w1.drew.heap.size w1.drew).alloc (Nat.le_refl _) _).frozen (p := ⟨d, 3, none⟩) (show d < w1.drew.heap.size by first | exact hdl | omega) |>.trans (blk_frozen (blk_keep HB4.out H1.out.1.at_ hdl) _)); have c5 : w5.cell? ⟨d, 3, none⟩ = some (.slice Af D.s1.acts.length cf) := (hgrow.cell_far ⟨d, 3, none⟩ (show d < (World.alloc w1.drew _).heap.size by simp; omega) (fun e => hbne d e.symm rfl)).trans ((((Below.refl w1.drew.heap.size w1.drew).alloc (Nat.le_refl _) _).cell (p := ⟨d, 3, none⟩) (show d < w1.drew.heap.size by first | exact hdl | omega)).trans cd4); clear cd4)
        all_goals
          have R := hid (H1.out.1.more1 (a := .wipe) (T := fun _ => False) HB4.out ((Fr.alloc _ w1.drew _).trans ((Fr.of_grown hgrow).mono fun k _ h => .inl h)) (SlI.nil _ _) trivial (fun k h => h.elim) HVL.out HVE.out hown5 (hat.imp id (fun e => by omega)) hlt5)
          clear c0 c1 c2 c3 c4 c6 c7 c8
          go_wp2
          go_ret
          exact ⟨rfl, Rt.eff (i := 1) (o := .wipe) HV.out.sd H1.out R.out rfl⟩
  · rw [if_neg h1, if_neg (fun e => h1 e.1)]
    by_cases h2 : D.named = 0
    · rw [h2] at c6
      have R := hid (HV.out.pre0 h2 hd)
      clear h1 h2 hd
      rcases hn with rfl | rfl
      · go_enter Try.func65, Try.ntmps65
        go_upto_region 15 with (fail)
        refine Code.seen (fun W => RV W S I d l0 l1 a0 a1 D.near.more ∧ Fr (fun k => k = d) w W ∧ W.heap.size = w.heap.size) R.out fun w1 H1 => ?_
        clear c4 c5 c6 c7 c8 f5 f6 f8 R
        obtain ⟨c0, c1, c2, c3, c4, c5, c6, c7, c8⟩ := H1.out.1.cells
        obtain ⟨vs, hvl, hown, hve⟩ := H1.out.1.m0
        obtain ⟨Af, cf, rfl⟩ := own_form hown
        obtain ⟨i0, hi0, hz0, hz1, hz2⟩ := info_parts infoLs
        have HVL := hid hvl
        have HVE := hid hve
        have HOWN := hid hown
        have hdl := H1.out.1.lt d H1.out.1.sd
        have hal : (D.s0.acts.length + 1) * 32 ≤ 140737488355328 := by omega
        have hbne : ∀ k, (Value.slice Af D.s0.acts.length cf).ownBlock = some k → ¬ k = d := fun k hk => (H1.out.1.r0 k hk).2.2
        clear hvl hve hown
        have HOX := hid (own_fr HOWN.out (Fr.of_below (drew_below w1)) (fun _ _ h => h))
        have HB4 := hid (drew_below w1)
        have cd4 : w1.drew.cell? ⟨d, 2, none⟩ = some (.slice Af D.s0.acts.length cf) := c2
        go_upto_region 20 with (fail)
        go_region_law (refine step_append_lies _ (by rfl) (.tmp 99) (.tmp 101) 80 (by rfl) 0 92 i0 _ 2 32 Try.underlying80 hi0 hz0 hz1 hz2 rfl (by omega) (.slice Af D.s0.acts.length cf) D.s0.acts.length (looseCells vs D.s0.acts) (by rfl) (HOX.out.alloc _) ⟨w1.drew.heap.size, 0, none⟩ 1 1 [.bool true, .slice none 0 0] (by rfl) (by rfl) (World.news_of_block (cs := #[.bool true, .slice none 0 0]) (t := 92) (fr := (0, 0)) (heap_alloc_new w1.drew _)) (by simp [Value.oneCell']) (by omega) (by unfold maxLen; omega) hal (Nat.zero_le _) (w1.drew.heap.size + 1) (by simp) ?_; intro g cap w5 hown5 hgrow hat hlt5; have f5 : w5.frozen? ⟨d, 2, none⟩ = false := (hgrow.frozen_far ⟨d, 2, none⟩ (show d < (World.alloc w1.drew _).heap.size by simp; omega) (fun e => hbne d e.symm rfl)).trans (((Below.refl w1.drew.heap.size w1.drew).alloc (Nat.le_refl _) _).frozen (p := ⟨d, 2, none⟩) (show d < w1.drew.heap.size by first | exact hdl | omega) |>.trans (blk_frozen (blk_keep HB4.out H1.out.1.at_ hdl) _)); have c5 : w5.cell? ⟨d, 2, none⟩ = some (.slice Af D.s0.acts.length cf) := (hgrow.cell_far ⟨d, 2, none⟩ (show d < (World.alloc w1.drew _).heap.size by simp; omega) (fun e => hbne d e.symm rfl)).trans ((((Below.refl w1.drew.heap.size w1.drew).alloc (Nat.le_refl _) _).cell (p := ⟨d, 2, none⟩) (show d < w1.drew.heap.size by first | exact hdl | omega)).trans cd4); clear cd4)
        all_goals
          have R := hid (H1.out.1.more0 (a := .wipe) (T := fun _ => False) HB4.out ((Fr.alloc _ w1.drew _).trans ((Fr.of_grown hgrow).mono fun k _ h => .inl h)) (SlI.nil _ _) trivial (fun k h => h.elim) HVL.out HVE.out hown5 (hat.imp id (fun e => by omega)) hlt5)
          clear c0 c1 c2 c3 c4 c6 c7 c8
          go_wp2
          go_ret
          exact ⟨rfl, Rt.eff (i := 0) (o := .wipe) HV.out.sd H1.out R.out rfl⟩
      · go_enter Try.func65, Try.ntmps65
        go_upto_region 15 with (fail)
        refine Code.seen (fun W => RV W S I d l0 l1 a0 a1 D.near.more ∧ Fr (fun k => k = d) w W ∧ W.heap.size = w.heap.size) R.out fun w1 H1 => ?_
        clear c4 c5 c6 c7 c8 f5 f6 f8 R
        obtain ⟨c0, c1, c2, c3, c4, c5, c6, c7, c8⟩ := H1.out.1.cells
        obtain ⟨vs, hvl, hown, hve⟩ := H1.out.1.m1
        obtain ⟨Af, cf, rfl⟩ := own_form hown
        obtain ⟨i0, hi0, hz0, hz1, hz2⟩ := info_parts infoLs
        have HVL := hid hvl
        have HVE := hid hve
        have HOWN := hid hown
        have hdl := H1.out.1.lt d H1.out.1.sd
        have hal : (D.s1.acts.length + 1) * 32 ≤ 140737488355328 := by omega
        have hbne : ∀ k, (Value.slice Af D.s1.acts.length cf).ownBlock = some k → ¬ k = d := fun k hk => (H1.out.1.r1 k hk).2.2
        clear hvl hve hown
        have HOX := hid (own_fr HOWN.out (Fr.of_below (drew_below w1)) (fun _ _ h => h))
        have HB4 := hid (drew_below w1)
        have cd4 : w1.drew.cell? ⟨d, 3, none⟩ = some (.slice Af D.s1.acts.length cf) := c3
        go_upto_region 20 with (fail)
        go_region_law (refine step_append_lies _ (by rfl) (.tmp 99) (.tmp 101) 80 (by rfl) 0 92 i0 _ 2 32 Try.underlying80 hi0 hz0 hz1 hz2 rfl (by omega) (.slice Af D.s1.acts.length cf) D.s1.acts.length (looseCells vs D.s1.acts) (by rfl) (HOX.out.alloc _) ⟨w1.drew.heap.size, 0, none⟩ 1 1 [.bool true, .slice none 0 0] (by rfl) (by rfl) (World.news_of_block (cs := #[.bool true, .slice none 0 0]) (t := 92) (fr := (0, 0)) (heap_alloc_new w1.drew _)) (by simp [Value.oneCell']) (by omega) (by unfold maxLen; omega) hal (Nat.zero_le _) (w1.drew.heap.size + 1) (by simp) ?_; intro g cap w5 hown5 hgrow hat hlt5; have f5 : w5.frozen? ⟨d, 3, none⟩ = false := (hgrow.frozen_far ⟨d, 3, none⟩ (show d < (World.alloc w1.drew _).heap.size by simp; omega) (fun e => hbne d e.symm rfl)).trans (((Below.refl w1.drew.heap.size w1.drew).alloc (Nat.le_refl _) _).frozen (p := ⟨d, 3, none⟩) (show d < w1.drew.heap.size by first | exact hdl | omega) |>.trans (blk_frozen (blk_keep HB4.out H1.out.1.at_ hdl) _)); have c5 : w5.cell? ⟨d, 3, none⟩ = some (.slice Af D.s1.acts.length cf) := (hgrow.cell_far ⟨d, 3, none⟩ (show d < (World.alloc w1.drew _).heap.size by simp; omega) (fun e => hbne d e.symm rfl)).trans ((((Below.refl w1.drew.heap.size w1.drew).alloc (Nat.le_refl _) _).cell (p := ⟨d, 3, none⟩) (show d < w1.drew.heap.size by first | exact hdl | omega)).trans cd4); clear cd4)
        all_goals
          have R := hid (H1.out.1.more1 (a := .wipe) (T := fun _ => False) HB4.out ((Fr.alloc _ w1.drew _).trans ((Fr.of_grown hgrow).mono fun k _ h => .inl h)) (SlI.nil _ _) trivial (fun k h => h.elim) HVL.out HVE.out hown5 (hat.imp id (fun e => by omega)) hlt5)
          clear c0 c1 c2 c3 c4 c6 c7 c8
          go_wp2
          go_ret
          exact ⟨rfl, Rt.eff (i := 1) (o := .wipe) HV.out.sd H1.out R.out rfl⟩
    · have R := hid (HV.out.pre2 (by omega) hd)
      have g1 : ((D.named : Int) == 1) = false := by simp; omega
      have g2 : (0 : Int) < (D.named : Int) := by omega
      clear h1 h2 hd
      rcases hn with rfl | rfl
      · go_enter Try.func65, Try.ntmps65
        go_upto_region 15 with (fail)
        refine Code.seen (fun W => RV W S I d l0 l1 a0 a1 D.near.more ∧ Fr (fun k => k = d) w W ∧ W.heap.size = w.heap.size) R.out fun w1 H1 => ?_
        clear c4 c5 c6 c7 c8 f5 f6 f8 R
        obtain ⟨c0, c1, c2, c3, c4, c5, c6, c7, c8⟩ := H1.out.1.cells
        obtain ⟨vs, hvl, hown, hve⟩ := H1.out.1.m0
        obtain ⟨Af, cf, rfl⟩ := own_form hown
        obtain ⟨i0, hi0, hz0, hz1, hz2⟩ := info_parts infoLs
        have HVL := hid hvl
        have HVE := hid hve
        have HOWN := hid hown
        have hdl := H1.out.1.lt d H1.out.1.sd
        have hal : (D.s0.acts.length + 1) * 32 ≤ 140737488355328 := by omega
        have hbne : ∀ k, (Value.slice Af D.s0.acts.length cf).ownBlock = some k → ¬ k = d := fun k hk => (H1.out.1.r0 k hk).2.2
        clear hvl hve hown
        have HOX := hid (own_fr HOWN.out (Fr.of_below (drew_below w1)) (fun _ _ h => h))
        have HB4 := hid (drew_below w1)
        have cd4 : w1.drew.cell? ⟨d, 2, none⟩ = some (.slice Af D.s0.acts.length cf) := c2
        go_upto_region 20 with (fail)
        go_region_law (refine step_append_lies _ (by rfl) (.tmp 99) (.tmp 101) 80 (by rfl) 0 92 i0 _ 2 32 Try.underlying80 hi0 hz0 hz1 hz2 rfl (by omega) (.slice Af D.s0.acts.length cf) D.s0.acts.length (looseCells vs D.s0.acts) (by rfl) (HOX.out.alloc _) ⟨w1.drew.heap.size, 0, none⟩ 1 1 [.bool true, .slice none 0 0] (by rfl) (by rfl) (World.news_of_block (cs := #[.bool true, .slice none 0 0]) (t := 92) (fr := (0, 0)) (heap_alloc_new w1.drew _)) (by simp [Value.oneCell']) (by omega) (by unfold maxLen; omega) hal (Nat.zero_le _) (w1.drew.heap.size + 1) (by simp) ?_; intro g cap w5 hown5 hgrow hat hlt5; have f5 : w5.frozen? ⟨d, 2, none⟩ = false := (hgrow.frozen_far ⟨d, 2, none⟩ (show d < (World.alloc w1.drew _).heap.size by simp; omega) (fun e => hbne d e.symm rfl)).trans (((Below.refl w1.drew.heap.size w1.drew).alloc (Nat.le_refl _) _).frozen (p := ⟨d, 2, none⟩) (show d < w1.drew.heap.size by first | exact hdl | omega) |>.trans (blk_frozen (blk_keep HB4.out H1.out.1.at_ hdl) _)); have c5 : w5.cell? ⟨d, 2, none⟩ = some (.slice Af D.s0.acts.length cf) := (hgrow.cell_far ⟨d, 2, none⟩ (show d < (World.alloc w1.drew _).heap.size by simp; omega) (fun e => hbne d e.symm rfl)).trans ((((Below.refl w1.drew.heap.size w1.drew).alloc (Nat.le_refl _) _).cell (p := ⟨d, 2, none⟩) (show d < w1.drew.heap.size by first | exact hdl | omega)).trans cd4); clear cd4)
        all_goals
          have R := hid (H1.out.1.more0 (a := .wipe) (T := fun _ => False) HB4.out ((Fr.alloc _ w1.drew _).trans ((Fr.of_grown hgrow).mono fun k _ h => .inl h)) (SlI.nil _ _) trivial (fun k h => h.elim) HVL.out HVE.out hown5 (hat.imp id (fun e => by omega)) hlt5)
          clear c0 c1 c2 c3 c4 c6 c7 c8
          go_wp2
          go_ret
          exact ⟨rfl, Rt.eff (i := 0) (o := .wipe) HV.out.sd H1.out R.out rfl⟩
      · go_enter Try.func65, Try.ntmps65
        go_upto_region 15 with (fail)
        refine Code.seen (fun W => RV W S I d l0 l1 a0 a1 D.near.more ∧ Fr (fun k => k = d) w W ∧ W.heap.size = w.heap.size) R.out fun w1 H1 => ?_
        clear c4 c5 c6 c7 c8 f5 f6 f8 R
        obtain ⟨c0, c1, c2, c3, c4, c5, c6, c7, c8⟩ := H1.out.1.cells
        obtain ⟨vs, hvl, hown, hve⟩ := H1.out.1.m1
        obtain ⟨Af, cf, rfl⟩ := own_form hown
        obtain ⟨i0, hi0, hz0, hz1, hz2⟩ := info_parts infoLs
        have HVL := hid hvl
        have HVE := hid hve
        have HOWN := hid hown
        have hdl := H1.out.1.lt d H1.out.1.sd
        have hal : (D.s1.acts.length + 1) * 32 ≤ 140737488355328 := by omega
        have hbne : ∀ k, (Value.slice Af D.s1.acts.length cf).ownBlock = some k → ¬ k = d := fun k hk => (H1.out.1.r1 k hk).2.2
        clear hvl hve hown
        have HOX := hid (own_fr HOWN.out (Fr.of_below (drew_below w1)) (fun _ _ h => h))
        have HB4 := hid (drew_below w1)
        have cd4 : w1.drew.cell? ⟨d, 3, none⟩ = some (.slice Af D.s1.acts.length cf) := c3
        go_upto_region 20 with (fail)
        go_region_law (refine step_append_lies _ (by rfl) (.tmp 99) (.tmp 101) 80 (by rfl) 0 92 i0 _ 2 32 Try.underlying80 hi0 hz0 hz1 hz2 rfl (by omega) (.slice Af D.s1.acts.length cf) D.s1.acts.length (looseCells vs D.s1.acts) (by rfl) (HOX.out.alloc _) ⟨w1.drew.heap.size, 0, none⟩ 1 1 [.bool true, .slice none 0 0] (by rfl) (by rfl) (World.news_of_block (cs := #[.bool true, .slice none 0 0]) (t := 92) (fr := (0, 0)) (heap_alloc_new w1.drew _)) (by simp [Value.oneCell']) (by omega) (by unfold maxLen; omega) hal (Nat.zero_le _) (w1.drew.heap.size + 1) (by simp) ?_; intro g cap w5 hown5 hgrow hat hlt5; have f5 : w5.frozen? ⟨d, 3, none⟩ = false := (hgrow.frozen_far ⟨d, 3, none⟩ (show d < (World.alloc w1.drew _).heap.size by simp; omega) (fun e => hbne d e.symm rfl)).trans (((Below.refl w1.drew.heap.size w1.drew).alloc (Nat.le_refl _) _).frozen (p := ⟨d, 3, none⟩) (show d < w1.drew.heap.size by first | exact hdl | omega) |>.trans (blk_frozen (blk_keep HB4.out H1.out.1.at_ hdl) _)); have c5 : w5.cell? ⟨d, 3, none⟩ = some (.slice Af D.s1.acts.length cf) := (hgrow.cell_far ⟨d, 3, none⟩ (show d < (World.alloc w1.drew _).heap.size by simp; omega) (fun e => hbne d e.symm rfl)).trans ((((Below.refl w1.drew.heap.size w1.drew).alloc (Nat.le_refl _) _).cell (p := ⟨d, 3, none⟩) (show d < w1.drew.heap.size by first | exact hdl | omega)).trans cd4); clear cd4)
        all_goals
          have R := hid (H1.out.1.more1 (a := .wipe) (T := fun _ => False) HB4.out ((Fr.alloc _ w1.drew _).trans ((Fr.of_grown hgrow).mono fun k _ h => .inl h)) (SlI.nil _ _) trivial (fun k h => h.elim) HVL.out HVE.out hown5 (hat.imp id (fun e => by omega)) hlt5)
          clear c0 c1 c2 c3 c4 c6 c7 c8
          go_wp2
          go_ret
          exact ⟨rfl, Rt.eff (i := 1) (o := .wipe) HV.out.sd H1.out R.out rfl⟩
end Go.Proofs.Ytcadacljacbipaa
