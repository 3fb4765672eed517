/- The document's disk: Append, Wipe, Sync, Switch within 'act'. (Printed by genract.py.) -/
import Derived.Test.YtcadacljacbipaaAll13
namespace Go.Proofs.Ytcadacljacbipaa
open Go.RowKit
theorem Rt.eff {w w1 w2 : World} {S I : Nat → Prop} {d i : Nat} {l0 l1 a0 a1 : Value} {D D' : Dk} {o : DOp} (hd : S d) (h1 : RV w1 S I d l0 l1 a0 a1 D.near.more ∧ Fr (fun k => k = d) w w1 ∧ w1.heap.size = w.heap.size) (h : Rt w1 w2 S d D') (he : D' = o.eff i D.near.more) : Rt w w2 S d (o.eff i D.near).more := by
  rw [eff_more, ← he]
  exact Rt.after hd h1.2.1 h1.2.2 h
set_option maxRecDepth 100000 in
set_option maxHeartbeats 8000000 in
theorem ract_switch (w : World) (S : Nat → Prop) (d : Nat) (D : Dk) (n : Int) (v : Value) (h : RAt w S d D) (hd : D.dead = false) (hn : n = 0 ∨ n = 1) (hdone : D.done + 1 ≤ 4611686018427387904) (hnm : D.named ≤ 9223372036854775807) :
    Calls Try.prog 65 #[.pointer (some ⟨d, 0, none⟩), .int .i64 4, .int .i64 n, v] w fun e w' => e = .returned (.int .i64 (if D.named = 1 then 60 else 0)) ∧ Rt w w' S d (if D.named = 1 ∧ D.withIt = false then D.near else (DOp.switch.eff n.toNat D.near).more) := by
  obtain ⟨c4, c5, c6, c7, c8, hfz⟩ := h.cells
  obtain ⟨I, l0, l1, a0, a1, hV⟩ := h
  have HV := hid hV
  rw [hd] at c8
  have f5 := hfz 5
  have f6 := hfz 6
  have f8 := hfz 8
  clear hV hfz
  by_cases h1 : D.named = 1
  · rw [if_pos h1]
    rw [h1] at c6
    by_cases h2 : D.withIt = false
    · rw [if_pos ⟨h1, h2⟩]
      rw [h2] at c7
      have R := hid (HV.out.near1 h1)
      clear h1 h2 hd
      rcases hn with rfl | rfl
      all_goals
        go_enter Try.func65, Try.ntmps65
        go_wp2
        go_ret
        exact ⟨rfl, Rt.of_turn HV.out.sd R.out.2.1 R.out.1⟩
    · have h2' : D.withIt = true := by simpa using h2
      rw [if_neg (fun e => h2 e.2)]
      rw [h2'] at c7
      have R := hid (HV.out.pre1 h1)
      clear h1 h2 h2' hd
      rcases hn with rfl | rfl

      · go_enter Try.func65, Try.ntmps65
        go_upto_region 15 with (fail)
        refine Code.seen (fun W => RV W S I d l0 l1 a0 a1 D.near.more ∧ Fr (fun k => k = d) w W ∧ W.heap.size = w.heap.size) R.out fun w1 H1 => ?_
        clear c4 c5 c6 c7 c8 f5 f6 f8 R
        obtain ⟨c0, c1, c2, c3, c4, c5, c6, c7, c8⟩ := H1.out.1.cells
        have f4 := H1.out.1.frozen 4
        go_wp2
        go_ret
        exact ⟨rfl, Rt.eff (i := 0) (o := .switch) HV.out.sd H1.out (Rt.of_turn HV.out.sd (Fr.set_ _ _) (H1.out.1.turn (D' := { D.near.more with cur := 0 }) 4 _ rfl rfl rfl (by show 0 < 2; omega))) rfl⟩
      · go_enter Try.func65, Try.ntmps65
        go_upto_region 15 with (fail)
        refine Code.seen (fun W => RV W S I d l0 l1 a0 a1 D.near.more ∧ Fr (fun k => k = d) w W ∧ W.heap.size = w.heap.size) R.out fun w1 H1 => ?_
        clear c4 c5 c6 c7 c8 f5 f6 f8 R
        obtain ⟨c0, c1, c2, c3, c4, c5, c6, c7, c8⟩ := H1.out.1.cells
        have f4 := H1.out.1.frozen 4
        go_wp2
        go_ret
        exact ⟨rfl, Rt.eff (i := 1) (o := .switch) HV.out.sd H1.out (Rt.of_turn HV.out.sd (Fr.set_ _ _) (H1.out.1.turn (D' := { D.near.more with cur := 1 }) 4 _ rfl rfl rfl (by show 1 < 2; omega))) rfl⟩
  · rw [if_neg h1, if_neg (fun e => h1 e.1)]
    by_cases h2 : D.named = 0
    · rw [h2] at c6
      have R := hid (HV.out.pre0 h2 hd)
      clear h1 h2 hd
      rcases hn with rfl | rfl
      · go_enter Try.func65, Try.ntmps65
        go_upto_region 15 with (fail)
        refine Code.seen (fun W => RV W S I d l0 l1 a0 a1 D.near.more ∧ Fr (fun k => k = d) w W ∧ W.heap.size = w.heap.size) R.out fun w1 H1 => ?_
        clear c4 c5 c6 c7 c8 f5 f6 f8 R
        obtain ⟨c0, c1, c2, c3, c4, c5, c6, c7, c8⟩ := H1.out.1.cells
        have f4 := H1.out.1.frozen 4
        go_wp2
        go_ret
        exact ⟨rfl, Rt.eff (i := 0) (o := .switch) HV.out.sd H1.out (Rt.of_turn HV.out.sd (Fr.set_ _ _) (H1.out.1.turn (D' := { D.near.more with cur := 0 }) 4 _ rfl rfl rfl (by show 0 < 2; omega))) rfl⟩
      · go_enter Try.func65, Try.ntmps65
        go_upto_region 15 with (fail)
        refine Code.seen (fun W => RV W S I d l0 l1 a0 a1 D.near.more ∧ Fr (fun k => k = d) w W ∧ W.heap.size = w.heap.size) R.out fun w1 H1 => ?_
        clear c4 c5 c6 c7 c8 f5 f6 f8 R
        obtain ⟨c0, c1, c2, c3, c4, c5, c6, c7, c8⟩ := H1.out.1.cells
        have f4 := H1.out.1.frozen 4
        go_wp2
        go_ret
        exact ⟨rfl, Rt.eff (i := 1) (o := .switch) HV.out.sd H1.out (Rt.of_turn HV.out.sd (Fr.set_ _ _) (H1.out.1.turn (D' := { D.near.more with cur := 1 }) 4 _ rfl rfl rfl (by show 1 < 2; omega))) rfl⟩
    · have R := hid (HV.out.pre2 (by omega) hd)
      have g1 : ((D.named : Int) == 1) = false := by simp; omega
      have g2 : (0 : Int) < (D.named : Int) := by omega
      clear h1 h2 hd
      rcases hn with rfl | rfl
      · go_enter Try.func65, Try.ntmps65
        go_upto_region 15 with (fail)
        refine Code.seen (fun W => RV W S I d l0 l1 a0 a1 D.near.more ∧ Fr (fun k => k = d) w W ∧ W.heap.size = w.heap.size) R.out fun w1 H1 => ?_
        clear c4 c5 c6 c7 c8 f5 f6 f8 R
        obtain ⟨c0, c1, c2, c3, c4, c5, c6, c7, c8⟩ := H1.out.1.cells
        have f4 := H1.out.1.frozen 4
        go_wp2
        go_ret
        exact ⟨rfl, Rt.eff (i := 0) (o := .switch) HV.out.sd H1.out (Rt.of_turn HV.out.sd (Fr.set_ _ _) (H1.out.1.turn (D' := { D.near.more with cur := 0 }) 4 _ rfl rfl rfl (by show 0 < 2; omega))) rfl⟩
      · go_enter Try.func65, Try.ntmps65
        go_upto_region 15 with (fail)
        refine Code.seen (fun W => RV W S I d l0 l1 a0 a1 D.near.more ∧ Fr (fun k => k = d) w W ∧ W.heap.size = w.heap.size) R.out fun w1 H1 => ?_
        clear c4 c5 c6 c7 c8 f5 f6 f8 R
        obtain ⟨c0, c1, c2, c3, c4, c5, c6, c7, c8⟩ := H1.out.1.cells
        have f4 := H1.out.1.frozen 4
        go_wp2
        go_ret
        exact ⟨rfl, Rt.eff (i := 1) (o := .switch) HV.out.sd H1.out (Rt.of_turn HV.out.sd (Fr.set_ _ _) (H1.out.1.turn (D' := { D.near.more with cur := 1 }) 4 _ rfl rfl rfl (by show 1 < 2; omega))) rfl⟩
set_option maxRecDepth 100000 in
set_option maxHeartbeats 8000000 in
theorem ract_sync (w : World) (S : Nat → Prop) (d : Nat) (D : Dk) (n : Int) (v : Value) (h : RAt w S d D) (hd : D.dead = false) (hn : n = 0 ∨ n = 1) (hdone : D.done + 1 ≤ 4611686018427387904) (hnm : D.named ≤ 9223372036854775807) (hr : D.s0.room ≤ 140737488355328 ∧ D.s1.room ≤ 140737488355328) (ha : D.s0.acts.length ≤ 1099511627776 ∧ D.s1.acts.length ≤ 1099511627776) :
    Calls Try.prog 65 #[.pointer (some ⟨d, 0, none⟩), .int .i64 3, .int .i64 n, v] w fun e w' => e = .returned (.int .i64 (if D.named = 1 then 60 else 0)) ∧ Rt w w' S d (if D.named = 1 ∧ D.withIt = false then D.near else (DOp.sync.eff n.toNat D.near).more) := by
  obtain ⟨c4, c5, c6, c7, c8, hfz⟩ := h.cells
  obtain ⟨I, l0, l1, a0, a1, hV⟩ := h
  have HV := hid hV
  rw [hd] at c8
  have f5 := hfz 5
  have f6 := hfz 6
  have f8 := hfz 8
  clear hV hfz
  by_cases h1 : D.named = 1
  · rw [if_pos h1]
    rw [h1] at c6
    by_cases h2 : D.withIt = false
    · rw [if_pos ⟨h1, h2⟩]
      rw [h2] at c7
      have R := hid (HV.out.near1 h1)
      clear h1 h2 hd
      rcases hn with rfl | rfl
      all_goals
        go_enter Try.func65, Try.ntmps65
        go_wp2
        go_ret
        exact ⟨rfl, Rt.of_turn HV.out.sd R.out.2.1 R.out.1⟩
    · have h2' : D.withIt = true := by simpa using h2
      rw [if_neg (fun e => h2 e.2)]
      rw [h2'] at c7
      have R := hid (HV.out.pre1 h1)
      clear h1 h2 h2' hd
      rcases hn with rfl | rfl

      · go_enter Try.func65, Try.ntmps65
        go_upto_region 15 with (fail)
        refine Code.seen (fun W => RV W S I d l0 l1 a0 a1 D.near.more ∧ Fr (fun k => k = d) w W ∧ W.heap.size = w.heap.size) R.out fun w1 H1 => ?_
        clear c4 c5 c6 c7 c8 f5 f6 f8 R
        obtain ⟨c0, c1, c2, c3, c4, c5, c6, c7, c8⟩ := H1.out.1.cells
        have C : Hid (Calls Try.prog 64 #[.pointer (some ⟨d, 0, none⟩), .int .i64 0] w1.drew fun e w' => ∃ v, e = .returned v ∧ OwnB w' w1.drew.heap.size v D.s0.now ∧ Below w1.drew.heap.size w1.drew w') := hid (now_any w1.drew S d D.near.more 0 (RAt.below ⟨_, _, _, _, _, H1.out.1⟩ (drew_below w1)) (by omega) (show D.s0.room ≤ _ by omega) (show D.s0.acts.length ≤ _ by omega))
        have hdl := H1.out.1.lt d H1.out.1.sd
        go_upto_region 22 with (fail)
        go_region_law (first
          | (go_simp; go_at_call 64; (with_reducible refine C.out.mono ?_); rintro e w2 ⟨v2, rfl, ho2, hb2⟩; obtain ⟨A2, k2, rfl⟩ := ho2.form; have HO2 := hid ho2; have HB2 := hid (below_then (drew_below w1) hb2); have f0 : w2.frozen? ⟨d, 0, none⟩ = false := blk_frozen (blk_keep HB2.out H1.out.1.at_ hdl) _; have x0 : w2.cell? ⟨d, 0, none⟩ = some l0 := (blk_cell (blk_keep HB2.out H1.out.1.at_ hdl) _).trans rfl; clear ho2 hb2))
        all_goals
          have hs2 := HB2.out.size
          have R1 := hid (H1.out.1.putl0 (T := fun k => (Value.slice A2 D.s0.now.length k2).ownBlock = some k) (l' := D.s0.now) (blk_set (blk_keep HB2.out H1.out.1.at_ hdl) 0 (.slice A2 D.s0.now.length k2)) (((Fr.of_below HB2.out).mono fun _ _ h => h.elim).trans ((Fr.set_ _ _).mono fun k _ e => .inl e)) ⟨(SlB.fr_own HO2.out (Fr.set_ _ _) (fun k e => by show k < w1.heap.size; omega)).sl, fun _ k hk => hk⟩ (fun k hk => by have h1 := World.ownsRow.lt HO2.out k hk; have h2 : w1.heap.size ≤ k := h1.1; have h3 := h1.2; refine ⟨h2, ?_⟩; simpa using h3))
          clear f0 x0 HO2 HB2 hs2 C c0 c1 c2 c3 c4 c5 c6 c7 c8
          go_upto_region 23 with (fail)
          generalize w2.setCell ⟨d, 0, none⟩ (.slice A2 D.s0.now.length k2) = w3 at *
          obtain ⟨I3, m0, m1, b0, b1, hV3⟩ := R1.out.1
          have HV3 := hid hV3
          obtain ⟨c0, c1, c2, c3, c4, c5, c6, c7, c8⟩ := hV3.cells
          have fz := hV3.frozen 2
          clear hV3
          go_wp2
          go_ret
          exact ⟨rfl, Rt.eff (i := 0) (o := .sync) HV.out.sd H1.out (R1.out.trans (HV3.out.puta0 (T := fun _ => False) (acts' := []) (blk_set HV3.out.at_ 2 (.slice none 0 0)) ((Fr.set_ _ _).mono fun k _ e => .inl e) (LsAt.nil _ _) (fun k hk => hk.elim) (fun k hk => by simp [Value.ownBlock] at hk))) rfl⟩
      · go_enter Try.func65, Try.ntmps65
        go_upto_region 15 with (fail)
        refine Code.seen (fun W => RV W S I d l0 l1 a0 a1 D.near.more ∧ Fr (fun k => k = d) w W ∧ W.heap.size = w.heap.size) R.out fun w1 H1 => ?_
        clear c4 c5 c6 c7 c8 f5 f6 f8 R
        obtain ⟨c0, c1, c2, c3, c4, c5, c6, c7, c8⟩ := H1.out.1.cells
        have C : Hid (Calls Try.prog 64 #[.pointer (some ⟨d, 0, none⟩), .int .i64 1] w1.drew fun e w' => ∃ v, e = .returned v ∧ OwnB w' w1.drew.heap.size v D.s1.now ∧ Below w1.drew.heap.size w1.drew w') := hid (now_any w1.drew S d D.near.more 1 (RAt.below ⟨_, _, _, _, _, H1.out.1⟩ (drew_below w1)) (by omega) (show D.s1.room ≤ _ by omega) (show D.s1.acts.length ≤ _ by omega))
        have hdl := H1.out.1.lt d H1.out.1.sd
        go_upto_region 22 with (fail)
        go_region_law (first
          | (go_simp; go_at_call 64; (with_reducible refine C.out.mono ?_); rintro e w2 ⟨v2, rfl, ho2, hb2⟩; obtain ⟨A2, k2, rfl⟩ := ho2.form; have HO2 := hid ho2; have HB2 := hid (below_then (drew_below w1) hb2); have f0 : w2.frozen? ⟨d, 1, none⟩ = false := blk_frozen (blk_keep HB2.out H1.out.1.at_ hdl) _; have x0 : w2.cell? ⟨d, 1, none⟩ = some l1 := (blk_cell (blk_keep HB2.out H1.out.1.at_ hdl) _).trans rfl; clear ho2 hb2))
        all_goals
          have hs2 := HB2.out.size
          have R1 := hid (H1.out.1.putl1 (T := fun k => (Value.slice A2 D.s1.now.length k2).ownBlock = some k) (l' := D.s1.now) (blk_set (blk_keep HB2.out H1.out.1.at_ hdl) 1 (.slice A2 D.s1.now.length k2)) (((Fr.of_below HB2.out).mono fun _ _ h => h.elim).trans ((Fr.set_ _ _).mono fun k _ e => .inl e)) ⟨(SlB.fr_own HO2.out (Fr.set_ _ _) (fun k e => by show k < w1.heap.size; omega)).sl, fun _ k hk => hk⟩ (fun k hk => by have h1 := World.ownsRow.lt HO2.out k hk; have h2 : w1.heap.size ≤ k := h1.1; have h3 := h1.2; refine ⟨h2, ?_⟩; simpa using h3))
          clear f0 x0 HO2 HB2 hs2 C c0 c1 c2 c3 c4 c5 c6 c7 c8
          go_upto_region 23 with (fail)
          generalize w2.setCell ⟨d, 1, none⟩ (.slice A2 D.s1.now.length k2) = w3 at *
          obtain ⟨I3, m0, m1, b0, b1, hV3⟩ := R1.out.1
          have HV3 := hid hV3
          obtain ⟨c0, c1, c2, c3, c4, c5, c6, c7, c8⟩ := hV3.cells
          have fz := hV3.frozen 3
          clear hV3
          go_wp2
          go_ret
          exact ⟨rfl, Rt.eff (i := 1) (o := .sync) HV.out.sd H1.out (R1.out.trans (HV3.out.puta1 (T := fun _ => False) (acts' := []) (blk_set HV3.out.at_ 3 (.slice none 0 0)) ((Fr.set_ _ _).mono fun k _ e => .inl e) (LsAt.nil _ _) (fun k hk => hk.elim) (fun k hk => by simp [Value.ownBlock] at hk))) rfl⟩
  · rw [if_neg h1, if_neg (fun e => h1 e.1)]
    by_cases h2 : D.named = 0
    · rw [h2] at c6
      have R := hid (HV.out.pre0 h2 hd)
      clear h1 h2 hd
      rcases hn with rfl | rfl
      · go_enter Try.func65, Try.ntmps65
        go_upto_region 15 with (fail)
        refine Code.seen (fun W => RV W S I d l0 l1 a0 a1 D.near.more ∧ Fr (fun k => k = d) w W ∧ W.heap.size = w.heap.size) R.out fun w1 H1 => ?_
        clear c4 c5 c6 c7 c8 f5 f6 f8 R
        obtain ⟨c0, c1, c2, c3, c4, c5, c6, c7, c8⟩ := H1.out.1.cells
        have C : Hid (Calls Try.prog 64 #[.pointer (some ⟨d, 0, none⟩), .int .i64 0] w1.drew fun e w' => ∃ v, e = .returned v ∧ OwnB w' w1.drew.heap.size v D.s0.now ∧ Below w1.drew.heap.size w1.drew w') := hid (now_any w1.drew S d D.near.more 0 (RAt.below ⟨_, _, _, _, _, H1.out.1⟩ (drew_below w1)) (by omega) (show D.s0.room ≤ _ by omega) (show D.s0.acts.length ≤ _ by omega))
        have hdl := H1.out.1.lt d H1.out.1.sd
        go_upto_region 22 with (fail)
        go_region_law (first
          | (go_simp; go_at_call 64; (with_reducible refine C.out.mono ?_); rintro e w2 ⟨v2, rfl, ho2, hb2⟩; obtain ⟨A2, k2, rfl⟩ := ho2.form; have HO2 := hid ho2; have HB2 := hid (below_then (drew_below w1) hb2); have f0 : w2.frozen? ⟨d, 0, none⟩ = false := blk_frozen (blk_keep HB2.out H1.out.1.at_ hdl) _; have x0 : w2.cell? ⟨d, 0, none⟩ = some l0 := (blk_cell (blk_keep HB2.out H1.out.1.at_ hdl) _).trans rfl; clear ho2 hb2))
        all_goals
          have hs2 := HB2.out.size
          have R1 := hid (H1.out.1.putl0 (T := fun k => (Value.slice A2 D.s0.now.length k2).ownBlock = some k) (l' := D.s0.now) (blk_set (blk_keep HB2.out H1.out.1.at_ hdl) 0 (.slice A2 D.s0.now.length k2)) (((Fr.of_below HB2.out).mono fun _ _ h => h.elim).trans ((Fr.set_ _ _).mono fun k _ e => .inl e)) ⟨(SlB.fr_own HO2.out (Fr.set_ _ _) (fun k e => by show k < w1.heap.size; omega)).sl, fun _ k hk => hk⟩ (fun k hk => by have h1 := World.ownsRow.lt HO2.out k hk; have h2 : w1.heap.size ≤ k := h1.1; have h3 := h1.2; refine ⟨h2, ?_⟩; simpa using h3))
          clear f0 x0 HO2 HB2 hs2 C c0 c1 c2 c3 c4 c5 c6 c7 c8
          go_upto_region 23 with (fail)
          generalize w2.setCell ⟨d, 0, none⟩ (.slice A2 D.s0.now.length k2) = w3 at *
          obtain ⟨I3, m0, m1, b0, b1, hV3⟩ := R1.out.1
          have HV3 := hid hV3
          obtain ⟨c0, c1, c2, c3, c4, c5, c6, c7, c8⟩ := hV3.cells
          have fz := hV3.frozen 2
          clear hV3
          go_wp2
          go_ret
          exact ⟨rfl, Rt.eff (i := 0) (o := .sync) HV.out.sd H1.out (R1.out.trans (HV3.out.puta0 (T := fun _ => False) (acts' := []) (blk_set HV3.out.at_ 2 (.slice none 0 0)) ((Fr.set_ _ _).mono fun k _ e => .inl e) (LsAt.nil _ _) (fun k hk => hk.elim) (fun k hk => by simp [Value.ownBlock] at hk))) rfl⟩
      · go_enter Try.func65, Try.ntmps65
        go_upto_region 15 with (fail)
        refine Code.seen (fun W => RV W S I d l0 l1 a0 a1 D.near.more ∧ Fr (fun k => k = d) w W ∧ W.heap.size = w.heap.size) R.out fun w1 H1 => ?_
        clear c4 c5 c6 c7 c8 f5 f6 f8 R
        obtain ⟨c0, c1, c2, c3, c4, c5, c6, c7, c8⟩ := H1.out.1.cells
        have C : Hid (Calls Try.prog 64 #[.pointer (some ⟨d, 0, none⟩), .int .i64 1] w1.drew fun e w' => ∃ v, e = .returned v ∧ OwnB w' w1.drew.heap.size v D.s1.now ∧ Below w1.drew.heap.size w1.drew w') := hid (now_any w1.drew S d D.near.more 1 (RAt.below ⟨_, _, _, _, _, H1.out.1⟩ (drew_below w1)) (by omega) (show D.s1.room ≤ _ by omega) (show D.s1.acts.length ≤ _ by omega))
        have hdl := H1.out.1.lt d H1.out.1.sd
        go_upto_region 22 with (fail)
        go_region_law (first
          | (go_simp; go_at_call 64; (with_reducible refine C.out.mono ?_); rintro e w2 ⟨v2, rfl, ho2, hb2⟩; obtain ⟨A2, k2, rfl⟩ := ho2.form; have HO2 := hid ho2; have HB2 := hid (below_then (drew_below w1) hb2); have f0 : w2.frozen? ⟨d, 1, none⟩ = false := blk_frozen (blk_keep HB2.out H1.out.1.at_ hdl) _; have x0 : w2.cell? ⟨d, 1, none⟩ = some l1 := (blk_cell (blk_keep HB2.out H1.out.1.at_ hdl) _).trans rfl; clear ho2 hb2))
        all_goals
          have hs2 := HB2.out.size
          have R1 := hid (H1.out.1.putl1 (T := fun k => (Value.slice A2 D.s1.now.length k2).ownBlock = some k) (l' := D.s1.now) (blk_set (blk_keep HB2.out H1.out.1.at_ hdl) 1 (.slice A2 D.s1.now.length k2)) (((Fr.of_below HB2.out).mono fun _ _ h => h.elim).trans ((Fr.set_ _ _).mono fun k _ e => .inl e)) ⟨(SlB.fr_own HO2.out (Fr.set_ _ _) (fun k e => by show k < w1.heap.size; omega)).sl, fun _ k hk => hk⟩ (fun k hk => by have h1 := World.ownsRow.lt HO2.out k hk; have h2 : w1.heap.size ≤ k := h1.1; have h3 := h1.2; refine ⟨h2, ?_⟩; simpa using h3))
          clear f0 x0 HO2 HB2 hs2 C c0 c1 c2 c3 c4 c5 c6 c7 c8
          go_upto_region 23 with (fail)
          generalize w2.setCell ⟨d, 1, none⟩ (.slice A2 D.s1.now.length k2) = w3 at *
          obtain ⟨I3, m0, m1, b0, b1, hV3⟩ := R1.out.1
          have HV3 := hid hV3
          obtain ⟨c0, c1, c2, c3, c4, c5, c6, c7, c8⟩ := hV3.cells
          have fz := hV3.frozen 3
          clear hV3
          go_wp2
          go_ret
          exact ⟨rfl, Rt.eff (i := 1) (o := .sync) HV.out.sd H1.out (R1.out.trans (HV3.out.puta1 (T := fun _ => False) (acts' := []) (blk_set HV3.out.at_ 3 (.slice none 0 0)) ((Fr.set_ _ _).mono fun k _ e => .inl e) (LsAt.nil _ _) (fun k hk => hk.elim) (fun k hk => by simp [Value.ownBlock] at hk))) rfl⟩
    · have R := hid (HV.out.pre2 (by omega) hd)
      have g1 : ((D.named : Int) == 1) = false := by simp; omega
      have g2 : (0 : Int) < (D.named : Int) := by omega
      clear h1 h2 hd
      rcases hn with rfl | rfl
      · go_enter Try.func65, Try.ntmps65
        go_upto_region 15 with (fail)
        refine Code.seen (fun W => RV W S I d l0 l1 a0 a1 D.near.more ∧ Fr (fun k => k = d) w W ∧ W.heap.size = w.heap.size) R.out fun w1 H1 => ?_
        clear c4 c5 c6 c7 c8 f5 f6 f8 R
        obtain ⟨c0, c1, c2, c3, c4, c5, c6, c7, c8⟩ := H1.out.1.cells
        have C : Hid (Calls Try.prog 64 #[.pointer (some ⟨d, 0, none⟩), .int .i64 0] w1.drew fun e w' => ∃ v, e = .returned v ∧ OwnB w' w1.drew.heap.size v D.s0.now ∧ Below w1.drew.heap.size w1.drew w') := hid (now_any w1.drew S d D.near.more 0 (RAt.below ⟨_, _, _, _, _, H1.out.1⟩ (drew_below w1)) (by omega) (show D.s0.room ≤ _ by omega) (show D.s0.acts.length ≤ _ by omega))
        have hdl := H1.out.1.lt d H1.out.1.sd
        go_upto_region 22 with (fail)
        go_region_law (first
          | (go_simp; go_at_call 64; (with_reducible refine C.out.mono ?_); rintro e w2 ⟨v2, rfl, ho2, hb2⟩; obtain ⟨A2, k2, rfl⟩ := ho2.form; have HO2 := hid ho2; have HB2 := hid (below_then (drew_below w1) hb2); have f0 : w2.frozen? ⟨d, 0, none⟩ = false := blk_frozen (blk_keep HB2.out H1.out.1.at_ hdl) _; have x0 : w2.cell? ⟨d, 0, none⟩ = some l0 := (blk_cell (blk_keep HB2.out H1.out.1.at_ hdl) _).trans rfl; clear ho2 hb2))
        all_goals
          have hs2 := HB2.out.size
          have R1 := hid (H1.out.1.putl0 (T := fun k => (Value.slice A2 D.s0.now.length k2).ownBlock = some k) (l' := D.s0.now) (blk_set (blk_keep HB2.out H1.out.1.at_ hdl) 0 (.slice A2 D.s0.now.length k2)) (((Fr.of_below HB2.out).mono fun _ _ h => h.elim).trans ((Fr.set_ _ _).mono fun k _ e => .inl e)) ⟨(SlB.fr_own HO2.out (Fr.set_ _ _) (fun k e => by show k < w1.heap.size; omega)).sl, fun _ k hk => hk⟩ (fun k hk => by have h1 := World.ownsRow.lt HO2.out k hk; have h2 : w1.heap.size ≤ k := h1.1; have h3 := h1.2; refine ⟨h2, ?_⟩; simpa using h3))
          clear f0 x0 HO2 HB2 hs2 C c0 c1 c2 c3 c4 c5 c6 c7 c8
          go_upto_region 23 with (fail)
          generalize w2.setCell ⟨d, 0, none⟩ (.slice A2 D.s0.now.length k2) = w3 at *
          obtain ⟨I3, m0, m1, b0, b1, hV3⟩ := R1.out.1
          have HV3 := hid hV3
          obtain ⟨c0, c1, c2, c3, c4, c5, c6, c7, c8⟩ := hV3.cells
          have fz := hV3.frozen 2
          clear hV3
          go_wp2
          go_ret
          exact ⟨rfl, Rt.eff (i := 0) (o := .sync) HV.out.sd H1.out (R1.out.trans (HV3.out.puta0 (T := fun _ => False) (acts' := []) (blk_set HV3.out.at_ 2 (.slice none 0 0)) ((Fr.set_ _ _).mono fun k _ e => .inl e) (LsAt.nil _ _) (fun k hk => hk.elim) (fun k hk => by simp [Value.ownBlock] at hk))) rfl⟩
      · go_enter Try.func65, Try.ntmps65
        go_upto_region 15 with (fail)
        refine Code.seen (fun W => RV W S I d l0 l1 a0 a1 D.near.more ∧ Fr (fun k => k = d) w W ∧ W.heap.size = w.heap.size) R.out fun w1 H1 => ?_
        clear c4 c5 c6 c7 c8 f5 f6 f8 R
        obtain ⟨c0, c1, c2, c3, c4, c5, c6, c7, c8⟩ := H1.out.1.cells
        have C : Hid (Calls Try.prog 64 #[.pointer (some ⟨d, 0, none⟩), .int .i64 1] w1.drew fun e w' => ∃ v, e = .returned v ∧ OwnB w' w1.drew.heap.size v D.s1.now ∧ Below w1.drew.heap.size w1.drew w') := hid (now_any w1.drew S d D.near.more 1 (RAt.below ⟨_, _, _, _, _, H1.out.1⟩ (drew_below w1)) (by omega) (show D.s1.room ≤ _ by omega) (show D.s1.acts.length ≤ _ by omega))
        have hdl := H1.out.1.lt d H1.out.1.sd
        go_upto_region 22 with (fail)
        go_region_law (first
          | (go_simp; go_at_call 64; (with_reducible refine C.out.mono ?_); rintro e w2 ⟨v2, rfl, ho2, hb2⟩; obtain ⟨A2, k2, rfl⟩ := ho2.form; have HO2 := hid ho2; have HB2 := hid (below_then (drew_below w1) hb2); have f0 : w2.frozen? ⟨d, 1, none⟩ = false := blk_frozen (blk_keep HB2.out H1.out.1.at_ hdl) _; have x0 : w2.cell? ⟨d, 1, none⟩ = some l1 := (blk_cell (blk_keep HB2.out H1.out.1.at_ hdl) _).trans rfl; clear ho2 hb2))
        all_goals
          have hs2 := HB2.out.size
          have R1 := hid (H1.out.1.putl1 (T := fun k => (Value.slice A2 D.s1.now.length k2).ownBlock = some k) (l' := D.s1.now) (blk_set (blk_keep HB2.out H1.out.1.at_ hdl) 1 (.slice A2 D.s1.now.length k2)) (((Fr.of_below HB2.out).mono fun _ _ h => h.elim).trans ((Fr.set_ _ _).mono fun k _ e => .inl e)) ⟨(SlB.fr_own HO2.out (Fr.set_ _ _) (fun k e => by show k < w1.heap.size; omega)).sl, fun _ k hk => hk⟩ (fun k hk => by have h1 := World.ownsRow.lt HO2.out k hk; have h2 : w1.heap.size ≤ k := h1.1; have h3 := h1.2; refine ⟨h2, ?_⟩; simpa using h3))
          clear f0 x0 HO2 HB2 hs2 C c0 c1 c2 c3 c4 c5 c6 c7 c8
          go_upto_region 23 with (fail)
          generalize w2.setCell ⟨d, 1, none⟩ (.slice A2 D.s1.now.length k2) = w3 at *
          obtain ⟨I3, m0, m1, b0, b1, hV3⟩ := R1.out.1
          have HV3 := hid hV3
          obtain ⟨c0, c1, c2, c3, c4, c5, c6, c7, c8⟩ := hV3.cells
          have fz := hV3.frozen 3
          clear hV3
          go_wp2
          go_ret
          exact ⟨rfl, Rt.eff (i := 1) (o := .sync) HV.out.sd H1.out (R1.out.trans (HV3.out.puta1 (T := fun _ => False) (acts' := []) (blk_set HV3.out.at_ 3 (.slice none 0 0)) ((Fr.set_ _ _).mono fun k _ e => .inl e) (LsAt.nil _ _) (fun k hk => hk.elim) (fun k hk => by simp [Value.ownBlock] at hk))) rfl⟩
set_option maxRecDepth 100000 in
set_option maxHeartbeats 8000000 in
theorem ract_app0 (w : World) (S : Nat → Prop) (d : Nat) (D : Dk) (n : Int) (A : Option Addr) (cv : Nat) (h : RAt w S d D) (hd : D.dead = false) (hn : n = 0 ∨ n = 1) (hdone : D.done + 1 ≤ 4611686018427387904) (hnm : D.named ≤ 9223372036854775807) :
    Calls Try.prog 65 #[.pointer (some ⟨d, 0, none⟩), .int .i64 1, .int .i64 n, .slice A 0 cv] w fun e w' => e = .returned (.int .i64 (if D.named = 1 then 60 else 0)) ∧ Rt w w' S d (if D.named = 1 ∧ D.withIt = false then D.near else ((DOp.append []).eff n.toNat D.near).more) := by
  obtain ⟨c4, c5, c6, c7, c8, hfz⟩ := h.cells
  obtain ⟨I, l0, l1, a0, a1, hV⟩ := h
  have HV := hid hV
  rw [hd] at c8
  have f5 := hfz 5
  have f6 := hfz 6
  have f8 := hfz 8
  clear hV hfz
  by_cases h1 : D.named = 1
  · rw [if_pos h1]
    rw [h1] at c6
    by_cases h2 : D.withIt = false
    · rw [if_pos ⟨h1, h2⟩]
      rw [h2] at c7
      have R := hid (HV.out.near1 h1)
      clear h1 h2 hd
      rcases hn with rfl | rfl
      all_goals
        go_enter Try.func65, Try.ntmps65
        go_wp2
        go_ret
        exact ⟨rfl, Rt.of_turn HV.out.sd R.out.2.1 R.out.1⟩
    · have h2' : D.withIt = true := by simpa using h2
      rw [if_neg (fun e => h2 e.2)]
      rw [h2'] at c7
      have R := hid (HV.out.pre1 h1)
      clear h1 h2 h2' hd
      rcases hn with rfl | rfl

      · go_enter Try.func65, Try.ntmps65
        go_upto_region 15 with (fail)
        refine Code.seen (fun W => RV W S I d l0 l1 a0 a1 D.near.more ∧ Fr (fun k => k = d) w W ∧ W.heap.size = w.heap.size) R.out fun w1 H1 => ?_
        clear c4 c5 c6 c7 c8 f5 f6 f8 R
        obtain ⟨c0, c1, c2, c3, c4, c5, c6, c7, c8⟩ := H1.out.1.cells
        go_wp2
        go_ret
        exact ⟨rfl, Rt.eff (i := 0) (o := .append []) HV.out.sd H1.out (Rt.stay (Below.refl _ _) ⟨_, _, _, _, _, H1.out.1⟩) (by simp [DOp.eff])⟩
      · go_enter Try.func65, Try.ntmps65
        go_upto_region 15 with (fail)
        refine Code.seen (fun W => RV W S I d l0 l1 a0 a1 D.near.more ∧ Fr (fun k => k = d) w W ∧ W.heap.size = w.heap.size) R.out fun w1 H1 => ?_
        clear c4 c5 c6 c7 c8 f5 f6 f8 R
        obtain ⟨c0, c1, c2, c3, c4, c5, c6, c7, c8⟩ := H1.out.1.cells
        go_wp2
        go_ret
        exact ⟨rfl, Rt.eff (i := 1) (o := .append []) HV.out.sd H1.out (Rt.stay (Below.refl _ _) ⟨_, _, _, _, _, H1.out.1⟩) (by simp [DOp.eff])⟩
  · rw [if_neg h1, if_neg (fun e => h1 e.1)]
    by_cases h2 : D.named = 0
    · rw [h2] at c6
      have R := hid (HV.out.pre0 h2 hd)
      clear h1 h2 hd
      rcases hn with rfl | rfl
      · go_enter Try.func65, Try.ntmps65
        go_upto_region 15 with (fail)
        refine Code.seen (fun W => RV W S I d l0 l1 a0 a1 D.near.more ∧ Fr (fun k => k = d) w W ∧ W.heap.size = w.heap.size) R.out fun w1 H1 => ?_
        clear c4 c5 c6 c7 c8 f5 f6 f8 R
        obtain ⟨c0, c1, c2, c3, c4, c5, c6, c7, c8⟩ := H1.out.1.cells
        go_wp2
        go_ret
        exact ⟨rfl, Rt.eff (i := 0) (o := .append []) HV.out.sd H1.out (Rt.stay (Below.refl _ _) ⟨_, _, _, _, _, H1.out.1⟩) (by simp [DOp.eff])⟩
      · go_enter Try.func65, Try.ntmps65
        go_upto_region 15 with (fail)
        refine Code.seen (fun W => RV W S I d l0 l1 a0 a1 D.near.more ∧ Fr (fun k => k = d) w W ∧ W.heap.size = w.heap.size) R.out fun w1 H1 => ?_
        clear c4 c5 c6 c7 c8 f5 f6 f8 R
        obtain ⟨c0, c1, c2, c3, c4, c5, c6, c7, c8⟩ := H1.out.1.cells
        go_wp2
        go_ret
        exact ⟨rfl, Rt.eff (i := 1) (o := .append []) HV.out.sd H1.out (Rt.stay (Below.refl _ _) ⟨_, _, _, _, _, H1.out.1⟩) (by simp [DOp.eff])⟩
    · have R := hid (HV.out.pre2 (by omega) hd)
      have g1 : ((D.named : Int) == 1) = false := by simp; omega
      have g2 : (0 : Int) < (D.named : Int) := by omega
      clear h1 h2 hd
      rcases hn with rfl | rfl
      · go_enter Try.func65, Try.ntmps65
        go_upto_region 15 with (fail)
        refine Code.seen (fun W => RV W S I d l0 l1 a0 a1 D.near.more ∧ Fr (fun k => k = d) w W ∧ W.heap.size = w.heap.size) R.out fun w1 H1 => ?_
        clear c4 c5 c6 c7 c8 f5 f6 f8 R
        obtain ⟨c0, c1, c2, c3, c4, c5, c6, c7, c8⟩ := H1.out.1.cells
        go_wp2
        go_ret
        exact ⟨rfl, Rt.eff (i := 0) (o := .append []) HV.out.sd H1.out (Rt.stay (Below.refl _ _) ⟨_, _, _, _, _, H1.out.1⟩) (by simp [DOp.eff])⟩
      · go_enter Try.func65, Try.ntmps65
        go_upto_region 15 with (fail)
        refine Code.seen (fun W => RV W S I d l0 l1 a0 a1 D.near.more ∧ Fr (fun k => k = d) w W ∧ W.heap.size = w.heap.size) R.out fun w1 H1 => ?_
        clear c4 c5 c6 c7 c8 f5 f6 f8 R
        obtain ⟨c0, c1, c2, c3, c4, c5, c6, c7, c8⟩ := H1.out.1.cells
        go_wp2
        go_ret
        exact ⟨rfl, Rt.eff (i := 1) (o := .append []) HV.out.sd H1.out (Rt.stay (Below.refl _ _) ⟨_, _, _, _, _, H1.out.1⟩) (by simp [DOp.eff])⟩
end Go.Proofs.Ytcadacljacbipaa
