/- A slot is wiped. -/
import Derived.Test.YtcadacljacbipaaAll3
namespace Go.Proofs.Ytcadacljacbipaa
open Go.RowKit
set_option maxRecDepth 100000 in
set_option maxHeartbeats 4000000 in
theorem do_wipe (w : World) (I : Nat → Prop) (d o : Nat) (cs : Array Value) (nv av : Value) (now : List UInt8) (acts : List DAct) (f : Value)
    (hd : w.heap[d]? = some (.cells cs 71 (0, 0))) (hn : cs[o + 1]? = some nv) (ha : cs[o + 2]? = some av) (hnow : SlI w I nv now) (hacts : ActsAt w I av acts) (hf : ActAt w I f .wipe)
    (hid_ : ¬ I d) (hrow : ∀ k, av.ownBlock = some k → ¬ I k ∧ k ≠ d) (hlt : ∀ k, I k → k < w.heap.size) (_hlen : now.length ≤ 140737488355328) (hal : (acts.length + 1) * 16 ≤ 140737488355328) :
    Calls Try.prog 54 #[.pointer (some ⟨d, o, none⟩), .agg #[f, .int .i64 0]] w fun e w' => e = .returned (.tuple #[]) ∧ ∃ nv' av', DoneAt w w' I d o cs av nv' av' acts .wipe [] := by
  obtain rfl : f = .func (.func 56) #[] #[] := hf
  have hdl := blk_lt hd
  have HD := hid hd
  have HN := hid hnow
  have HA := hid hacts
  have HLT := hid hlt
  have HNV := hid hn
  have HAV := hid ha
  clear hd hnow hacts hn ha
  go_enter Try.func54, Try.ntmps54
  go_upto_region 1 with (fail)
  refine Code.seen (fun W1 => W1.heap[w.heap.size]? = some (.cells #[.func (.func 56) #[] #[], .int .i64 0] 79 (0, 0)) ∧ Below w.heap.size w W1 ∧ W1.heap.size = w.heap.size + 1) ⟨heap_alloc_new _ _, (Below.refl _ _).alloc (Nat.le_refl _) _, by simp⟩ fun w1 H1 => ?_
  have HB1 := hid H1.out.2.1
  have HX1 := hid H1.out.1
  have HS1 := hid H1.out.2.2
  have HD1 := hid (blk_keep HB1.out HD.out hdl)
  have c1 : w1.cell? ⟨d, o + 1, none⟩ = some nv := by rw [blk_cell HD1.out, HNV.out]
  have x0 : w1.cell? ⟨w.heap.size, 0, none⟩ = some (.func (.func 56) #[] #[]) := by rw [blk_cell HX1.out]; rfl
  have x1 : w1.cell? ⟨w.heap.size, 1, none⟩ = some (.int .i64 0) := by rw [blk_cell HX1.out]; rfl
  have f1 : w1.frozen? ⟨d, o + 1, none⟩ = false := blk_frozen HD1.out _
  clear H1
  go_cut [3] (fun s3 wx => s3 = .pointer (some ⟨w.heap.size, 0, none⟩) ∧ ∃ A2 n2 k2, OwnB wx w1.heap.size (.slice A2 n2 k2) [] ∧ wx.heap[d]? = some (.cells (cs.setIfInBounds (o + 1) (.slice A2 n2 k2)) 71 (0, 0)) ∧ Fr (fun k => k = d) w1 wx)
  case first =>
    go_region_law (first
      | (go_simp; go_at_call 56; refine (again_wipe nv 0 _).mono ?_; rintro e w2 ⟨rfl, rfl⟩))
    all_goals
      go_wp2_with fail
      go_meet
      exact ⟨rfl, do_mid HD1.out (drew_below w1) (OwnB.nil _ _)⟩
  case rest =>
    obtain ⟨rfl, A2, n2, k2, hn2, hd2, hfr2⟩ := hcut
    obtain ⟨fs, hfl, hown, hfs⟩ := HA.out
    obtain ⟨Aa, ca, rfl⟩ := own_form hown
    obtain ⟨i0, hi0, hz0, hz1, hz2⟩ := info_parts infoL
    have hbne : ∀ k, (Value.slice Aa acts.length ca).ownBlock = some k → ¬ k = d := fun k hk => (hrow k hk).2
    have OX := hid (own_fr (own_fr hown (Fr.of_below HB1.out) (fun _ _ h => h)) hfr2 hbne)
    have HD2 := hid hd2
    have HN2 := hid hn2
    have HF2 := hid hfr2
    have HOW := hid hown
    have HFS := hid hfs
    have HFL := hid hfl
    have HX2 := hid (blk_fr hfr2 HX1.out (by omega))
    have y0 : wc.cell? ⟨w.heap.size, 0, none⟩ = some (.func (.func 56) #[] #[]) := by rw [blk_cell HX2.out]; rfl
    have y1 : wc.cell? ⟨w.heap.size, 1, none⟩ = some (.int .i64 0) := by rw [blk_cell HX2.out]; rfl
    have a2 : wc.cell? ⟨d, o + 2, none⟩ = some (.slice Aa acts.length ca) := by rw [blk_cell hd2, Array.getElem?_setIfInBounds_ne (by omega), HAV.out]
    have ne2 := World.new_ne wc _ a2
    have hdc := blk_lt HD2.out
    clear hn2 hd2 hfr2 hown hfs hfl c1 x0 x1 f1
    go_wp2
    go_region_law (first
      | (refine step_append_lies _ (by rfl) (.tmp 20) (.tmp 22) 66 (by rfl) 0 79 i0 _ 2 16 Try.underlying66 hi0 hz0 hz1 hz2 rfl (by omega) (.slice Aa acts.length ca) acts.length (actCells fs acts) (by rfl) ((OX.out.alloc _).drew) ⟨wc.heap.size, 0, none⟩ 1 1 [.func (.func 56) #[] #[], .int .i64 0] (by rfl) (by rfl) (World.news_of_block (cs := #[.func (.func 56) #[] #[], .int .i64 0]) (t := 79) (fr := (0, 0)) (heap_alloc_new wc _)) (by simp [Value.oneCell']) (by omega) (by unfold maxLen; omega) hal (Nat.zero_le _) (wc.heap.size + 1) (by simp) ?_; intro g cap w4 hown4 hgrow hat hlt4; have f4 : w4.frozen? ⟨d, o + 2, none⟩ = false := (hgrow.frozen_far ⟨d, o + 2, none⟩ (by simp; omega) (fun e => hbne d e.symm rfl)).trans ((((Below.refl wc.heap.size wc).alloc (Nat.le_refl _) _).drew.frozen (p := ⟨d, o + 2, none⟩) hdc).trans (blk_frozen HD2.out _)); have c4 : w4.cell? ⟨d, o + 2, none⟩ = some (.slice Aa acts.length ca) := (hgrow.cell_far ⟨d, o + 2, none⟩ (by simp; omega) (fun e => hbne d e.symm rfl)).trans ((((Below.refl wc.heap.size wc).alloc (Nat.le_refl _) _).drew.cell (p := ⟨d, o + 2, none⟩) hdc).trans a2)))
    all_goals
      go_wp2
      go_returns
      refine ⟨rfl, _, _, do_end HB1.out HF2.out HD2.out HN2.out HOW.out HFL.out HFS.out rfl hid_ hdl hrow hgrow hown4 hat⟩
end Go.Proofs.Ytcadacljacbipaa
