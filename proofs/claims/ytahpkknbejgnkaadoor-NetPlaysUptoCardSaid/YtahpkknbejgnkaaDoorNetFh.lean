/- One step on networks that are none. -/
import Derived.Test.YtahpkknbejgnkaaDoorNetFg
namespace Go.Proofs.YtahpkknbejgnkaaDoor
open Go.RowKit
theorem Take_nil (i : Int) (w : World) : Calls Tryd.prog 6 #[.pointer none, .int .i64 i] w fun e w' => e = .returned (.tuple #[pkt0, .int .i64 0]) ∧ Below w.heap.size w w' := by
  go_enter Tryd.func6, Tryd.ntmps6
  go_upto_region 1 with (fail)
  refine Code.seen (fun W => W.heap[w.heap.size]? = some (.cells #[.int .i64 0, .int .i64 0, .int .i64 0, .int .i64 0, .slice none 0 0, .bool false] 32 (0, 0)) ∧ Below w.heap.size w W) ⟨heap_alloc_new _ _, (Below.refl _ _).alloc (Nat.le_refl _) _⟩ fun w2 Z1 => ?_
  have hfz : ∀ i, w2.frozen? ⟨w.heap.size, i, none⟩ = false := fun i => blk_frozen Z1.out.1 i
  obtain ⟨x0, x1, x2, x3, x4, x5⟩ := pk_at Z1.out.1
  go_wp2_with fail
  refine (befall_nil w2 0 i 0 0).mono ?_
  rintro e w' ⟨rfl, hw⟩
  replace hw := hw.symm
  subst hw
  go_wp2_with fail
  have e0 := set6 Z1.out.1 (.int .i64 0) (.int .i64 0) (.int .i64 0) (.int .i64 0) (.slice none 0 0) (.bool false)
  have e1 := hid (Z1.out.2.trans ((fr6 w2 w.heap.size (.int .i64 0) (.int .i64 0) (.int .i64 0) (.int .i64 0) (.slice none 0 0) (.bool false)).to_below (fun k hk e => by omega) Z1.out.2.size))
  clear x0 x1 x2 x3 x4 x5 hfz
  generalize ((((((w2.setCell ⟨w.heap.size, 0, none⟩ (.int .i64 0)).setCell ⟨w.heap.size, 1, none⟩ (.int .i64 0)).setCell ⟨w.heap.size, 2, none⟩ (.int .i64 0)).setCell ⟨w.heap.size, 3, none⟩ (.int .i64 0)).setCell ⟨w.heap.size, 4, none⟩ (.slice none 0 0)).setCell ⟨w.heap.size, 5, none⟩ (.bool false)) = w5 at e0 e1 ⊢
  obtain ⟨q0, q1, q2, q3, q4, q5⟩ := pk_at e0
  clear e0
  refine bodyPost_ret (v := .tuple #[.agg #[.int .i64 0, .int .i64 0, .int .i64 0, .int .i64 0, .slice none 0 0, .bool false], .int .i64 0]) ?_ rfl ⟨rfl, e1.out⟩
  simp [results, Tryd.results6, go_sem, *]
set_option maxRecDepth 100000 in
set_option maxHeartbeats 8000000 in
theorem nil_0 (w : World) (o : Nop) (dv : Value) (hv : SlB w dv o.p.data) (hd : o.p.data.length ≤ 1048576) (hk : o.kind = 0) :
    Calls Tryd.prog 16 #[.pointer none, .pointer none, o.val dv] w fun e w' => e = .returned (.bool true) ∧ Below w.heap.size w w' := by
  obtain ⟨Av, cv, rfl⟩ := hv.form
  obtain ⟨kd, net, p, x, n, pat⟩ := o
  simp only at hv hk hd ⊢
  subst hk
  obtain ⟨fk, fi, tk, ti, l, lost⟩ := p
  have HV : Hid (SlB w (.slice Av l.length cv) l) := hid hv
  have HW0 := hid (Fam.start w)
  unfold Nop.val Nop.cells
  simp only at hd ⊢
  clear hv
  go_enter Tryd.func16, Tryd.ntmps16
  go_upto_region 1 with (fail)
  obtain ⟨g, hg⟩ : ∃ g, w.heap.size = g := ⟨_, rfl⟩
  refine Code.seen (fun W => Fam w.heap.size w W ([] ++ [opT g ⟨0, net, ⟨fk, fi, tk, ti, l, lost⟩, x, n, pat⟩ (.slice Av l.length cv)])) ?_ fun w1 H1 => ?_
  · rw [← hg]
    exact HW0.out.new _
  rw [hg]
  clear hg
  have HOP : Hid (∀ W M L, Fam w.heap.size w W (M ++ L) → L[0]? = some (opT g ⟨0, net, ⟨fk, fi, tk, ti, l, lost⟩, x, n, pat⟩ (.slice Av l.length cv)) → (W.cell? ⟨g, 0, none⟩ = some (.int .i64 (0)) ∧ W.cell? ⟨g, 8, none⟩ = some (.int .i64 x) ∧ W.cell? ⟨g, 9, none⟩ = some (.int .i64 n) ∧ W.cell? ⟨g, 10, none⟩ = some (W32 pat)) ∧ (W.cell? ⟨g, 2, none⟩ = some (.int .i64 fk) ∧ W.cell? ⟨g, 3, none⟩ = some (.int .i64 fi) ∧ W.cell? ⟨g, 4, none⟩ = some (.int .i64 tk) ∧ W.cell? ⟨g, 5, none⟩ = some (.int .i64 ti) ∧ W.cell? ⟨g, 6, none⟩ = some (.slice Av l.length cv) ∧ W.cell? ⟨g, 7, none⟩ = some (.bool lost))) := by
    refine hid fun W M L hF hL => ?_
    obtain ⟨c0, c1, c2, c3, c4, c5, c6, c7, c8, c9, c10⟩ := nop_at (hF.blkL 0 hL)
    exact ⟨⟨c0, c8, c9, c10⟩, c2, c3, c4, c5, c6, c7⟩
  obtain ⟨⟨c0, -, -, -⟩, c2, c3, c4, c5, c6, c7⟩ := HOP.out w1 _ _ H1.out rfl
  go_wp2_with fail
  refine (rSend_nil w1 ⟨fk, fi, tk, ti, l, lost⟩ (.slice Av l.length cv)).mono ?_
  rintro e w2 ⟨rfl, hb2⟩
  have H2 := hid (H1.out.below hb2)
  clear hb2 c0 c2 c3 c4 c5 c6 c7
  obtain ⟨⟨c0, -, -, -⟩, c2, c3, c4, c5, c6, c7⟩ := HOP.out w2 _ _ H2.out rfl
  go_upto_region 5 with (fail)
  obtain ⟨g8, hg8⟩ : ∃ g8, w2.heap.size = g8 := ⟨_, rfl⟩
  refine Code.seen (fun W => Fam w.heap.size w W ([] ++ [opT g ⟨0, net, ⟨fk, fi, tk, ti, l, lost⟩, x, n, pat⟩ (.slice Av l.length cv), pkT g8 ⟨fk, fi, tk, ti, l, lost⟩ (.slice Av l.length cv)])) ?_ fun w3 H3 => ?_
  · have := H2.out.newL (.cells #[.int .i64 fk, .int .i64 fi, .int .i64 tk, .int .i64 ti, .slice Av l.length cv, .bool lost] 32 (0, 0))
    rw [hg8] at this
    exact this
  rw [hg8]
  clear hg8 c0 c2 c3 c4 c5 c6 c7
  obtain ⟨⟨c0, -, -, -⟩, c2, c3, c4, c5, c6, c7⟩ := HOP.out w3 _ _ H3.out rfl
  go_wp2_with fail
  refine (roomy_any (.slice Av l.length cv) l w3 (HV.out.below H3.out.base) (by omega)).mono ?_
  rintro e w4 ⟨gr, cr, rfl, ho4, hcr, hb4⟩
  have h4 := H3.out.rowL hb4 ho4
  have hbk := h4.blkL 1 rfl
  have x4 : w4.cell? ⟨g8, 4, none⟩ = some (.slice Av l.length cv) := by rw [blk_cell hbk]; rfl
  have f4 : w4.frozen? ⟨g8, 4, none⟩ = false := blk_frozen hbk _
  have h5 := h4.storeL 1 rfl 4 (.slice (some ⟨gr, 0, none⟩) l.length cr)
  have H5 : Hid (Fam w.heap.size w (w4.setCell ⟨g8, 4, none⟩ (.slice (some ⟨gr, 0, none⟩) l.length cr)) ([] ++ [opT g ⟨0, net, ⟨fk, fi, tk, ti, l, lost⟩, x, n, pat⟩ (.slice Av l.length cv), pkT g8 ⟨fk, fi, tk, ti, l, lost⟩ (.slice (some ⟨gr, 0, none⟩) l.length cr), rowT (.slice (some ⟨gr, 0, none⟩) (l.length + 1) cr) (l ++ [90])])) := hid h5
  clear h4 hbk h5 ho4 hb4 c0 c2 c3 c4 c5 c6 c7
  go_upto_region 6 with (fail)
  clear x4 f4
  generalize w4.setCell ⟨g8, 4, none⟩ (.slice (some ⟨gr, 0, none⟩) l.length cr) = w5 at *
  obtain ⟨p0, p1, p2, p3, p4, p5⟩ := pk_at (H5.out.blkL 1 rfl)
  go_wp2_with fail
  refine (Send_nil w5 ⟨fk, fi, tk, ti, l, lost⟩ (.slice (some ⟨gr, 0, none⟩) l.length cr)).mono ?_
  rintro e w6 ⟨rfl, hb6⟩
  have H6 := hid (H5.out.below hb6)
  clear hb6 p0 p1 p2 p3 p4 p5
  obtain ⟨⟨c0, -, -, -⟩, c2, c3, c4, c5, c6, c7⟩ := HOP.out w6 _ _ H6.out rfl
  obtain ⟨p0, p1, p2, p3, p4, p5⟩ := pk_at (H6.out.blkL 1 rfl)
  go_wp2_with fail
  refine (untouched_any gr cr 0 (.slice Av l.length cv) l w6 (H6.out.rowAtL 2 rfl) hcr (HV.out.below H6.out.base) (by omega)).mono ?_
  rintro e w' ⟨rfl, hw⟩
  replace hw := hw.symm
  subst hw
  go_wp2
  clear c0 c2 c3 c4 c5 c6 c7 p0 p1 p2 p3 p4 p5
  go_loopw [43] (fun y wr => ∃ (k : Nat) (l' : List UInt8), k ≤ l.length ∧ y = .int .i64 k ∧ l'.length = l.length + 1 ∧ Fam w.heap.size w wr ([] ++ [opT g ⟨0, net, ⟨fk, fi, tk, ti, l, lost⟩, x, n, pat⟩ (.slice Av l.length cv), pkT g8 ⟨fk, fi, tk, ti, l, lost⟩ (.slice (some ⟨gr, 0, none⟩) l.length cr), rowT (.slice (some ⟨gr, 0, none⟩) (l.length + 1) cr) l'])) (fun y _ => l.length - (intOf y).toNat)
  case atStart => exact ⟨0, l ++ [90], Nat.zero_le _, rfl, by simp, H6.out⟩
  case round =>
    obtain ⟨k, l', hk, rfl, hl', hF⟩ := hrel
    have HFm := hid hF
    have HL' := hid hl'
    clear hF
    by_cases hlt : k < l.length
    · obtain ⟨p0, p1, p2, p3, p4, p5⟩ := pk_at (HFm.out.blkL 1 rfl)
      have hrow := HFm.out.rowAtL 2 rfl
      obtain ⟨hc, hfr⟩ := hrow.at_ k (by omega)
      have i1 : (k : Int) < (l.length : Int) := by omega
      generalize l'.getD k 0 = b0 at *
      clear hrow hl'
      go_wp2
      go_roundw
      case rel => exact ⟨k + 1, l'.set k 238, by omega, by go_num, by rw [List.length_set]; exact HL'.out, HFm.out.rowSetL 2 rfl k 238⟩
      case measure => simp [intOf]; omega
    · have hge : l.length ≤ k := by omega
      clear hl'
      go_wp2
      go_ret
      exact ⟨by simp, HFm.out.base⟩
set_option maxRecDepth 100000 in
set_option maxHeartbeats 8000000 in
theorem nil_1 (w : World) (o : Nop) (dv : Value) (hv : SlB w dv o.p.data) (hd : o.p.data.length ≤ 1048576) (hk : o.kind = 1) :
    Calls Tryd.prog 16 #[.pointer none, .pointer none, o.val dv] w fun e w' => e = .returned (.bool true) ∧ Below w.heap.size w w' := by
  obtain ⟨Av, cv, rfl⟩ := hv.form
  obtain ⟨kd, net, p, x, n, pat⟩ := o
  simp only at hv hk hd ⊢
  subst hk
  obtain ⟨fk, fi, tk, ti, l, lost⟩ := p
  have HV : Hid (SlB w (.slice Av l.length cv) l) := hid hv
  have HW0 := hid (Fam.start w)
  unfold Nop.val Nop.cells
  simp only at hd ⊢
  clear hv
  go_enter Tryd.func16, Tryd.ntmps16
  go_upto_region 1 with (fail)
  obtain ⟨g, hg⟩ : ∃ g, w.heap.size = g := ⟨_, rfl⟩
  refine Code.seen (fun W => Fam w.heap.size w W ([] ++ [opT g ⟨1, net, ⟨fk, fi, tk, ti, l, lost⟩, x, n, pat⟩ (.slice Av l.length cv)])) ?_ fun w1 H1 => ?_
  · rw [← hg]
    exact HW0.out.new _
  rw [hg]
  clear hg
  have HOP : Hid (∀ W M L, Fam w.heap.size w W (M ++ L) → L[0]? = some (opT g ⟨1, net, ⟨fk, fi, tk, ti, l, lost⟩, x, n, pat⟩ (.slice Av l.length cv)) → (W.cell? ⟨g, 0, none⟩ = some (.int .i64 (1)) ∧ W.cell? ⟨g, 8, none⟩ = some (.int .i64 x) ∧ W.cell? ⟨g, 9, none⟩ = some (.int .i64 n) ∧ W.cell? ⟨g, 10, none⟩ = some (W32 pat)) ∧ (W.cell? ⟨g, 2, none⟩ = some (.int .i64 fk) ∧ W.cell? ⟨g, 3, none⟩ = some (.int .i64 fi) ∧ W.cell? ⟨g, 4, none⟩ = some (.int .i64 tk) ∧ W.cell? ⟨g, 5, none⟩ = some (.int .i64 ti) ∧ W.cell? ⟨g, 6, none⟩ = some (.slice Av l.length cv) ∧ W.cell? ⟨g, 7, none⟩ = some (.bool lost))) := by
    refine hid fun W M L hF hL => ?_
    obtain ⟨c0, c1, c2, c3, c4, c5, c6, c7, c8, c9, c10⟩ := nop_at (hF.blkL 0 hL)
    exact ⟨⟨c0, c8, c9, c10⟩, c2, c3, c4, c5, c6, c7⟩
  obtain ⟨⟨c0, c8, c9, c10⟩, -⟩ := HOP.out w1 _ _ H1.out rfl
  go_wp2_with fail
  refine (rTake_nil x w1).mono ?_
  rintro e w2 ⟨rfl, hb2⟩
  have H2 := hid (H1.out.below hb2)
  unfold pkt0
  clear hb2 c0 c8 c9 c10
  go_upto_region 16 with (fail)
  obtain ⟨g8, hg8⟩ : ∃ g8, w2.heap.size = g8 := ⟨_, rfl⟩
  refine Code.seen (fun W => Fam w.heap.size w W ([] ++ [opT g ⟨1, net, ⟨fk, fi, tk, ti, l, lost⟩, x, n, pat⟩ (.slice Av l.length cv), pkT g8 pk0 (.slice none 0 0)])) ?_ fun w3 H3 => ?_
  · have := H2.out.newL (.cells #[.int .i64 0, .int .i64 0, .int .i64 0, .int .i64 0, .slice none 0 0, .bool false] 32 (0, 0))
    rw [hg8] at this
    exact this
  rw [hg8]
  clear hg8
  obtain ⟨⟨c0, c8, c9, c10⟩, -⟩ := HOP.out w3 _ _ H3.out rfl
  go_wp2_with fail
  refine (Take_nil x w3).mono ?_
  rintro e w4 ⟨rfl, hb4⟩
  have H4 := hid (H3.out.below hb4)
  unfold pkt0
  clear hb4 c0 c8 c9 c10
  go_upto_region 17 with (fail)
  obtain ⟨g9, hg9⟩ : ∃ g9, w4.heap.size = g9 := ⟨_, rfl⟩
  refine Code.seen (fun W => Fam w.heap.size w W ([] ++ [opT g ⟨1, net, ⟨fk, fi, tk, ti, l, lost⟩, x, n, pat⟩ (.slice Av l.length cv), pkT g8 pk0 (.slice none 0 0), pkT g9 pk0 (.slice none 0 0)])) ?_ fun w5 H5 => ?_
  · have := H4.out.newL (.cells #[.int .i64 0, .int .i64 0, .int .i64 0, .int .i64 0, .slice none 0 0, .bool false] 32 (0, 0))
    rw [hg9] at this
    exact this
  rw [hg9]
  clear hg9
  obtain ⟨p0, p1, p2, p3, p4, p5⟩ := pk_at (H5.out.blkL 1 rfl)
  obtain ⟨r0, r1, r2, r3, r4, r5⟩ := pk_at (H5.out.blkL 2 rfl)
  simp only [pk0] at p0 p1 p2 p3 p5 r0 r1 r2 r3 r5
  go_wp2_with fail
  refine (samePacket_at 0 0 0 0 [] false (.slice none 0 0) (.slice none 0 0) w5 (Sl.nil _ _) (Sl.nil _ _)).mono ?_
  rintro e w6 ⟨rfl, hb6⟩
  have H6 := hid (H5.out.below hb6)
  clear hb6 p0 p1 p2 p3 p4 p5 r0 r1 r2 r3 r4 r5
  go_wp2
  go_ret
  exact ⟨by simp, H6.out.base⟩
set_option maxRecDepth 100000 in
set_option maxHeartbeats 8000000 in
theorem nil_2 (w : World) (o : Nop) (dv : Value) (hv : SlB w dv o.p.data) (hd : o.p.data.length ≤ 1048576) (hk : o.kind = 2) :
    Calls Tryd.prog 16 #[.pointer none, .pointer none, o.val dv] w fun e w' => e = .returned (.bool true) ∧ Below w.heap.size w w' := by
  obtain ⟨Av, cv, rfl⟩ := hv.form
  obtain ⟨kd, net, p, x, n, pat⟩ := o
  simp only at hv hk hd ⊢
  subst hk
  obtain ⟨fk, fi, tk, ti, l, lost⟩ := p
  have HV : Hid (SlB w (.slice Av l.length cv) l) := hid hv
  have HW0 := hid (Fam.start w)
  unfold Nop.val Nop.cells
  simp only at hd ⊢
  clear hv
  go_enter Tryd.func16, Tryd.ntmps16
  go_upto_region 1 with (fail)
  obtain ⟨g, hg⟩ : ∃ g, w.heap.size = g := ⟨_, rfl⟩
  refine Code.seen (fun W => Fam w.heap.size w W ([] ++ [opT g ⟨2, net, ⟨fk, fi, tk, ti, l, lost⟩, x, n, pat⟩ (.slice Av l.length cv)])) ?_ fun w1 H1 => ?_
  · rw [← hg]
    exact HW0.out.new _
  rw [hg]
  clear hg
  have HOP : Hid (∀ W M L, Fam w.heap.size w W (M ++ L) → L[0]? = some (opT g ⟨2, net, ⟨fk, fi, tk, ti, l, lost⟩, x, n, pat⟩ (.slice Av l.length cv)) → (W.cell? ⟨g, 0, none⟩ = some (.int .i64 (2)) ∧ W.cell? ⟨g, 8, none⟩ = some (.int .i64 x) ∧ W.cell? ⟨g, 9, none⟩ = some (.int .i64 n) ∧ W.cell? ⟨g, 10, none⟩ = some (W32 pat)) ∧ (W.cell? ⟨g, 2, none⟩ = some (.int .i64 fk) ∧ W.cell? ⟨g, 3, none⟩ = some (.int .i64 fi) ∧ W.cell? ⟨g, 4, none⟩ = some (.int .i64 tk) ∧ W.cell? ⟨g, 5, none⟩ = some (.int .i64 ti) ∧ W.cell? ⟨g, 6, none⟩ = some (.slice Av l.length cv) ∧ W.cell? ⟨g, 7, none⟩ = some (.bool lost))) := by
    refine hid fun W M L hF hL => ?_
    obtain ⟨c0, c1, c2, c3, c4, c5, c6, c7, c8, c9, c10⟩ := nop_at (hF.blkL 0 hL)
    exact ⟨⟨c0, c8, c9, c10⟩, c2, c3, c4, c5, c6, c7⟩
  have H1d := hid (H1.out.below (drew_below w1))
  have K1 := hid (HOP.out w1 _ _ H1.out rfl).1.2
  have K1d := hid (HOP.out w1.drew _ _ H1d.out rfl).1.2
  obtain ⟨⟨c0, c8, c9, c10⟩, -⟩ := HOP.out w1 _ _ H1.out rfl
  go_upto_region 19 with (fail)
  go_region_held3 (fun W => W.cell? ⟨g, 8, none⟩ = some (.int .i64 x) ∧ W.cell? ⟨g, 9, none⟩ = some (.int .i64 n) ∧ W.cell? ⟨g, 10, none⟩ = some (W32 pat))
    (first | with_reducible assumption | with_reducible exact K1.out | with_reducible exact K1d.out | with_reducible exact K2.out | with_reducible exact K3.out)
    (first
      | (go_at_call 29; (with_reducible refine Calls.mono (rDrop_nil x w1.drew) ?_); rintro e w2 ⟨rfl, hb2⟩; have H2 := hid (H1d.out.below hb2); have K2 := hid (HOP.out w2 _ _ H2.out rfl).1.2; clear hb2)
      | (go_at_call 9; (with_reducible refine Calls.mono (Drop_nil x w2) ?_); rintro e w3 ⟨rfl, hw3⟩; have H3 := hid (H2.out.below (hw3 ▸ Below.refl _ _ : Below w2.heap.size w2 w3)); have K3 := hid (HOP.out w3 _ _ H3.out rfl).1.2; clear hw3))
  all_goals
    go_wp2
    go_ret
    exact ⟨by simp, H3.out.base⟩
set_option maxRecDepth 100000 in
set_option maxHeartbeats 8000000 in
theorem nil_3 (w : World) (o : Nop) (dv : Value) (hv : SlB w dv o.p.data) (hd : o.p.data.length ≤ 1048576) (hk : o.kind = 3) :
    Calls Tryd.prog 16 #[.pointer none, .pointer none, o.val dv] w fun e w' => e = .returned (.bool true) ∧ Below w.heap.size w w' := by
  obtain ⟨Av, cv, rfl⟩ := hv.form
  obtain ⟨kd, net, p, x, n, pat⟩ := o
  simp only at hv hk hd ⊢
  subst hk
  obtain ⟨fk, fi, tk, ti, l, lost⟩ := p
  have HV : Hid (SlB w (.slice Av l.length cv) l) := hid hv
  have HW0 := hid (Fam.start w)
  unfold Nop.val Nop.cells
  simp only at hd ⊢
  clear hv
  go_enter Tryd.func16, Tryd.ntmps16
  go_upto_region 1 with (fail)
  obtain ⟨g, hg⟩ : ∃ g, w.heap.size = g := ⟨_, rfl⟩
  refine Code.seen (fun W => Fam w.heap.size w W ([] ++ [opT g ⟨3, net, ⟨fk, fi, tk, ti, l, lost⟩, x, n, pat⟩ (.slice Av l.length cv)])) ?_ fun w1 H1 => ?_
  · rw [← hg]
    exact HW0.out.new _
  rw [hg]
  clear hg
  have HOP : Hid (∀ W M L, Fam w.heap.size w W (M ++ L) → L[0]? = some (opT g ⟨3, net, ⟨fk, fi, tk, ti, l, lost⟩, x, n, pat⟩ (.slice Av l.length cv)) → (W.cell? ⟨g, 0, none⟩ = some (.int .i64 (3)) ∧ W.cell? ⟨g, 8, none⟩ = some (.int .i64 x) ∧ W.cell? ⟨g, 9, none⟩ = some (.int .i64 n) ∧ W.cell? ⟨g, 10, none⟩ = some (W32 pat)) ∧ (W.cell? ⟨g, 2, none⟩ = some (.int .i64 fk) ∧ W.cell? ⟨g, 3, none⟩ = some (.int .i64 fi) ∧ W.cell? ⟨g, 4, none⟩ = some (.int .i64 tk) ∧ W.cell? ⟨g, 5, none⟩ = some (.int .i64 ti) ∧ W.cell? ⟨g, 6, none⟩ = some (.slice Av l.length cv) ∧ W.cell? ⟨g, 7, none⟩ = some (.bool lost))) := by
    refine hid fun W M L hF hL => ?_
    obtain ⟨c0, c1, c2, c3, c4, c5, c6, c7, c8, c9, c10⟩ := nop_at (hF.blkL 0 hL)
    exact ⟨⟨c0, c8, c9, c10⟩, c2, c3, c4, c5, c6, c7⟩
  have H1d := hid (H1.out.below (drew_below w1))
  have K1 := hid (HOP.out w1 _ _ H1.out rfl).1.2
  have K1d := hid (HOP.out w1.drew _ _ H1d.out rfl).1.2
  obtain ⟨⟨c0, c8, c9, c10⟩, -⟩ := HOP.out w1 _ _ H1.out rfl
  go_upto_region 21 with (fail)
  go_region_held3 (fun W => W.cell? ⟨g, 8, none⟩ = some (.int .i64 x) ∧ W.cell? ⟨g, 9, none⟩ = some (.int .i64 n) ∧ W.cell? ⟨g, 10, none⟩ = some (W32 pat))
    (first | with_reducible assumption | with_reducible exact K1.out | with_reducible exact K1d.out | with_reducible exact K2.out | with_reducible exact K3.out)
    (first
      | (go_at_call 30; (with_reducible refine Calls.mono (rDouble_nil x w1.drew) ?_); rintro e w2 ⟨rfl, hw2⟩; have H2 := hid (H1d.out.below (hw2 ▸ Below.refl _ _ : Below w1.drew.heap.size w1.drew w2)); have K2 := hid (HOP.out w2 _ _ H2.out rfl).1.2; clear hw2)
      | (go_at_call 8; (with_reducible refine Calls.mono (Double_nil x w2) ?_); rintro e w3 ⟨rfl, hw3⟩; have H3 := hid (H2.out.below (hw3 ▸ Below.refl _ _ : Below w2.heap.size w2 w3)); have K3 := hid (HOP.out w3 _ _ H3.out rfl).1.2; clear hw3))
  all_goals
    go_wp2
    go_ret
    exact ⟨by simp, H3.out.base⟩
set_option maxRecDepth 100000 in
set_option maxHeartbeats 8000000 in
theorem nil_4 (w : World) (o : Nop) (dv : Value) (hv : SlB w dv o.p.data) (hd : o.p.data.length ≤ 1048576) (hk : o.kind = 4) :
    Calls Tryd.prog 16 #[.pointer none, .pointer none, o.val dv] w fun e w' => e = .returned (.bool true) ∧ Below w.heap.size w w' := by
  obtain ⟨Av, cv, rfl⟩ := hv.form
  obtain ⟨kd, net, p, x, n, pat⟩ := o
  simp only at hv hk hd ⊢
  subst hk
  obtain ⟨fk, fi, tk, ti, l, lost⟩ := p
  have HV : Hid (SlB w (.slice Av l.length cv) l) := hid hv
  have HW0 := hid (Fam.start w)
  unfold Nop.val Nop.cells
  simp only at hd ⊢
  clear hv
  go_enter Tryd.func16, Tryd.ntmps16
  go_upto_region 1 with (fail)
  obtain ⟨g, hg⟩ : ∃ g, w.heap.size = g := ⟨_, rfl⟩
  refine Code.seen (fun W => Fam w.heap.size w W ([] ++ [opT g ⟨4, net, ⟨fk, fi, tk, ti, l, lost⟩, x, n, pat⟩ (.slice Av l.length cv)])) ?_ fun w1 H1 => ?_
  · rw [← hg]
    exact HW0.out.new _
  rw [hg]
  clear hg
  have HOP : Hid (∀ W M L, Fam w.heap.size w W (M ++ L) → L[0]? = some (opT g ⟨4, net, ⟨fk, fi, tk, ti, l, lost⟩, x, n, pat⟩ (.slice Av l.length cv)) → (W.cell? ⟨g, 0, none⟩ = some (.int .i64 (4)) ∧ W.cell? ⟨g, 8, none⟩ = some (.int .i64 x) ∧ W.cell? ⟨g, 9, none⟩ = some (.int .i64 n) ∧ W.cell? ⟨g, 10, none⟩ = some (W32 pat)) ∧ (W.cell? ⟨g, 2, none⟩ = some (.int .i64 fk) ∧ W.cell? ⟨g, 3, none⟩ = some (.int .i64 fi) ∧ W.cell? ⟨g, 4, none⟩ = some (.int .i64 tk) ∧ W.cell? ⟨g, 5, none⟩ = some (.int .i64 ti) ∧ W.cell? ⟨g, 6, none⟩ = some (.slice Av l.length cv) ∧ W.cell? ⟨g, 7, none⟩ = some (.bool lost))) := by
    refine hid fun W M L hF hL => ?_
    obtain ⟨c0, c1, c2, c3, c4, c5, c6, c7, c8, c9, c10⟩ := nop_at (hF.blkL 0 hL)
    exact ⟨⟨c0, c8, c9, c10⟩, c2, c3, c4, c5, c6, c7⟩
  have H1d := hid (H1.out.below (drew_below w1))
  have K1 := hid (HOP.out w1 _ _ H1.out rfl).1.2
  have K1d := hid (HOP.out w1.drew _ _ H1d.out rfl).1.2
  obtain ⟨⟨c0, c8, c9, c10⟩, -⟩ := HOP.out w1 _ _ H1.out rfl
  go_upto_region 23 with (fail)
  go_region_held3 (fun W => W.cell? ⟨g, 8, none⟩ = some (.int .i64 x) ∧ W.cell? ⟨g, 9, none⟩ = some (.int .i64 n) ∧ W.cell? ⟨g, 10, none⟩ = some (W32 pat))
    (first | with_reducible assumption | with_reducible exact K1.out | with_reducible exact K1d.out | with_reducible exact K2.out | with_reducible exact K3.out)
    (first
      | (go_at_call 31; (with_reducible refine Calls.mono (rBurst_nil x n pat w1.drew) ?_); rintro e w2 ⟨rfl, hw2⟩; have H2 := hid (H1d.out.below (hw2 ▸ Below.refl _ _ : Below w1.drew.heap.size w1.drew w2)); have K2 := hid (HOP.out w2 _ _ H2.out rfl).1.2; clear hw2)
      | (go_at_call 32; (with_reducible refine Calls.mono (Burst_nil x n pat w2) ?_); rintro e w3 ⟨rfl, hw3⟩; have H3 := hid (H2.out.below (hw3 ▸ Below.refl _ _ : Below w2.heap.size w2 w3)); have K3 := hid (HOP.out w3 _ _ H3.out rfl).1.2; clear hw3))
  all_goals
    go_wp2
    go_ret
    exact ⟨by simp, H3.out.base⟩
set_option maxRecDepth 100000 in
set_option maxHeartbeats 8000000 in
theorem nil_5 (w : World) (o : Nop) (dv : Value) (hv : SlB w dv o.p.data) (hd : o.p.data.length ≤ 1048576) (hk : o.kind = 5) :
    Calls Tryd.prog 16 #[.pointer none, .pointer none, o.val dv] w fun e w' => e = .returned (.bool true) ∧ Below w.heap.size w w' := by
  obtain ⟨Av, cv, rfl⟩ := hv.form
  obtain ⟨kd, net, p, x, n, pat⟩ := o
  simp only at hv hk hd ⊢
  subst hk
  obtain ⟨fk, fi, tk, ti, l, lost⟩ := p
  have HV : Hid (SlB w (.slice Av l.length cv) l) := hid hv
  have HW0 := hid (Fam.start w)
  unfold Nop.val Nop.cells
  simp only at hd ⊢
  clear hv
  go_enter Tryd.func16, Tryd.ntmps16
  go_upto_region 1 with (fail)
  obtain ⟨g, hg⟩ : ∃ g, w.heap.size = g := ⟨_, rfl⟩
  refine Code.seen (fun W => Fam w.heap.size w W ([] ++ [opT g ⟨5, net, ⟨fk, fi, tk, ti, l, lost⟩, x, n, pat⟩ (.slice Av l.length cv)])) ?_ fun w1 H1 => ?_
  · rw [← hg]
    exact HW0.out.new _
  rw [hg]
  clear hg
  have HOP : Hid (∀ W M L, Fam w.heap.size w W (M ++ L) → L[0]? = some (opT g ⟨5, net, ⟨fk, fi, tk, ti, l, lost⟩, x, n, pat⟩ (.slice Av l.length cv)) → (W.cell? ⟨g, 0, none⟩ = some (.int .i64 (5)) ∧ W.cell? ⟨g, 8, none⟩ = some (.int .i64 x) ∧ W.cell? ⟨g, 9, none⟩ = some (.int .i64 n) ∧ W.cell? ⟨g, 10, none⟩ = some (W32 pat)) ∧ (W.cell? ⟨g, 2, none⟩ = some (.int .i64 fk) ∧ W.cell? ⟨g, 3, none⟩ = some (.int .i64 fi) ∧ W.cell? ⟨g, 4, none⟩ = some (.int .i64 tk) ∧ W.cell? ⟨g, 5, none⟩ = some (.int .i64 ti) ∧ W.cell? ⟨g, 6, none⟩ = some (.slice Av l.length cv) ∧ W.cell? ⟨g, 7, none⟩ = some (.bool lost))) := by
    refine hid fun W M L hF hL => ?_
    obtain ⟨c0, c1, c2, c3, c4, c5, c6, c7, c8, c9, c10⟩ := nop_at (hF.blkL 0 hL)
    exact ⟨⟨c0, c8, c9, c10⟩, c2, c3, c4, c5, c6, c7⟩
  have H1d := hid (H1.out.below (drew_below w1))
  have K1 := hid (HOP.out w1 _ _ H1.out rfl).1.2
  have K1d := hid (HOP.out w1.drew _ _ H1d.out rfl).1.2
  obtain ⟨⟨c0, c8, c9, c10⟩, -⟩ := HOP.out w1 _ _ H1.out rfl
  go_upto_region 25 with (fail)
  go_region_held3 (fun W => W.cell? ⟨g, 8, none⟩ = some (.int .i64 x) ∧ W.cell? ⟨g, 9, none⟩ = some (.int .i64 n) ∧ W.cell? ⟨g, 10, none⟩ = some (W32 pat))
    (first | with_reducible assumption | with_reducible exact K1.out | with_reducible exact K1d.out | with_reducible exact K2.out | with_reducible exact K3.out)
    (first
      | (go_at_call 33; (with_reducible refine Calls.mono (rCut_nil x n w1.drew) ?_); rintro e w2 ⟨rfl, hw2⟩; have H2 := hid (H1d.out.below (hw2 ▸ Below.refl _ _ : Below w1.drew.heap.size w1.drew w2)); have K2 := hid (HOP.out w2 _ _ H2.out rfl).1.2; clear hw2)
      | (go_at_call 34; (with_reducible refine Calls.mono (Cut_nil x n w2) ?_); rintro e w3 ⟨rfl, hw3⟩; have H3 := hid (H2.out.below (hw3 ▸ Below.refl _ _ : Below w2.heap.size w2 w3)); have K3 := hid (HOP.out w3 _ _ H3.out rfl).1.2; clear hw3))
  all_goals
    go_wp2
    go_ret
    exact ⟨by simp, H3.out.base⟩
set_option maxRecDepth 100000 in
set_option maxHeartbeats 8000000 in
theorem nil_6 (w : World) (o : Nop) (dv : Value) (hv : SlB w dv o.p.data) (hd : o.p.data.length ≤ 1048576) (hk : o.kind = 6) :
    Calls Tryd.prog 16 #[.pointer none, .pointer none, o.val dv] w fun e w' => e = .returned (.bool true) ∧ Below w.heap.size w w' := by
  obtain ⟨Av, cv, rfl⟩ := hv.form
  obtain ⟨kd, net, p, x, n, pat⟩ := o
  simp only at hv hk hd ⊢
  subst hk
  obtain ⟨fk, fi, tk, ti, l, lost⟩ := p
  have HV : Hid (SlB w (.slice Av l.length cv) l) := hid hv
  have HW0 := hid (Fam.start w)
  unfold Nop.val Nop.cells
  simp only at hd ⊢
  clear hv
  go_enter Tryd.func16, Tryd.ntmps16
  go_upto_region 1 with (fail)
  obtain ⟨g, hg⟩ : ∃ g, w.heap.size = g := ⟨_, rfl⟩
  refine Code.seen (fun W => Fam w.heap.size w W ([] ++ [opT g ⟨6, net, ⟨fk, fi, tk, ti, l, lost⟩, x, n, pat⟩ (.slice Av l.length cv)])) ?_ fun w1 H1 => ?_
  · rw [← hg]
    exact HW0.out.new _
  rw [hg]
  clear hg
  have HOP : Hid (∀ W M L, Fam w.heap.size w W (M ++ L) → L[0]? = some (opT g ⟨6, net, ⟨fk, fi, tk, ti, l, lost⟩, x, n, pat⟩ (.slice Av l.length cv)) → (W.cell? ⟨g, 0, none⟩ = some (.int .i64 (6)) ∧ W.cell? ⟨g, 8, none⟩ = some (.int .i64 x) ∧ W.cell? ⟨g, 9, none⟩ = some (.int .i64 n) ∧ W.cell? ⟨g, 10, none⟩ = some (W32 pat)) ∧ (W.cell? ⟨g, 2, none⟩ = some (.int .i64 fk) ∧ W.cell? ⟨g, 3, none⟩ = some (.int .i64 fi) ∧ W.cell? ⟨g, 4, none⟩ = some (.int .i64 tk) ∧ W.cell? ⟨g, 5, none⟩ = some (.int .i64 ti) ∧ W.cell? ⟨g, 6, none⟩ = some (.slice Av l.length cv) ∧ W.cell? ⟨g, 7, none⟩ = some (.bool lost))) := by
    refine hid fun W M L hF hL => ?_
    obtain ⟨c0, c1, c2, c3, c4, c5, c6, c7, c8, c9, c10⟩ := nop_at (hF.blkL 0 hL)
    exact ⟨⟨c0, c8, c9, c10⟩, c2, c3, c4, c5, c6, c7⟩
  have H1d := hid (H1.out.below (drew_below w1))
  have K1 := hid (HOP.out w1 _ _ H1.out rfl).1.2
  have K1d := hid (HOP.out w1.drew _ _ H1d.out rfl).1.2
  obtain ⟨⟨c0, c8, c9, c10⟩, -⟩ := HOP.out w1 _ _ H1.out rfl
  go_upto_region 27 with (fail)
  go_region_held3 (fun W => W.cell? ⟨g, 8, none⟩ = some (.int .i64 x) ∧ W.cell? ⟨g, 9, none⟩ = some (.int .i64 n) ∧ W.cell? ⟨g, 10, none⟩ = some (W32 pat))
    (first | with_reducible assumption | with_reducible exact K1.out | with_reducible exact K1d.out | with_reducible exact K2.out | with_reducible exact K3.out)
    (first
      | (go_at_call 35; (with_reducible refine Calls.mono (rLose_nil x w1.drew) ?_); rintro e w2 ⟨rfl, hw2⟩; have H2 := hid (H1d.out.below (hw2 ▸ Below.refl _ _ : Below w1.drew.heap.size w1.drew w2)); have K2 := hid (HOP.out w2 _ _ H2.out rfl).1.2; clear hw2)
      | (go_at_call 36; (with_reducible refine Calls.mono (Lose_nil x w2) ?_); rintro e w3 ⟨rfl, hw3⟩; have H3 := hid (H2.out.below (hw3 ▸ Below.refl _ _ : Below w2.heap.size w2 w3)); have K3 := hid (HOP.out w3 _ _ H3.out rfl).1.2; clear hw3))
  all_goals
    go_wp2
    go_ret
    exact ⟨by simp, H3.out.base⟩
set_option maxRecDepth 100000 in
set_option maxHeartbeats 8000000 in
theorem nil_7 (w : World) (o : Nop) (dv : Value) (hv : SlB w dv o.p.data) (hd : o.p.data.length ≤ 1048576) (hk : (o.kind == 0) = false ∧ (o.kind == 1) = false ∧ (o.kind == 2) = false ∧ (o.kind == 3) = false ∧ (o.kind == 4) = false ∧ (o.kind == 5) = false ∧ (o.kind == 6) = false) :
    Calls Tryd.prog 16 #[.pointer none, .pointer none, o.val dv] w fun e w' => e = .returned (.bool true) ∧ Below w.heap.size w w' := by
  obtain ⟨Av, cv, rfl⟩ := hv.form
  obtain ⟨kd, net, p, x, n, pat⟩ := o
  simp only at hv hk hd ⊢
  obtain ⟨k0, k1, k2, k3, k4, k5, k6⟩ := hk
  obtain ⟨fk, fi, tk, ti, l, lost⟩ := p
  have HV : Hid (SlB w (.slice Av l.length cv) l) := hid hv
  have HW0 := hid (Fam.start w)
  unfold Nop.val Nop.cells
  simp only at hd ⊢
  clear hv
  go_enter Tryd.func16, Tryd.ntmps16
  go_upto_region 1 with (fail)
  obtain ⟨g, hg⟩ : ∃ g, w.heap.size = g := ⟨_, rfl⟩
  refine Code.seen (fun W => Fam w.heap.size w W ([] ++ [opT g ⟨kd, net, ⟨fk, fi, tk, ti, l, lost⟩, x, n, pat⟩ (.slice Av l.length cv)])) ?_ fun w1 H1 => ?_
  · rw [← hg]
    exact HW0.out.new _
  rw [hg]
  clear hg
  have HOP : Hid (∀ W M L, Fam w.heap.size w W (M ++ L) → L[0]? = some (opT g ⟨kd, net, ⟨fk, fi, tk, ti, l, lost⟩, x, n, pat⟩ (.slice Av l.length cv)) → (W.cell? ⟨g, 0, none⟩ = some (.int .i64 (kd)) ∧ W.cell? ⟨g, 8, none⟩ = some (.int .i64 x) ∧ W.cell? ⟨g, 9, none⟩ = some (.int .i64 n) ∧ W.cell? ⟨g, 10, none⟩ = some (W32 pat)) ∧ (W.cell? ⟨g, 2, none⟩ = some (.int .i64 fk) ∧ W.cell? ⟨g, 3, none⟩ = some (.int .i64 fi) ∧ W.cell? ⟨g, 4, none⟩ = some (.int .i64 tk) ∧ W.cell? ⟨g, 5, none⟩ = some (.int .i64 ti) ∧ W.cell? ⟨g, 6, none⟩ = some (.slice Av l.length cv) ∧ W.cell? ⟨g, 7, none⟩ = some (.bool lost))) := by
    refine hid fun W M L hF hL => ?_
    obtain ⟨c0, c1, c2, c3, c4, c5, c6, c7, c8, c9, c10⟩ := nop_at (hF.blkL 0 hL)
    exact ⟨⟨c0, c8, c9, c10⟩, c2, c3, c4, c5, c6, c7⟩
  obtain ⟨⟨c0, c8, c9, c10⟩, -⟩ := HOP.out w1 _ _ H1.out rfl
  go_wp2_with fail
  refine (Len_nil w1).mono ?_
  rintro e w' ⟨rfl, hw⟩
  replace hw := hw.symm
  subst hw
  go_wp2_with fail
  refine (rLen_nil w1).mono ?_
  rintro e w' ⟨rfl, hw⟩
  replace hw := hw.symm
  subst hw
  go_wp2_with fail
  refine (Flight_nil w1).mono ?_
  rintro e w' ⟨rfl, hw⟩
  replace hw := hw.symm
  subst hw
  go_wp2_with fail
  refine (rFlight_nil w1).mono ?_
  rintro e w' ⟨rfl, hw⟩
  replace hw := hw.symm
  subst hw
  go_wp2_with fail
  refine (same_yes [] (.slice none 0 0) (.slice none 0 0) w1 ⟨none, 0, rfl, fun h => absurd h (by simp)⟩ ⟨none, 0, rfl, fun h => absurd h (by simp)⟩ (by simp)).mono ?_
  rintro e w4 ⟨rfl, hb4⟩
  have H4 := hid (H1.out.below hb4)
  clear hb4
  go_wp2
  go_ret
  exact ⟨by simp, H4.out.base⟩
end Go.Proofs.YtahpkknbejgnkaaDoor
