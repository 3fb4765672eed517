/- One step on both networks: kinds 2 to 6, and any other. -/
import Derived.Test.YtahpkknbejgnkaaDoorNetFe
namespace Go.Proofs.YtahpkknbejgnkaaDoor
open Go.RowKit
theorem set_same {α : Type} {ts : List α} {i : Nat} {t : α} (h : ts[i]? = some t) : ts.set i t = ts := by
  obtain ⟨hi, he⟩ := List.getElem?_eq_some_iff.1 h
  rw [← he]; exact List.set_getElem_self _
set_option maxRecDepth 100000 in
set_option maxHeartbeats 8000000 in
theorem plays_2 (B : Nat) (w0 w : World) (ts : List Thing) (i j a b : Nat) (P : List Pkt) (h : Fam B w0 w ts) (hF : FtAt w0) (hB : 0 < B) (hij : i ≠ j) (hi : ts[i]? = some (netT a P)) (hj : ts[j]? = some (refT b P)) (hs : Small6 P) (hP : P.length ≤ 1099511627776) (o : Nop) (dv : Value) (hv : SlB w0 dv o.p.data) (hw0 : B = w0.heap.size) (hn2 : o.n ≤ 9223372036854775807) (hk : o.kind = 2) :
    Calls Tryd.prog 16 #[.pointer (some ⟨a, 0, none⟩), .pointer (some ⟨b, 0, none⟩), o.val dv] w fun e w' => e = .returned (.bool true) ∧ Stp B w0 ts i j a b (P.length + 1) w' := by
  subst hw0
  obtain ⟨Av, cv, rfl⟩ := hv.form
  have H := hid h
  have HI := hid hi
  have HJ := hid hj
  have HIJ := hid hij
  have HFT := hid hF
  have HS := hid hs
  have hil := (List.getElem?_eq_some_iff.1 hi).1
  have hjl := (List.getElem?_eq_some_iff.1 hj).1
  obtain ⟨kd, net, p, x, n, pat⟩ := o
  simp only at hn2 hv hk ⊢
  subst hk
  obtain ⟨fk, fi, tk, ti, l, lost⟩ := p
  have HV : Hid (SlB w0 (.slice Av l.length cv) l) := hid hv
  unfold Nop.val Nop.cells
  simp only
  clear h hi hj hij hF hs hv
  go_enter Tryd.func16, Tryd.ntmps16
  go_upto_region 1 with (fail)
  obtain ⟨g, hg⟩ : ∃ g, w.heap.size = g := ⟨_, rfl⟩
  refine Code.seen (fun W => Fam w0.heap.size w0 W (ts ++ [opT g ⟨2, net, ⟨fk, fi, tk, ti, l, lost⟩, x, n, pat⟩ (.slice Av l.length cv)])) ?_ fun w1 H1 => ?_
  · rw [← hg]
    exact H.out.new _
  rw [hg]
  clear hg
  have HOP : Hid (∀ W M L, Fam w0.heap.size w0 W (M ++ L) → L[0]? = some (opT g ⟨2, net, ⟨fk, fi, tk, ti, l, lost⟩, x, n, pat⟩ (.slice Av l.length cv)) → W.cell? ⟨g, 0, none⟩ = some (.int .i64 (2)) ∧ W.cell? ⟨g, 8, none⟩ = some (.int .i64 x) ∧ W.cell? ⟨g, 9, none⟩ = some (.int .i64 n) ∧ W.cell? ⟨g, 10, none⟩ = some (W32 pat)) := by
    refine hid fun W M L hF hL => ?_
    obtain ⟨c0, c1, c2, c3, c4, c5, c6, c7, c8, c9, c10⟩ := nop_at (hF.blkL 0 hL)
    exact ⟨c0, c8, c9, c10⟩
  obtain ⟨c0, c8, c9, c10⟩ := HOP.out w1 _ _ H1.out rfl
  obtain ⟨P', hP'⟩ : ∃ P', pDrop P x = P' := ⟨_, rfl⟩
  have HSM : Hid (Small6 P') := hid (hP' ▸ pDrop_small HS.out x)
  have HLN : Hid (P'.length ≤ P.length + 1) := hid (hP' ▸ (len_le P x 0 0 pk0).1)
  have HP' := hid hP'
  obtain ⟨ee, heq⟩ : ∃ ee, eOf P x 0 = ee := ⟨_, rfl⟩
  have HE := hid heq
  have hee : (ee == ee) = true := by simp
  have H1d := hid (H1.out.below (drew_below w1))
  have K1 := hid (HOP.out w1 _ _ H1.out rfl).2
  have K1d := hid (HOP.out w1.drew _ _ H1d.out rfl).2
  clear hP' heq
  go_upto_region 19 with (fail)
  go_region_held3 (fun W => W.cell? ⟨g, 8, none⟩ = some (.int .i64 x) ∧ W.cell? ⟨g, 9, none⟩ = some (.int .i64 n) ∧ W.cell? ⟨g, 10, none⟩ = some (W32 pat))
    (first | with_reducible assumption | with_reducible exact K1.out | with_reducible exact K1d.out | with_reducible exact K2.out | with_reducible exact K3.out)
    (first
      | (go_at_call 29; (with_reducible refine Calls.mono (rDrop_fam H1d.out HS.out hP (get_app HJ.out) x) ?_); rintro e w2 ⟨he, h2⟩; obtain rfl : e = .returned (.int .i64 ee) := he.trans (by rw [HE.out]); rw [set_app _ _ _ _ hjl, HP'.out] at h2; have H2 := hid h2; have K2 := hid (HOP.out w2 _ _ H2.out rfl).2; clear h2 he)
      | (go_at_call 9; (with_reducible refine Calls.mono (Drop_fam H2.out HS.out hP HFT.out hB (get_app (get_set HI.out HIJ.out)) x) ?_); rintro e w3 ⟨he, h3⟩; obtain rfl : e = .returned (.int .i64 ee) := he.trans (by rw [HE.out]); rw [set_app _ _ _ _ (by rw [List.length_set]; exact hil), HP'.out] at h3; have H3 := hid h3; have K3 := hid (HOP.out w3 _ _ H3.out rfl).2; clear h3 he))
  all_goals
    go_wp2
    go_ret
    exact ⟨by simp, P', HSM.out, HLN.out, by rw [List.set_comm _ _ HIJ.out]; exact H3.out.back⟩
set_option maxRecDepth 100000 in
set_option maxHeartbeats 8000000 in
theorem plays_3 (B : Nat) (w0 w : World) (ts : List Thing) (i j a b : Nat) (P : List Pkt) (h : Fam B w0 w ts) (hF : FtAt w0) (hB : 0 < B) (hij : i ≠ j) (hi : ts[i]? = some (netT a P)) (hj : ts[j]? = some (refT b P)) (hs : Small6 P) (hP : P.length ≤ 1099511627776) (o : Nop) (dv : Value) (hv : SlB w0 dv o.p.data) (hw0 : B = w0.heap.size) (hn2 : o.n ≤ 9223372036854775807) (hk : o.kind = 3) :
    Calls Tryd.prog 16 #[.pointer (some ⟨a, 0, none⟩), .pointer (some ⟨b, 0, none⟩), o.val dv] w fun e w' => e = .returned (.bool true) ∧ Stp B w0 ts i j a b (P.length + 1) w' := by
  subst hw0
  obtain ⟨Av, cv, rfl⟩ := hv.form
  have H := hid h
  have HI := hid hi
  have HJ := hid hj
  have HIJ := hid hij
  have HFT := hid hF
  have HS := hid hs
  have hil := (List.getElem?_eq_some_iff.1 hi).1
  have hjl := (List.getElem?_eq_some_iff.1 hj).1
  obtain ⟨kd, net, p, x, n, pat⟩ := o
  simp only at hn2 hv hk ⊢
  subst hk
  obtain ⟨fk, fi, tk, ti, l, lost⟩ := p
  have HV : Hid (SlB w0 (.slice Av l.length cv) l) := hid hv
  unfold Nop.val Nop.cells
  simp only
  clear h hi hj hij hF hs hv
  go_enter Tryd.func16, Tryd.ntmps16
  go_upto_region 1 with (fail)
  obtain ⟨g, hg⟩ : ∃ g, w.heap.size = g := ⟨_, rfl⟩
  refine Code.seen (fun W => Fam w0.heap.size w0 W (ts ++ [opT g ⟨3, net, ⟨fk, fi, tk, ti, l, lost⟩, x, n, pat⟩ (.slice Av l.length cv)])) ?_ fun w1 H1 => ?_
  · rw [← hg]
    exact H.out.new _
  rw [hg]
  clear hg
  have HOP : Hid (∀ W M L, Fam w0.heap.size w0 W (M ++ L) → L[0]? = some (opT g ⟨3, net, ⟨fk, fi, tk, ti, l, lost⟩, x, n, pat⟩ (.slice Av l.length cv)) → W.cell? ⟨g, 0, none⟩ = some (.int .i64 (3)) ∧ W.cell? ⟨g, 8, none⟩ = some (.int .i64 x) ∧ W.cell? ⟨g, 9, none⟩ = some (.int .i64 n) ∧ W.cell? ⟨g, 10, none⟩ = some (W32 pat)) := by
    refine hid fun W M L hF hL => ?_
    obtain ⟨c0, c1, c2, c3, c4, c5, c6, c7, c8, c9, c10⟩ := nop_at (hF.blkL 0 hL)
    exact ⟨c0, c8, c9, c10⟩
  obtain ⟨c0, c8, c9, c10⟩ := HOP.out w1 _ _ H1.out rfl
  obtain ⟨P', hP'⟩ : ∃ P', pDouble P x = P' := ⟨_, rfl⟩
  have HSM : Hid (Small6 P') := hid (hP' ▸ pDouble_small HS.out x)
  have HLN : Hid (P'.length ≤ P.length + 1) := hid (hP' ▸ (len_le P x 0 0 pk0).2.1)
  have HP' := hid hP'
  obtain ⟨ee, heq⟩ : ∃ ee, eOf P x 0 = ee := ⟨_, rfl⟩
  have HE := hid heq
  have hee : (ee == ee) = true := by simp
  have H1d := hid (H1.out.below (drew_below w1))
  have K1 := hid (HOP.out w1 _ _ H1.out rfl).2
  have K1d := hid (HOP.out w1.drew _ _ H1d.out rfl).2
  clear hP' heq
  go_upto_region 21 with (fail)
  go_region_held3 (fun W => W.cell? ⟨g, 8, none⟩ = some (.int .i64 x) ∧ W.cell? ⟨g, 9, none⟩ = some (.int .i64 n) ∧ W.cell? ⟨g, 10, none⟩ = some (W32 pat))
    (first | with_reducible assumption | with_reducible exact K1.out | with_reducible exact K1d.out | with_reducible exact K2.out | with_reducible exact K3.out)
    (first
      | (go_at_call 30; (with_reducible refine Calls.mono (rDouble_fam H1d.out HS.out hP (get_app HJ.out) x) ?_); rintro e w2 ⟨he, h2⟩; obtain rfl : e = .returned (.int .i64 ee) := he.trans (by rw [HE.out]); rw [set_app _ _ _ _ hjl, HP'.out] at h2; have H2 := hid h2; have K2 := hid (HOP.out w2 _ _ H2.out rfl).2; clear h2 he)
      | (go_at_call 8; (with_reducible refine Calls.mono (Double_fam H2.out HS.out hP HFT.out hB (get_app (get_set HI.out HIJ.out)) x) ?_); rintro e w3 ⟨he, h3⟩; obtain rfl : e = .returned (.int .i64 ee) := he.trans (by rw [HE.out]); rw [set_app _ _ _ _ (by rw [List.length_set]; exact hil), HP'.out] at h3; have H3 := hid h3; have K3 := hid (HOP.out w3 _ _ H3.out rfl).2; clear h3 he))
  all_goals
    go_wp2
    go_ret
    exact ⟨by simp, P', HSM.out, HLN.out, by rw [List.set_comm _ _ HIJ.out]; exact H3.out.back⟩
set_option maxRecDepth 100000 in
set_option maxHeartbeats 8000000 in
theorem plays_4 (B : Nat) (w0 w : World) (ts : List Thing) (i j a b : Nat) (P : List Pkt) (h : Fam B w0 w ts) (hF : FtAt w0) (hB : 0 < B) (hij : i ≠ j) (hi : ts[i]? = some (netT a P)) (hj : ts[j]? = some (refT b P)) (hs : Small6 P) (hP : P.length ≤ 1099511627776) (o : Nop) (dv : Value) (hv : SlB w0 dv o.p.data) (hw0 : B = w0.heap.size) (hn2 : o.n ≤ 9223372036854775807) (hk : o.kind = 4) :
    Calls Tryd.prog 16 #[.pointer (some ⟨a, 0, none⟩), .pointer (some ⟨b, 0, none⟩), o.val dv] w fun e w' => e = .returned (.bool true) ∧ Stp B w0 ts i j a b (P.length + 1) w' := by
  subst hw0
  obtain ⟨Av, cv, rfl⟩ := hv.form
  have H := hid h
  have HI := hid hi
  have HJ := hid hj
  have HIJ := hid hij
  have HFT := hid hF
  have HS := hid hs
  have hil := (List.getElem?_eq_some_iff.1 hi).1
  have hjl := (List.getElem?_eq_some_iff.1 hj).1
  obtain ⟨kd, net, p, x, n, pat⟩ := o
  simp only at hn2 hv hk ⊢
  subst hk
  obtain ⟨fk, fi, tk, ti, l, lost⟩ := p
  have HV : Hid (SlB w0 (.slice Av l.length cv) l) := hid hv
  unfold Nop.val Nop.cells
  simp only
  clear h hi hj hij hF hs hv
  go_enter Tryd.func16, Tryd.ntmps16
  go_upto_region 1 with (fail)
  obtain ⟨g, hg⟩ : ∃ g, w.heap.size = g := ⟨_, rfl⟩
  refine Code.seen (fun W => Fam w0.heap.size w0 W (ts ++ [opT g ⟨4, net, ⟨fk, fi, tk, ti, l, lost⟩, x, n, pat⟩ (.slice Av l.length cv)])) ?_ fun w1 H1 => ?_
  · rw [← hg]
    exact H.out.new _
  rw [hg]
  clear hg
  have HOP : Hid (∀ W M L, Fam w0.heap.size w0 W (M ++ L) → L[0]? = some (opT g ⟨4, net, ⟨fk, fi, tk, ti, l, lost⟩, x, n, pat⟩ (.slice Av l.length cv)) → W.cell? ⟨g, 0, none⟩ = some (.int .i64 (4)) ∧ W.cell? ⟨g, 8, none⟩ = some (.int .i64 x) ∧ W.cell? ⟨g, 9, none⟩ = some (.int .i64 n) ∧ W.cell? ⟨g, 10, none⟩ = some (W32 pat)) := by
    refine hid fun W M L hF hL => ?_
    obtain ⟨c0, c1, c2, c3, c4, c5, c6, c7, c8, c9, c10⟩ := nop_at (hF.blkL 0 hL)
    exact ⟨c0, c8, c9, c10⟩
  obtain ⟨c0, c8, c9, c10⟩ := HOP.out w1 _ _ H1.out rfl
  obtain ⟨P', hP'⟩ : ∃ P', pBurst P x n pat = P' := ⟨_, rfl⟩
  have HSM : Hid (Small6 P') := hid (hP' ▸ pBurst_small HS.out x n pat)
  have HLN : Hid (P'.length ≤ P.length + 1) := hid (hP' ▸ (len_le P x n pat pk0).2.2.2.2.1)
  have HP' := hid hP'
  obtain ⟨ee, heq⟩ : ∃ ee, eOf P x (eNeg n) = ee := ⟨_, rfl⟩
  have HE := hid heq
  have hee : (ee == ee) = true := by simp
  have H1d := hid (H1.out.below (drew_below w1))
  have K1 := hid (HOP.out w1 _ _ H1.out rfl).2
  have K1d := hid (HOP.out w1.drew _ _ H1d.out rfl).2
  clear hP' heq
  go_upto_region 23 with (fail)
  go_region_held3 (fun W => W.cell? ⟨g, 8, none⟩ = some (.int .i64 x) ∧ W.cell? ⟨g, 9, none⟩ = some (.int .i64 n) ∧ W.cell? ⟨g, 10, none⟩ = some (W32 pat))
    (first | with_reducible assumption | with_reducible exact K1.out | with_reducible exact K1d.out | with_reducible exact K2.out | with_reducible exact K3.out)
    (first
      | (go_at_call 31; (with_reducible refine Calls.mono (rBurst_fam H1d.out HS.out hP (get_app HJ.out) x n pat hn2) ?_); rintro e w2 ⟨he, h2⟩; obtain rfl : e = .returned (.int .i64 ee) := he.trans (by rw [HE.out]); rw [set_app _ _ _ _ hjl, HP'.out] at h2; have H2 := hid h2; have K2 := hid (HOP.out w2 _ _ H2.out rfl).2; clear h2 he)
      | (go_at_call 32; (with_reducible refine Calls.mono (Burst_fam H2.out HS.out hP HFT.out hB (get_app (get_set HI.out HIJ.out)) x n pat hn2) ?_); rintro e w3 ⟨he, h3⟩; obtain rfl : e = .returned (.int .i64 ee) := he.trans (by rw [HE.out]); rw [set_app _ _ _ _ (by rw [List.length_set]; exact hil), HP'.out] at h3; have H3 := hid h3; have K3 := hid (HOP.out w3 _ _ H3.out rfl).2; clear h3 he))
  all_goals
    go_wp2
    go_ret
    exact ⟨by simp, P', HSM.out, HLN.out, by rw [List.set_comm _ _ HIJ.out]; exact H3.out.back⟩
set_option maxRecDepth 100000 in
set_option maxHeartbeats 8000000 in
theorem plays_5 (B : Nat) (w0 w : World) (ts : List Thing) (i j a b : Nat) (P : List Pkt) (h : Fam B w0 w ts) (hF : FtAt w0) (hB : 0 < B) (hij : i ≠ j) (hi : ts[i]? = some (netT a P)) (hj : ts[j]? = some (refT b P)) (hs : Small6 P) (hP : P.length ≤ 1099511627776) (o : Nop) (dv : Value) (hv : SlB w0 dv o.p.data) (hw0 : B = w0.heap.size) (hn2 : o.n ≤ 9223372036854775807) (hk : o.kind = 5) :
    Calls Tryd.prog 16 #[.pointer (some ⟨a, 0, none⟩), .pointer (some ⟨b, 0, none⟩), o.val dv] w fun e w' => e = .returned (.bool true) ∧ Stp B w0 ts i j a b (P.length + 1) w' := by
  subst hw0
  obtain ⟨Av, cv, rfl⟩ := hv.form
  have H := hid h
  have HI := hid hi
  have HJ := hid hj
  have HIJ := hid hij
  have HFT := hid hF
  have HS := hid hs
  have hil := (List.getElem?_eq_some_iff.1 hi).1
  have hjl := (List.getElem?_eq_some_iff.1 hj).1
  obtain ⟨kd, net, p, x, n, pat⟩ := o
  simp only at hn2 hv hk ⊢
  subst hk
  obtain ⟨fk, fi, tk, ti, l, lost⟩ := p
  have HV : Hid (SlB w0 (.slice Av l.length cv) l) := hid hv
  unfold Nop.val Nop.cells
  simp only
  clear h hi hj hij hF hs hv
  go_enter Tryd.func16, Tryd.ntmps16
  go_upto_region 1 with (fail)
  obtain ⟨g, hg⟩ : ∃ g, w.heap.size = g := ⟨_, rfl⟩
  refine Code.seen (fun W => Fam w0.heap.size w0 W (ts ++ [opT g ⟨5, net, ⟨fk, fi, tk, ti, l, lost⟩, x, n, pat⟩ (.slice Av l.length cv)])) ?_ fun w1 H1 => ?_
  · rw [← hg]
    exact H.out.new _
  rw [hg]
  clear hg
  have HOP : Hid (∀ W M L, Fam w0.heap.size w0 W (M ++ L) → L[0]? = some (opT g ⟨5, net, ⟨fk, fi, tk, ti, l, lost⟩, x, n, pat⟩ (.slice Av l.length cv)) → W.cell? ⟨g, 0, none⟩ = some (.int .i64 (5)) ∧ W.cell? ⟨g, 8, none⟩ = some (.int .i64 x) ∧ W.cell? ⟨g, 9, none⟩ = some (.int .i64 n) ∧ W.cell? ⟨g, 10, none⟩ = some (W32 pat)) := by
    refine hid fun W M L hF hL => ?_
    obtain ⟨c0, c1, c2, c3, c4, c5, c6, c7, c8, c9, c10⟩ := nop_at (hF.blkL 0 hL)
    exact ⟨c0, c8, c9, c10⟩
  obtain ⟨c0, c8, c9, c10⟩ := HOP.out w1 _ _ H1.out rfl
  obtain ⟨P', hP'⟩ : ∃ P', pCut P x n = P' := ⟨_, rfl⟩
  have HSM : Hid (Small6 P') := hid (hP' ▸ pCut_small HS.out x n)
  have HLN : Hid (P'.length ≤ P.length + 1) := hid (hP' ▸ (len_le P x n 0 pk0).2.2.2.1)
  have HP' := hid hP'
  obtain ⟨ee, heq⟩ : ∃ ee, eOf P x (eNeg n) = ee := ⟨_, rfl⟩
  have HE := hid heq
  have hee : (ee == ee) = true := by simp
  have H1d := hid (H1.out.below (drew_below w1))
  have K1 := hid (HOP.out w1 _ _ H1.out rfl).2
  have K1d := hid (HOP.out w1.drew _ _ H1d.out rfl).2
  clear hP' heq
  go_upto_region 25 with (fail)
  go_region_held3 (fun W => W.cell? ⟨g, 8, none⟩ = some (.int .i64 x) ∧ W.cell? ⟨g, 9, none⟩ = some (.int .i64 n) ∧ W.cell? ⟨g, 10, none⟩ = some (W32 pat))
    (first | with_reducible assumption | with_reducible exact K1.out | with_reducible exact K1d.out | with_reducible exact K2.out | with_reducible exact K3.out)
    (first
      | (go_at_call 33; (with_reducible refine Calls.mono (rCut_fam H1d.out HS.out hP (get_app HJ.out) x n hn2) ?_); rintro e w2 ⟨he, h2⟩; obtain rfl : e = .returned (.int .i64 ee) := he.trans (by rw [HE.out]); rw [set_app _ _ _ _ hjl, HP'.out] at h2; have H2 := hid h2; have K2 := hid (HOP.out w2 _ _ H2.out rfl).2; clear h2 he)
      | (go_at_call 34; (with_reducible refine Calls.mono (Cut_fam H2.out HS.out hP HFT.out hB (get_app (get_set HI.out HIJ.out)) x n hn2) ?_); rintro e w3 ⟨he, h3⟩; obtain rfl : e = .returned (.int .i64 ee) := he.trans (by rw [HE.out]); rw [set_app _ _ _ _ (by rw [List.length_set]; exact hil), HP'.out] at h3; have H3 := hid h3; have K3 := hid (HOP.out w3 _ _ H3.out rfl).2; clear h3 he))
  all_goals
    go_wp2
    go_ret
    exact ⟨by simp, P', HSM.out, HLN.out, by rw [List.set_comm _ _ HIJ.out]; exact H3.out.back⟩
set_option maxRecDepth 100000 in
set_option maxHeartbeats 8000000 in
theorem plays_6 (B : Nat) (w0 w : World) (ts : List Thing) (i j a b : Nat) (P : List Pkt) (h : Fam B w0 w ts) (hF : FtAt w0) (hB : 0 < B) (hij : i ≠ j) (hi : ts[i]? = some (netT a P)) (hj : ts[j]? = some (refT b P)) (hs : Small6 P) (hP : P.length ≤ 1099511627776) (o : Nop) (dv : Value) (hv : SlB w0 dv o.p.data) (hw0 : B = w0.heap.size) (hn2 : o.n ≤ 9223372036854775807) (hk : o.kind = 6) :
    Calls Tryd.prog 16 #[.pointer (some ⟨a, 0, none⟩), .pointer (some ⟨b, 0, none⟩), o.val dv] w fun e w' => e = .returned (.bool true) ∧ Stp B w0 ts i j a b (P.length + 1) w' := by
  subst hw0
  obtain ⟨Av, cv, rfl⟩ := hv.form
  have H := hid h
  have HI := hid hi
  have HJ := hid hj
  have HIJ := hid hij
  have HFT := hid hF
  have HS := hid hs
  have hil := (List.getElem?_eq_some_iff.1 hi).1
  have hjl := (List.getElem?_eq_some_iff.1 hj).1
  obtain ⟨kd, net, p, x, n, pat⟩ := o
  simp only at hn2 hv hk ⊢
  subst hk
  obtain ⟨fk, fi, tk, ti, l, lost⟩ := p
  have HV : Hid (SlB w0 (.slice Av l.length cv) l) := hid hv
  unfold Nop.val Nop.cells
  simp only
  clear h hi hj hij hF hs hv
  go_enter Tryd.func16, Tryd.ntmps16
  go_upto_region 1 with (fail)
  obtain ⟨g, hg⟩ : ∃ g, w.heap.size = g := ⟨_, rfl⟩
  refine Code.seen (fun W => Fam w0.heap.size w0 W (ts ++ [opT g ⟨6, net, ⟨fk, fi, tk, ti, l, lost⟩, x, n, pat⟩ (.slice Av l.length cv)])) ?_ fun w1 H1 => ?_
  · rw [← hg]
    exact H.out.new _
  rw [hg]
  clear hg
  have HOP : Hid (∀ W M L, Fam w0.heap.size w0 W (M ++ L) → L[0]? = some (opT g ⟨6, net, ⟨fk, fi, tk, ti, l, lost⟩, x, n, pat⟩ (.slice Av l.length cv)) → W.cell? ⟨g, 0, none⟩ = some (.int .i64 (6)) ∧ W.cell? ⟨g, 8, none⟩ = some (.int .i64 x) ∧ W.cell? ⟨g, 9, none⟩ = some (.int .i64 n) ∧ W.cell? ⟨g, 10, none⟩ = some (W32 pat)) := by
    refine hid fun W M L hF hL => ?_
    obtain ⟨c0, c1, c2, c3, c4, c5, c6, c7, c8, c9, c10⟩ := nop_at (hF.blkL 0 hL)
    exact ⟨c0, c8, c9, c10⟩
  obtain ⟨c0, c8, c9, c10⟩ := HOP.out w1 _ _ H1.out rfl
  obtain ⟨P', hP'⟩ : ∃ P', pLose P x = P' := ⟨_, rfl⟩
  have HSM : Hid (Small6 P') := hid (hP' ▸ pLose_small HS.out x)
  have HLN : Hid (P'.length ≤ P.length + 1) := hid (hP' ▸ (len_le P x 0 0 pk0).2.2.1)
  have HP' := hid hP'
  obtain ⟨ee, heq⟩ : ∃ ee, eOf P x 0 = ee := ⟨_, rfl⟩
  have HE := hid heq
  have hee : (ee == ee) = true := by simp
  have H1d := hid (H1.out.below (drew_below w1))
  have K1 := hid (HOP.out w1 _ _ H1.out rfl).2
  have K1d := hid (HOP.out w1.drew _ _ H1d.out rfl).2
  clear hP' heq
  go_upto_region 27 with (fail)
  go_region_held3 (fun W => W.cell? ⟨g, 8, none⟩ = some (.int .i64 x) ∧ W.cell? ⟨g, 9, none⟩ = some (.int .i64 n) ∧ W.cell? ⟨g, 10, none⟩ = some (W32 pat))
    (first | with_reducible assumption | with_reducible exact K1.out | with_reducible exact K1d.out | with_reducible exact K2.out | with_reducible exact K3.out)
    (first
      | (go_at_call 35; (with_reducible refine Calls.mono (rLose_fam H1d.out HS.out hP (get_app HJ.out) x) ?_); rintro e w2 ⟨he, h2⟩; obtain rfl : e = .returned (.int .i64 ee) := he.trans (by rw [HE.out]); rw [set_app _ _ _ _ hjl, HP'.out] at h2; have H2 := hid h2; have K2 := hid (HOP.out w2 _ _ H2.out rfl).2; clear h2 he)
      | (go_at_call 36; (with_reducible refine Calls.mono (Lose_fam H2.out HS.out hP HFT.out hB (get_app (get_set HI.out HIJ.out)) x) ?_); rintro e w3 ⟨he, h3⟩; obtain rfl : e = .returned (.int .i64 ee) := he.trans (by rw [HE.out]); rw [set_app _ _ _ _ (by rw [List.length_set]; exact hil), HP'.out] at h3; have H3 := hid h3; have K3 := hid (HOP.out w3 _ _ H3.out rfl).2; clear h3 he))
  all_goals
    go_wp2
    go_ret
    exact ⟨by simp, P', HSM.out, HLN.out, by rw [List.set_comm _ _ HIJ.out]; exact H3.out.back⟩
set_option maxRecDepth 100000 in
set_option maxHeartbeats 8000000 in
theorem plays_7 (B : Nat) (w0 w : World) (ts : List Thing) (i j a b : Nat) (P : List Pkt) (h : Fam B w0 w ts) (hF : FtAt w0) (hB : 0 < B) (hij : i ≠ j) (hi : ts[i]? = some (netT a P)) (hj : ts[j]? = some (refT b P)) (hs : Small6 P) (hP : P.length ≤ 1099511627776) (o : Nop) (dv : Value) (hv : SlB w0 dv o.p.data) (hw0 : B = w0.heap.size) (hn2 : o.n ≤ 9223372036854775807) (hk : (o.kind == 0) = false ∧ (o.kind == 1) = false ∧ (o.kind == 2) = false ∧ (o.kind == 3) = false ∧ (o.kind == 4) = false ∧ (o.kind == 5) = false ∧ (o.kind == 6) = false) :
    Calls Tryd.prog 16 #[.pointer (some ⟨a, 0, none⟩), .pointer (some ⟨b, 0, none⟩), o.val dv] w fun e w' => e = .returned (.bool true) ∧ Stp B w0 ts i j a b (P.length + 1) w' := by
  subst hw0
  obtain ⟨Av, cv, rfl⟩ := hv.form
  have H := hid h
  have HI := hid hi
  have HJ := hid hj
  have HIJ := hid hij
  have HFT := hid hF
  have HS := hid hs
  have hil := (List.getElem?_eq_some_iff.1 hi).1
  have hjl := (List.getElem?_eq_some_iff.1 hj).1
  obtain ⟨kd, net, p, x, n, pat⟩ := o
  simp only at hn2 hv hk ⊢
  obtain ⟨k0, k1, k2, k3, k4, k5, k6⟩ := hk
  obtain ⟨fk, fi, tk, ti, l, lost⟩ := p
  have HV : Hid (SlB w0 (.slice Av l.length cv) l) := hid hv
  unfold Nop.val Nop.cells
  simp only
  clear h hi hj hij hF hs hv
  go_enter Tryd.func16, Tryd.ntmps16
  go_upto_region 1 with (fail)
  obtain ⟨g, hg⟩ : ∃ g, w.heap.size = g := ⟨_, rfl⟩
  refine Code.seen (fun W => Fam w0.heap.size w0 W (ts ++ [opT g ⟨kd, net, ⟨fk, fi, tk, ti, l, lost⟩, x, n, pat⟩ (.slice Av l.length cv)])) ?_ fun w1 H1 => ?_
  · rw [← hg]
    exact H.out.new _
  rw [hg]
  clear hg
  have HOP : Hid (∀ W M L, Fam w0.heap.size w0 W (M ++ L) → L[0]? = some (opT g ⟨kd, net, ⟨fk, fi, tk, ti, l, lost⟩, x, n, pat⟩ (.slice Av l.length cv)) → W.cell? ⟨g, 0, none⟩ = some (.int .i64 (kd)) ∧ W.cell? ⟨g, 8, none⟩ = some (.int .i64 x) ∧ W.cell? ⟨g, 9, none⟩ = some (.int .i64 n) ∧ W.cell? ⟨g, 10, none⟩ = some (W32 pat)) := by
    refine hid fun W M L hF hL => ?_
    obtain ⟨c0, c1, c2, c3, c4, c5, c6, c7, c8, c9, c10⟩ := nop_at (hF.blkL 0 hL)
    exact ⟨c0, c8, c9, c10⟩
  obtain ⟨c0, c8, c9, c10⟩ := HOP.out w1 _ _ H1.out rfl
  have HN : Hid ((ts ++ [opT g ⟨kd, net, ⟨fk, fi, tk, ti, l, lost⟩, x, n, pat⟩ (.slice Av l.length cv)])[i]? = some (netT a P)) := hid (get_app HI.out)
  have HR : Hid ((ts ++ [opT g ⟨kd, net, ⟨fk, fi, tk, ti, l, lost⟩, x, n, pat⟩ (.slice Av l.length cv)])[j]? = some (refT b P)) := hid (get_app HJ.out)
  have hll : ((P.length : Int) == (P.length : Int)) = true := by simp
  have hll2 : (P.length == P.length) = true := by simp
  go_wp2_with fail
  refine (Len_fam H1.out HS.out hP HN.out).mono ?_
  rintro e w' ⟨rfl, hw⟩
  replace hw := hw.symm
  subst hw
  go_wp2_with fail
  refine (rLen_fam H1.out HS.out hP HR.out).mono ?_
  rintro e w' ⟨rfl, hw⟩
  replace hw := hw.symm
  subst hw
  go_wp2_with fail
  refine (Flight_fam H1.out HS.out hP HN.out).mono ?_
  rintro e w2 ⟨v2, rfl, hv2, hb2⟩
  have HV2 := hid hv2
  have H2 := hid (H1.out.below hb2)
  clear hv2 hb2
  go_wp2_with fail
  refine (rFlight_fam H2.out HS.out hP HR.out).mono ?_
  rintro e w3 ⟨v3, rfl, hv3, hb3⟩
  have HV3 := hid hv3
  have HV2' := hid (HV2.out.below hb3)
  have H3 := hid (H2.out.below hb3)
  clear hv3 hb3
  go_wp2_with fail
  refine (same_yes P v2 v3 w3 HV2'.out HV3.out hP).mono ?_
  rintro e w4 ⟨rfl, hb4⟩
  have H4 := hid (H3.out.below hb4)
  clear hb4
  go_wp2
  go_ret
  refine ⟨by simp, P, HS.out, by omega, ?_⟩
  have h5 := H4.out.back
  rw [set_same HI.out, set_same HJ.out]
  exact h5
end Go.Proofs.YtahpkknbejgnkaaDoor
