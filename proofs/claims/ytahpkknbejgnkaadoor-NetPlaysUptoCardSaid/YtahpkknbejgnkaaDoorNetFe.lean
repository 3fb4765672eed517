/- One step on both networks: the other kinds. -/
import Derived.Test.YtahpkknbejgnkaaDoorNetFd
namespace Go.Proofs.YtahpkknbejgnkaaDoor
open Go.RowKit
set_option maxRecDepth 100000 in
set_option maxHeartbeats 8000000 in
theorem plays_1 (B : Nat) (w0 w : World) (ts : List Thing) (i j a b : Nat) (P : List Pkt) (h : Fam B w0 w ts) (hF : FtAt w0) (hB : 0 < B) (hij : i ≠ j) (hi : ts[i]? = some (netT a P)) (hj : ts[j]? = some (refT b P)) (hs : Small6 P) (hP : P.length ≤ 1099511627776) (o : Nop) (dv : Value) (hv : SlB w0 dv o.p.data) (hw0 : B = w0.heap.size) (hn2 : o.n ≤ 9223372036854775807) (hk : o.kind = 1) :
    Calls Tryd.prog 16 #[.pointer (some ⟨a, 0, none⟩), .pointer (some ⟨b, 0, none⟩), o.val dv] w fun e w' => e = .returned (.bool true) ∧ Stp B w0 ts i j a b (P.length + 1) w' := by
  subst hw0
  obtain ⟨Av, cv, rfl⟩ := hv.form
  have H := hid h
  have HI := hid hi
  have HJ := hid hj
  have HIJ := hid hij
  have HFT := hid hF
  have HS := hid hs
  have hil := (List.getElem?_eq_some_iff.1 hi).1
  have hjl := (List.getElem?_eq_some_iff.1 hj).1
  obtain ⟨kd, net, p, x, n, pat⟩ := o
  simp only at hn2 hv hk ⊢
  subst hk
  obtain ⟨fk, fi, tk, ti, l, lost⟩ := p
  have HV : Hid (SlB w0 (.slice Av l.length cv) l) := hid hv
  unfold Nop.val Nop.cells
  simp only
  clear h hi hj hij hF hs hv
  go_enter Tryd.func16, Tryd.ntmps16
  go_upto_region 1 with (fail)
  obtain ⟨g, hg⟩ : ∃ g, w.heap.size = g := ⟨_, rfl⟩
  refine Code.seen (fun W => Fam w0.heap.size w0 W (ts ++ [opT g ⟨1, net, ⟨fk, fi, tk, ti, l, lost⟩, x, n, pat⟩ (.slice Av l.length cv)])) ?_ fun w1 H1 => ?_
  · rw [← hg]
    exact H.out.new _
  rw [hg]
  clear hg
  have HOP : Hid (∀ W M L, Fam w0.heap.size w0 W (M ++ L) → L[0]? = some (opT g ⟨1, net, ⟨fk, fi, tk, ti, l, lost⟩, x, n, pat⟩ (.slice Av l.length cv)) → W.cell? ⟨g, 0, none⟩ = some (.int .i64 (1)) ∧ W.cell? ⟨g, 8, none⟩ = some (.int .i64 x) ∧ W.cell? ⟨g, 9, none⟩ = some (.int .i64 n) ∧ W.cell? ⟨g, 10, none⟩ = some (W32 pat)) := by
    refine hid fun W M L hF hL => ?_
    obtain ⟨c0, c1, c2, c3, c4, c5, c6, c7, c8, c9, c10⟩ := nop_at (hF.blkL 0 hL)
    exact ⟨c0, c8, c9, c10⟩
  obtain ⟨c0, c8, c9, c10⟩ := HOP.out w1 _ _ H1.out rfl
  go_wp2_with fail
  refine (rTake_fam H1.out HS.out hP (get_app HJ.out) x).mono ?_
  rintro e w2 ⟨u2, rfl, h2⟩
  rw [set_app _ _ _ _ hjl] at h2
  have HSM := hid (pDrop_small HS.out x)
  have HLN := hid ((len_le P x 0 0 pk0).1)
  obtain ⟨P', hP'⟩ : ∃ P', pDrop P x = P' := ⟨_, rfl⟩
  rw [hP'] at h2 HSM HLN
  have HP' := hid hP'
  obtain ⟨q, hq⟩ : ∃ q, pTk P x = q := ⟨_, rfl⟩
  rw [hq] at h2 ⊢
  have HQ := hid hq
  have H2 := hid h2
  obtain ⟨qfk, qfi, qtk, qti, ql, qlost⟩ := q
  obtain ⟨A2, cc2, rfl⟩ := (h2.sl (get_app (get_self hjl))).form
  unfold Pkt.val
  simp only at H2 ⊢
  generalize heq : eOf P x 0 = ee
  have HE := hid heq
  clear h2 hP' hq heq c0 c8 c9 c10
  go_upto_region 16 with (fail)
  obtain ⟨g8, hg8⟩ : ∃ g8, w2.heap.size = g8 := ⟨_, rfl⟩
  refine Code.seen (fun W => Fam w0.heap.size w0 W (ts.set j (andT (refT b P') (slT (.slice A2 ql.length cc2) ql)) ++ [opT g ⟨1, net, ⟨fk, fi, tk, ti, l, lost⟩, x, n, pat⟩ (.slice Av l.length cv), pkT g8 ⟨qfk, qfi, qtk, qti, ql, qlost⟩ (.slice A2 ql.length cc2)])) ?_ fun w3 H3 => ?_
  · have := H2.out.newL (.cells #[.int .i64 qfk, .int .i64 qfi, .int .i64 qtk, .int .i64 qti, .slice A2 ql.length cc2, .bool qlost] 32 (0, 0))
    rw [hg8] at this
    exact this
  rw [hg8]
  clear hg8
  obtain ⟨c0, c8, c9, c10⟩ := HOP.out w3 _ _ H3.out rfl
  go_wp2_with fail
  refine (Take_fam H3.out HS.out hP HFT.out hB (get_app (get_set HI.out HIJ.out)) x).mono ?_
  rintro e w4 ⟨u4, rfl, h4⟩
  rw [set_app _ _ _ _ (by rw [List.length_set]; exact hil), HP'.out, HQ.out] at h4
  rw [HQ.out, HE.out]
  have H4 := hid h4
  obtain ⟨A4, cc4, rfl⟩ := (h4.sl (get_app (get_self (by rw [List.length_set]; exact hil)))).form
  unfold Pkt.val
  simp only at H4 ⊢
  clear h4 c0 c8 c9 c10
  go_upto_region 17 with (fail)
  obtain ⟨g9, hg9⟩ : ∃ g9, w4.heap.size = g9 := ⟨_, rfl⟩
  refine Code.seen (fun W => Fam w0.heap.size w0 W ((ts.set j (andT (refT b P') (slT (.slice A2 ql.length cc2) ql))).set i (andT (netT a P') (slT (.slice A4 ql.length cc4) ql)) ++ [opT g ⟨1, net, ⟨fk, fi, tk, ti, l, lost⟩, x, n, pat⟩ (.slice Av l.length cv), pkT g8 ⟨qfk, qfi, qtk, qti, ql, qlost⟩ (.slice A2 ql.length cc2), pkT g9 ⟨qfk, qfi, qtk, qti, ql, qlost⟩ (.slice A4 ql.length cc4)])) ?_ fun w5 H5 => ?_
  · have := H4.out.newL (.cells #[.int .i64 qfk, .int .i64 qfi, .int .i64 qtk, .int .i64 qti, .slice A4 ql.length cc4, .bool qlost] 32 (0, 0))
    rw [hg9] at this
    exact this
  rw [hg9]
  clear hg9
  obtain ⟨p0, p1, p2, p3, p4, p5⟩ := pk_at (H5.out.blkL 1 rfl)
  obtain ⟨r0, r1, r2, r3, r4, r5⟩ := pk_at (H5.out.blkL 2 rfl)
  have hee : (ee == ee) = true := by simp
  go_wp2_with fail
  refine (samePacket_at qfk qfi qtk qti ql qlost (.slice A4 ql.length cc4) (.slice A2 ql.length cc2) w5 (H5.out.sl (get_app (get_self (by rw [List.length_set]; exact hil)))) (H5.out.sl (get_app (get_set (get_self hjl) (Ne.symm HIJ.out))))).mono ?_
  rintro e w6 ⟨rfl, hb6⟩
  have h6 := (H5.out.below hb6).back
  have h7 := (h6.weak (t' := netT a P') (get_self (by rw [List.length_set]; exact hil)) (fun S h => h.1))
  have h8 := h7.weak (i := j) (t := andT (refT b P') (slT (.slice A2 ql.length cc2) ql)) (t' := refT b P') (by rw [List.set_set]; exact get_set (get_self hjl) (Ne.symm HIJ.out)) (fun S h => h.1)
  have R : Stp w0.heap.size w0 ts i j a b (P.length + 1) w6 := ⟨P', HSM.out, HLN.out, by
    rw [List.set_set, List.set_comm _ _ (Ne.symm HIJ.out), List.set_set] at h8
    rw [← List.set_comm _ _ (Ne.symm HIJ.out)] at h8
    rw [List.set_comm _ _ HIJ.out]
    exact h8⟩
  have HR := hid R
  clear hb6 h6 h7 h8 R p0 p1 p2 p3 p4 p5 r0 r1 r2 r3 r4 r5
  go_wp2
  go_ret
  exact ⟨by simp, HR.out⟩
end Go.Proofs.YtahpkknbejgnkaaDoor
