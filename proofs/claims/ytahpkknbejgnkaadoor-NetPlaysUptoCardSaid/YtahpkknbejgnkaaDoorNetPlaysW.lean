/- The law NetPlays, walked: every answer of every script over two networks. -/
import Derived.Test.YtahpkknbejgnkaaDoorNetPlaysC
namespace Go.Proofs.YtahpkknbejgnkaaDoor
open Go.RowKit Go.ChangeShapes Go.WideShapes
/-- a step's word, as it came in -/
def Nop.R (w : World) (ys : List Value) (o : Nop) : Prop := (∃ v, ys = (o.cells v).toList ∧ SlB w v o.p.data) ∧ o.n ≤ 9223372036854775807 ∧ (-9223372036854775808 ≤ o.net ∧ o.net ≤ 9223372036854775807)
theorem nop_lies {w : World} {b off c n : Nat} {ops : List Nop} (h : SlR Nop.R 11 w (.slice (some ⟨b, off, none⟩) n c) ops) (i : Nat) (o : Nop) (hi : ops[i]? = some o) :
    ∃ v, SlB w v o.p.data ∧ o.n ≤ 9223372036854775807 ∧ (-9223372036854775808 ≤ o.net ∧ o.net ≤ 9223372036854775807) ∧ ∀ j u, (o.cells v)[j]? = some u → w.cell? ⟨b, off + i * 11 + j, none⟩ = some u := by
  obtain ⟨A, c', ys, e1, h1, h2, h3, h4⟩ := h
  injection e1 with e1 e2 e3
  have hil := (List.getElem?_eq_some_iff.1 hi).1
  obtain ⟨b', off', eA, hc⟩ := h4 (by omega)
  rw [← e1] at eA
  injection eA with eA
  injection eA with ea eb
  subst ea eb
  obtain ⟨_, ⟨v, hv, hs⟩, r1, r2⟩ := h3 i o hi
  refine ⟨v, hs, r1, r2, fun j u hj => ?_⟩
  have hj5 : j < 11 := (Array.getElem?_eq_some_iff.1 hj).1
  have := hc i hil j hj5
  rw [hv, Array.getElem?_toList, hj] at this
  rw [Nat.add_assoc]
  exact this
theorem nop_off {W : World} {g p : Nat} {o : Nop} {v : Value} (key : ∀ j u, (o.cells v)[j]? = some u → W.cell? ⟨g, p + j, none⟩ = some u) :
    W.cell? ⟨g, p, none⟩ = some (.int .i64 o.kind) ∧ W.cell? ⟨g, p + 1, none⟩ = some (.int .i64 o.net) ∧ W.cell? ⟨g, p + 2, none⟩ = some (.int .i64 o.p.fk) ∧ W.cell? ⟨g, p + 3, none⟩ = some (.int .i64 o.p.fi) ∧ W.cell? ⟨g, p + 4, none⟩ = some (.int .i64 o.p.tk) ∧ W.cell? ⟨g, p + 5, none⟩ = some (.int .i64 o.p.ti) ∧ W.cell? ⟨g, p + 6, none⟩ = some v ∧ W.cell? ⟨g, p + 7, none⟩ = some (.bool o.p.lost) ∧ W.cell? ⟨g, p + 8, none⟩ = some (.int .i64 o.i) ∧ W.cell? ⟨g, p + 9, none⟩ = some (.int .i64 o.n) ∧ W.cell? ⟨g, p + 10, none⟩ = some (W32 o.pat) :=
  ⟨key 0 _ rfl, key 1 _ rfl, key 2 _ rfl, key 3 _ rfl, key 4 _ rfl, key 5 _ rfl, key 6 _ rfl, key 7 _ rfl, key 8 _ rfl, key 9 _ rfl, key 10 _ rfl⟩
set_option maxRecDepth 100000 in
set_option maxHeartbeats 16000000 in
theorem NetPlays_walk (sv : Value) (ops : List Nop) (w : World) (hF : FtAt w) (hS : SlR Nop.R 11 w sv ops) (hlen : ops.length ≤ 1048576) (hdl : ∀ o ∈ ops, o.p.data.length ≤ 1048576) :
    Calls Tryd.prog 4 #[sv] w fun e w' => e = .returned (.bool true) ∧ Below w.heap.size w w' := by
  have HF := hid hF
  have hB : 0 < w.heap.size := World.block_lt_of_cell? w _ hF.c0
  have HS := hid hS
  have HDL := hid hdl
  obtain ⟨At, ct, rfl, htc⟩ : ∃ A c, sv = .slice A ops.length c ∧ ops.length ≤ c := by obtain ⟨A, c, _, e, h, _⟩ := hS; exact ⟨A, c, e, h⟩
  have H0 := hid (Fam.start w)
  clear hF hS hdl
  go_enter Tryd.func4, Tryd.ntmps4
  go_wp2_with fail
  refine (New_fam H0.out).mono ?_
  rintro e w1 ⟨d0, rfl, h1⟩
  have H1 := hid h1
  clear h1
  go_wp2_with fail
  refine (New_fam H1.out).mono ?_
  rintro e w2 ⟨d1, rfl, h2⟩
  have H2 := hid h2
  clear h2
  go_upto_region 2 with (fail)
  obtain ⟨g3, hg3⟩ : ∃ g3, w2.heap.size = g3 := ⟨_, rfl⟩
  refine Code.seen (fun W => Fam w.heap.size w W [netT d0 [], netT d1 [], arrT g3 43 d0 d1]) ?_ fun w3 H3 => ?_
  · have := H2.out.new (.cells #[.pointer (some ⟨d0, 0, none⟩), .pointer (some ⟨d1, 0, none⟩)] 43 (0, 0))
    rw [hg3] at this
    exact this
  rw [hg3]
  clear hg3
  go_wp2_with fail
  refine (rNew_fam H3.out).mono ?_
  rintro e w4 ⟨e0, rfl, h4⟩
  have H4 := hid h4
  clear h4
  go_wp2_with fail
  refine (rNew_fam H4.out).mono ?_
  rintro e w5 ⟨e1, rfl, h5⟩
  have H5 := hid h5
  clear h5
  go_upto_region 3 with (fail)
  obtain ⟨g4, hg4⟩ : ∃ g4, w5.heap.size = g4 := ⟨_, rfl⟩
  refine Code.seen (fun W => St w W g3 g4 0 ∧ W.heap[g3]? = some (.cells #[.pointer (some ⟨d0, 0, none⟩), .pointer (some ⟨d1, 0, none⟩)] 43 (0, 0))) ?_ fun w6 H6 => ?_
  · have := H5.out.new (.cells #[.pointer (some ⟨e0, 0, none⟩), .pointer (some ⟨e1, 0, none⟩)] 46 (0, 0))
    rw [hg4] at this
    exact ⟨⟨fun i => if i = 0 then d0 else d1, fun i => if i = 0 then e0 else e1, fun _ => [], fun _ _ p h => by simp at h, fun _ _ => Nat.le_refl _, this⟩, (this.blk (i := 2) rfl).1⟩
  rw [hg4]
  clear hg4
  obtain ⟨h6, hb3⟩ := H6.out
  replace H6 := hid h6
  clear h6
  have x0 : w6.cell? ⟨g3, 0, none⟩ = some (.pointer (some ⟨d0, 0, none⟩)) := by rw [blk_cell hb3]; rfl
  have x1 : w6.cell? ⟨g3, 1, none⟩ = some (.pointer (some ⟨d1, 0, none⟩)) := by rw [blk_cell hb3]; rfl
  clear hb3
  go_wp2
  clear x0 x1
  go_loopw [25] (fun x wr => ∃ k : Nat, k ≤ ops.length ∧ x = .int .i64 k ∧ St w wr g3 g4 k) (fun x _ => ops.length - (intOf x).toNat)
  case atStart => exact ⟨0, Nat.zero_le _, rfl, H6.out⟩
  case round =>
    obtain ⟨k, hk, rfl, hst⟩ := hrel
    obtain ⟨d, e, P, hsm, hln, hfam⟩ := hst
    have HSM := hid hsm
    have HLN := hid hln
    have HFM := hid hfam
    clear hsm hln hfam H6
    by_cases hlt : k < ops.length
    · obtain ⟨o, ho⟩ : ∃ o, ops[k]? = some o := ⟨_, List.getElem?_eq_getElem hlt⟩
      obtain ⟨bb, off, rfl⟩ : ∃ b off, At = some ⟨b, off, none⟩ := by
        obtain ⟨A', c', ys, e1, _, _, _, h4⟩ := HS.out
        injection e1 with e1
        obtain ⟨b, off, eA, _⟩ := h4 (by omega)
        exact ⟨b, off, e1.trans eA⟩
      obtain ⟨dv, hv, hn2, hnt, hc⟩ := nop_lies HS.out k o ho
      obtain ⟨Av, cv, rfl⟩ := hv.form
      have HV := hid hv
      have HN2 := hid hn2
      have HD := hid (HDL.out o (List.mem_of_getElem? ho))
      have HC : Hid (∀ j u, (o.cells (.slice Av o.p.data.length cv))[j]? = some u → wr.cell? ⟨bb, off + k * 11 + j, none⟩ = some u) := hid fun j u hj => by
        have h1 := hc j u hj
        rw [HFM.out.base.cell (World.block_lt_of_cell? w _ h1)]
        exact h1
      obtain ⟨c0, c1, c2, c3, c4, c5, c6, c7, c8, c9, c10⟩ := nop_off HC.out
      clear hv hn2 hc ho
      have i0 : (0 : Int) ≤ (k : Int) := by omega
      have i1 : (k : Int) < (ops.length : Int) := by omega
      go_upto_region 8 with (fail)
      clear c0 c1 c2 c3 c4 c5 c6 c7 c8 c9 c10 HC
      obtain ⟨g6, hg6⟩ : ∃ g6, wr.heap.size = g6 := ⟨_, rfl⟩
      refine Code.seen (fun W => Fam w.heap.size w W (six g3 g4 d e P P ++ [opT g6 o (.slice Av o.p.data.length cv)])) ?_ fun wa HA => ?_
      · have := HFM.out.new (.cells (o.cells (.slice Av o.p.data.length cv)) 49 (0, 0))
        rw [hg6] at this
        exact this
      rw [hg6]
      clear hg6
      obtain ⟨q, i, hq1, hq2, hq3, hq4, hi⟩ := pick_at o.net 2 (by omega)
      have hq5 : (o.net.tmod 2) = q := hq1
      obtain ⟨⟨p0, p1⟩, c0, c1, c2, c3, c4, c5, c6, c7, c8, c9, c10⟩ := six_o3 hi HA.out
      go_upto_region 9 with (fail)
      have hq6 : (q + 2) % 2 = (i : Int) := by simpa using hq4
      rw [hq6]
      clear hq1 hq2 hq3 hq4 hq5 hq6 hnt
      have j0 : (0 : Int) ≤ (i : Int) := by omega
      have j1 : (i : Int) < 2 := by omega
      have hln1 : ops.length ≤ 1048576 := hlen
      by_cases hk8 : o.kind = 8
      · have h8 : (o.kind == 8) = true := by simp [hk8]
        obtain ⟨i', hi', hii⟩ : ∃ i' : Nat, i' < 2 ∧ (1 : Int) - (i : Int) = (i' : Int) := ⟨1 - i, by omega, by omega⟩
        have j2 : (0 : Int) ≤ (i' : Int) := by omega
        have j3 : (i' : Int) < 2 := by omega
        clear c1 c2 c3 c4 c5 c6 c7 c8 c9 c10
        go_upto_region 10 with (fail)
        clear c0
        have HA6 := hid HA.out.back
        go_wp2_with fail
        refine (Copy_fam HA6.out (HSM.out i hi) (by have := HLN.out i hi; omega) (six_net hi)).mono ?_
        rintro e2 wb ⟨d', rfl, hfb⟩
        have hfrb := (six_frozen (k := i') hfb).1
        have hceb := (six_cells hi' hfb).1
        have h7 := six_put hi' hfb
        have H7 := hid h7
        clear hfb h7 p0 p1
        go_upto_region 11 with (fail)
        clear hfrb hceb
        generalize wb.setCell ⟨g3, i', none⟩ (.pointer (some ⟨d', 0, none⟩)) = w7 at *
        obtain ⟨p0, p1⟩ := six_cells hi (L := []) (by rw [List.append_nil]; exact H7.out)
        go_wp2_with fail
        refine (rCopy_fam H7.out (HSM.out i hi) (by have := HLN.out i hi; omega) (six_ref hi)).mono ?_
        rintro e2 wb ⟨e', rfl, hfb⟩
        have hfrb := (six_frozen (k := i') hfb).2
        have hceb := (six_cells hi' hfb).2
        have h8' := six_putr hi' hfb
        have H8 := hid h8'
        clear hfb h8' p0 p1
        go_wp2
        go_roundw
        case rel => exact ⟨k + 1, by omega, by go_num, _, _, _, fun j hj => by unfold up; split; exact HSM.out i hi; exact HSM.out j hj, fun j hj => by have h1 := HLN.out i hi; have h2 := HLN.out j hj; unfold up; split <;> omega, H8.out⟩
        case measure => simp [intOf]; omega
      · have h8 : (o.kind == 8) = false := by simp [hk8]
        go_upto_region 12 with (fail)
        have HAd := hid (HA.out.below (drew_below wa))
        have HVa := hid (HV.out.below HA.out.base)
        go_region_held3 (fun W => (W.cell? ⟨g3, i, none⟩ = some (.pointer (some ⟨d i, 0, none⟩)) ∧ W.cell? ⟨g4, i, none⟩ = some (.pointer (some ⟨e i, 0, none⟩))) ∧ (W.cell? ⟨g6, 0, none⟩ = some (.int .i64 o.kind) ∧ W.cell? ⟨g6, 1, none⟩ = some (.int .i64 o.net) ∧ W.cell? ⟨g6, 2, none⟩ = some (.int .i64 o.p.fk) ∧ W.cell? ⟨g6, 3, none⟩ = some (.int .i64 o.p.fi) ∧ W.cell? ⟨g6, 4, none⟩ = some (.int .i64 o.p.tk) ∧ W.cell? ⟨g6, 5, none⟩ = some (.int .i64 o.p.ti) ∧ W.cell? ⟨g6, 6, none⟩ = some (.slice Av o.p.data.length cv) ∧ W.cell? ⟨g6, 7, none⟩ = some (.bool o.p.lost) ∧ W.cell? ⟨g6, 8, none⟩ = some (.int .i64 o.i) ∧ W.cell? ⟨g6, 9, none⟩ = some (.int .i64 o.n) ∧ W.cell? ⟨g6, 10, none⟩ = some (W32 o.pat)))
          (first | with_reducible assumption | with_reducible exact six_o3 hi HA.out | with_reducible exact six_o3 hi HAd.out | with_reducible exact six_o3 hi HB.out | with_reducible exact six_o3 hi HBd.out | with_reducible exact six_o3 hi HBC.out)
          (first
            | (go_at_call 16; (with_reducible refine Calls.mono (plays_atk w wa.drew g3 g4 g6 d e P i k hi o (.slice Av o.p.data.length cv) HAd.out HF.out hB HSM.out HLN.out (by omega) HV.out HD.out HN2.out) ?_); rintro e2 wb ⟨rfl, P2, hs2, hl2, hf2⟩; have HB := hid hf2; have HBd := hid (hf2.below (drew_below wb)); have HS2 := hid hs2; have HL2 := hid hl2; clear hs2 hl2 hf2)
            | (go_at_call 16; (with_reducible refine Calls.mono (nil_atk wb o (.slice Av o.p.data.length cv) (HV.out.below HB.out.base) HD.out) ?_); rintro e2 wc ⟨rfl, hbc⟩; have HBC := hid (HB.out.below hbc); clear hbc))
        all_goals go_wp2
        go_roundw
        case rel => exact ⟨k + 1, by omega, by go_num, _, _, _, HS2.out, HL2.out, HBC.out.back⟩
        case measure => simp [intOf]; omega
    · have hge : ops.length ≤ k := by omega
      go_wp2
      go_loopw [66] (fun x wx => ∃ i : Nat, i ≤ 2 ∧ x = .int .i64 i ∧ Fam w.heap.size w wx (six g3 g4 d e P P)) (fun x _ => 2 - (intOf x).toNat)
      case atStart => exact ⟨0, by omega, rfl, HFM.out⟩
      case round =>
        clear HFM
        obtain ⟨i, hi2, rfl, hfam⟩ := hrel
        have HFM := hid hfam
        clear hfam
        by_cases hlt2 : i < 2
        · have hi := hlt2
          have j0 : (0 : Int) ≤ (i : Int) := by omega
          have j1 : (i : Int) < 2 := by omega
          have hbq : ((P i).length == (P i).length) = true := by simp
          have hpl : (P i).length ≤ 1099511627776 := by have := HLN.out i hi; omega
          have HP2 : Hid (∀ W, Fam w.heap.size w W (six g3 g4 d e P P) → W.cell? ⟨g3, i, none⟩ = some (.pointer (some ⟨d i, 0, none⟩)) ∧ W.cell? ⟨g4, i, none⟩ = some (.pointer (some ⟨e i, 0, none⟩))) := hid fun W h => six_cells hi (L := []) (by rw [List.append_nil]; exact h)
          go_upto_region 18 with (fail)
          have HFd := hid (HFM.out.below (drew_below wr))
          have HC0 := hid (HP2.out wr HFM.out)
          have HCd := hid (HP2.out wr.drew HFd.out)
          go_region_held3 (fun W => W.cell? ⟨g3, i, none⟩ = some (.pointer (some ⟨d i, 0, none⟩)) ∧ W.cell? ⟨g4, i, none⟩ = some (.pointer (some ⟨e i, 0, none⟩)))
            (first | with_reducible assumption | with_reducible exact HC0.out | with_reducible exact HCd.out | with_reducible exact HP2.out _ HFf.out | with_reducible exact HP2.out _ HFg.out | with_reducible exact HP2.out _ HFh.out)
            (first
              | (go_at_call 10; (with_reducible refine Calls.mono (Len_fam HFd.out (HSM.out i hi) hpl (six_net hi)) ?_); rintro e2 wy ⟨rfl, rfl⟩)
              | (go_at_call 17; (with_reducible refine Calls.mono (rLen_fam HFd.out (HSM.out i hi) hpl (six_ref hi)) ?_); rintro e2 wy ⟨rfl, rfl⟩)
              | (go_at_call 19; (with_reducible refine Calls.mono (Flight_fam HFd.out (HSM.out i hi) hpl (six_net hi)) ?_); rintro e2 wf ⟨v1, rfl, hv1, hbf⟩; have HFf := hid (HFd.out.below hbf); have HV1 := hid hv1; clear hv1 hbf)
              | (go_at_call 20; (with_reducible refine Calls.mono (rFlight_fam HFf.out (HSM.out i hi) hpl (six_ref hi)) ?_); rintro e2 wg ⟨v2, rfl, hv2, hbg⟩; have HFg := hid (HFf.out.below hbg); have HV2 := hid hv2; have HV1g := hid (HV1.out.below hbg); clear hv2 hbg)
              | (go_at_call 18; (with_reducible refine Calls.mono (same_yes (P i) v1 v2 wg HV1g.out HV2.out hpl) ?_); rintro e2 wh ⟨rfl, hbh⟩; have HFh := hid (HFg.out.below hbh); clear hbh))
          all_goals go_wp2
          go_roundw
          case rel => exact ⟨i + 1, by omega, by go_num, HFh.out⟩
          case measure => simp [intOf]; omega
        · have hge2 : 2 ≤ i := by omega
          have j1 : ¬ ((i : Int) < 2) := by omega
          go_wp2_with fail
          refine (taken_any _ (HF.out.below hB HFM.out.base)).mono ?_
          rintro e2 wz ⟨rfl, hbz⟩
          have HZ := hid (HFM.out.below hbz)
          go_wp2
          go_ret
          exact ⟨rfl, HZ.out.base⟩
end Go.Proofs.YtahpkknbejgnkaaDoor
