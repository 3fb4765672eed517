/- The walk of the law PackOne. -/
import Derived.Test.YtamhlfhblgmhoaaPackOneC
namespace Go.Proofs.Ytamhlfhblgmhoaa
open Go.RowKit
set_option maxHeartbeats 1000000 in
theorem same_any (u v : Value) (k l : List UInt8) (w : World) (hu : SlB w u k) (hv : SlB w v l) :
    Calls Try.prog 20 #[u, v] w fun e w' => e = .returned (.bool (decide (k = l))) ∧ w' = w := by
  have k1 := conv_str hu
  have k2 := conv_str hv
  have hd : ((str k).toList == (str l).toList) = decide (k = l) := by
    rw [str_toList, str_toList, Bool.eq_iff_iff, beq_iff_eq, decide_eq_true_iff]
  obtain ⟨A, c, rfl⟩ := hu.form
  obtain ⟨A2, c2, rfl⟩ := hv.form
  clear hu hv
  go_enter Try.func20, Try.ntmps20
  go_wp2
  go_ret
  exact ⟨rfl, rfl⟩
set_option maxRecDepth 100000 in
set_option maxHeartbeats 4000000 in
theorem PackOne_walk (v kv : Value) (l : List UInt8) (ks : List Int) (hl : l.length ≤ 1048576) (hks : ks.length ≤ 1048576) (w : World) (hv : SlB w v l) (hk : Sl w kv ks.length (fun i => .int .i64 (ks.getD i 0))) :
    Calls Try.prog 5 #[v, kv] w fun e w' => e = .returned (.bool true) ∧ Below w.heap.size w w' := by
  have HV := hid hv
  have HK := hid hk
  obtain ⟨A, c, rfl⟩ := hv.form
  obtain ⟨Ak, ck, rfl, hkc⟩ : ∃ A c, kv = .slice A ks.length c ∧ ks.length ≤ c := by obtain ⟨A, c, e, h, _⟩ := hk; exact ⟨A, c, e, h⟩
  clear hk
  clear hv
  have HL0 : Hid (OwnB (w.alloc (.cells (([172, 2] : List UInt8).map B).toArray 5)) w.heap.size (.slice (some ⟨w.heap.size, 0, none⟩) 2 2) [172, 2]) := hid (by
    rcases litB w [172, 2] with h | h
    · exact h
    · exact absurd h (by simp [maxLen]))
  have HB0 := hid ((Below.refl w.heap.size w).alloc (Nat.le_refl _) (.cells (([172, 2] : List UInt8).map B).toArray 5))
  go_enter Try.func5, Try.ntmps5
  go_wp2_with (at_builtin; refine wpList_appB rfl (.tmp 11) (.tmp 12) rfl w.heap.size _ _ [172, 2] l rfl rfl (by exact HL0.out) (HV.out.below HB0.out) (by simp only [List.length_cons, List.length_nil]; omega) (by simp) ?_; intro v1 w1 ho1 hg1; have HB1 := hid (OwnB.grown HB0.out HL0.out (Nat.le_refl _) (by simp) hg1); obtain ⟨d, hd⟩ : ∃ d, d = [172, 2] ++ l := ⟨_, rfl⟩; rw [← hd] at ho1; have HD := hid hd; have hdl : d.length = l.length + 2 := (by rw [hd, List.length_append]; simp only [List.length_cons, List.length_nil]; omega); have hdl1 : d.length ≤ 1048578 := (by omega); have hdl2 : 2 ≤ d.length := (by omega); clear hd hdl; have HO1 := hid ho1; obtain ⟨ba, ca, rfl, hba, hca, hcm⟩ := ho1.some_ (by omega); clear ho1 hg1)
  have HSD := hid HO1.out.sl
  have hd2 : d.length ≤ 2097152 := by omega
  refine (NewReader_any _ d w1 HSD.out (by omega)).mono ?_
  rintro r w2 ⟨gr, dv, rfl, hr, hgr, hdv, hb2, hg2⟩
  have HR := hid hr
  have HX := hid (And.intro hgr (And.intro hdv (And.intro hb2 hg2)))
  clear hr hgr hdv hb2 hg2
  go_wp2_with fail
  refine (NewWriter_any w2).mono ?_
  rintro r w3 ⟨rfl, hw3, hb3, hs3⟩
  have H3 : Hid (One w1 w2.heap.size gr w2.heap.size dv d 0 0 w3) := hid ⟨(HX.out.2.2.1).trans (hb3.mono HX.out.2.2.1.size), HR.out.below hb3, ⟨_, hw3, fun b hb => by simp [Value.ownBlock] at hb⟩, HX.out.1, HX.out.2.2.2, fun b hb => (World.ownsRow.lt HR.out.own b hb).2, Nat.le_refl _, by omega⟩
  clear hw3 hb3 hs3 HR HX
  go_wp2_with fail
  refine (copy_1 w3 hd2 H3.out).mono ?_
  rintro r w4 ⟨rfl, h4⟩
  have e4 : Pk.num 9223372036854775807 0 0 (d.drop 0) = (300, 2, 0) := by rw [HD.out]; simp [Pk.num]
  rw [e4] at h4
  have H4 : Hid (One w1 w2.heap.size gr w2.heap.size dv d 0 2 w4) := hid h4
  clear h4 e4 H3
  go_wp2_with fail
  refine (rErr_any gr 0 dv d 2 w4 H4.out.r).mono ?_
  rintro r w5 ⟨rfl, rfl⟩
  go_wp2_with fail
  refine (rAt_any gr 0 dv d 2 _ H4.out.r).mono ?_
  rintro r w5 ⟨rfl, rfl⟩
  go_wp2
  obtain ⟨Bw, hBw⟩ : ∃ x, x = w2.heap.size := ⟨_, rfl⟩
  simp only [← hBw] at H4 ⊢
  have HBW := hid hBw
  clear hBw
  go_loopw [8] (fun i wr => ∃ (j k : Nat) (e : Int), j ≤ ks.length ∧ i = .int .i64 j ∧ 2 ≤ k ∧ One w1 Bw gr Bw dv d e k wr) (fun i _ => ks.length - (intOf i).toNat)
  case atStart => exact ⟨0, 2, 0, Nat.zero_le _, rfl, Nat.le_refl _, H4.out⟩
  case round =>
    clear H4
    obtain ⟨j, k, e, hj, rfl, hk2, ho⟩ := hrel
    have HO := hid ho
    clear ho
    have HBB := hid (HB1.out.trans (HO.out.b.mono HB1.out.size))
    by_cases hlt : j < ks.length
    · obtain ⟨A', c', e1, _, _, hA⟩ := HK.out.below HBB.out
      injection e1 with e1 e2 e3
      subst e1 e3
      clear e2
      obtain ⟨bk, off, rfl, hcell⟩ := hA (by omega)
      replace hcell : wr.cell? ⟨bk, off + j, none⟩ = some (.int .i64 (ks.getD j 0)) := hcell j hlt
      clear hA
      generalize ks.getD j 0 = K at *
      go_wp2_with fail
      refine (copy_any e K wr hd2 HO.out).mono ?_
      rintro r wa ⟨rfl, e', k', h', hkk⟩
      have HO' := hid h'
      have hk3 : 2 ≤ k' := by omega
      have hk4 : k' ≤ d.length := h'.r.le
      have hk5 : k' ≤ ca := by omega
      clear h' hcell hkk HO
      go_wp2_with fail
      refine (rAt_any gr e' dv d k' wa HO'.out.r).mono ?_
      rintro r w6 ⟨rfl, rfl⟩
      go_wp2_with fail
      refine (rAt_any gr e' dv d k' _ HO'.out.r).mono ?_
      rintro r w6 ⟨rfl, rfl⟩
      obtain ⟨wv, hw, hwv⟩ := HO'.out.wt
      have HW := hid hw
      clear hw hwv
      have HTL := hid (show (d.take k').length = k' by rw [List.length_take]; omega)
      go_wp2_with fail
      refine (Data_ok Bw wv (d.take k') _ HW.out (by rw [HTL.out]; omega)).mono ?_
      rintro r w7 ⟨A7, c7, rfl, ho7, hb7⟩
      have HO7 := hid ho7
      have H7 := hid (HO'.out.below hb7)
      rw [HTL.out] at HO7 ⊢
      clear ho7 hb7 HO' HW
      go_wp2_with fail
      refine (rAt_any gr e' dv d k' _ H7.out.r).mono ?_
      rintro r w8 ⟨rfl, rfl⟩
      go_wp2_with fail
      have HSA := hid ((HSD.out.below H7.out.b).take_ k' hk4 hk5)
      refine (same_any _ _ (d.take k') (d.take k') _ HO7.out.sl HSA.out).mono ?_
      rintro r w8 ⟨rfl, rfl⟩
      go_wp2
      go_roundw
      case rel => exact ⟨j + 1, k', e', by omega, by go_num, hk3, H7.out⟩
      case measure => simp [intOf]; omega
    · go_wp2_with fail
      refine (rAt_any gr e dv d k wr HO.out.r).mono ?_
      rintro r w6 ⟨rfl, rfl⟩
      go_wp2_with fail
      refine (rErr_any gr e dv d k _ HO.out.r).mono ?_
      rintro r w6 ⟨rfl, rfl⟩
      by_cases he : e = 0
      · subst he
        have hkl := HO.out.r.le
        by_cases hkd : k = d.length
        · go_wp2_with fail
          refine (rEnd_ok gr dv d k _ hkd HO.out.r).mono ?_
          rintro r w6 ⟨rfl, hL⟩
          have HL := hid hL
          have HBE := hid (HB1.out.trans ((HO.out.b.trans (hL.2.to_below (fun j hj e => by have := HO.out.h1; omega) HO.out.b.size)).mono HB1.out.size))
          clear hL
          have hkd2 := hid hkd
          subst hkd
          go_wp2_with fail
          refine (rErr_any gr 0 dv d _ _ HL.out.1).mono ?_
          rintro r w7 ⟨rfl, rfl⟩
          go_wp2_with fail
          refine (rAt_any gr 0 dv d _ _ HL.out.1).mono ?_
          rintro r w7 ⟨rfl, rfl⟩
          go_wp2
          go_ret
          exact ⟨rfl, HBE.out⟩
        · have hkd3 : k < d.length := by omega
          have hkd4 : ((k : Int) == (d.length : Int)) = false := by rw [beq_eq_false_iff_ne]; omega
          go_wp2_with fail
          refine (rEnd_rest gr dv d k _ hkd3 HO.out.r).mono ?_
          rintro r w6 ⟨rfl, hL⟩
          have HL := hid hL
          have HBE := hid (HB1.out.trans ((HO.out.b.trans (hL.2.to_below (fun j hj e => by have := HO.out.h1; omega) HO.out.b.size)).mono HB1.out.size))
          clear hL
          go_wp2_with fail
          refine (rErr_any gr 35 dv d _ _ HL.out.1).mono ?_
          rintro r w7 ⟨rfl, rfl⟩
          go_wp2_with fail
          refine (rAt_any gr 35 dv d _ _ HL.out.1).mono ?_
          rintro r w7 ⟨rfl, rfl⟩
          go_wp2
          go_ret
          exact ⟨rfl, HBE.out⟩
      · have hq : (e != 0) = true := by rw [bne_iff_ne]; exact he
        have HE := hid he
        clear he
        go_wp2_with fail
        refine (rEnd_no gr e dv d k _ HE.out HO.out.r).mono ?_
        rintro r w6 ⟨rfl, hL⟩
        have HL := hid hL
        have HBE := hid (HB1.out.trans ((HO.out.b.trans (hL.2.to_below (fun j hj e => by have := HO.out.h1; omega) HO.out.b.size)).mono HB1.out.size))
        clear hL
        go_wp2_with fail
        refine (rErr_any gr e dv d _ _ HL.out.1).mono ?_
        rintro r w7 ⟨rfl, rfl⟩
        go_wp2_with fail
        refine (rAt_any gr e dv d _ _ HL.out.1).mono ?_
        rintro r w7 ⟨rfl, rfl⟩
        go_wp2_with fail
        refine (rByte_no gr e dv d _ _ HE.out HL.out.1).mono ?_
        rintro r w7 ⟨rfl, rfl⟩
        go_wp2_with fail
        refine (rUint_no gr e dv d _ _ _ HE.out HL.out.1).mono ?_
        rintro r w7 ⟨rfl, rfl⟩
        go_wp2
        go_ret
        exact ⟨rfl, HBE.out⟩
end Go.Proofs.Ytamhlfhblgmhoaa
