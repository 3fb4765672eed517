/- The walk of the law CodeTells. -/
import Derived.Test.YtkklonldplekcaaCodeTellsC
namespace Go.Proofs.Ytkklonldplekcaa
open Go.RowKit
set_option maxRecDepth 100000 in
set_option maxHeartbeats 16000000 in
theorem CodeTells_walk (W : World) (a b : Int) (ha : -9223372036854775808 ≤ a ∧ a ≤ 9223372036854775807) (hb : -9223372036854775808 ≤ b ∧ b ≤ 9223372036854775807) (vr vp vb : Value) (ll : List (List UInt8)) (hr : SlBB W vr ll) (pk : List Int) (hp : SlI W vp pk) (hpk : ∀ x ∈ pk, -9223372036854775808 ≤ x ∧ x ≤ 9223372036854775807) (Xb : List UInt8) (hx : SlB W vb Xb) (wrong : Int) (hw : -9223372036854775808 ≤ wrong ∧ wrong ≤ 9223372036854775807) :
    Calls Try.prog 11 #[.agg #[.int .i64 a, .int .i64 b, vr, vp, vb], .int .i64 wrong] W fun e w' => e = .returned (.bool true) ∧ Below W.heap.size W w' := by
  have HR := hid hr
  have HA := hid ha
  have HB := hid hb
  have HP := hid hp
  have HPK := hid hpk
  have HX := hid hx
  have HW := hid hw
  clear hr ha hb hp hpk hx hw
  go_enter Try.func11, Try.ntmps11
  go_wp2_with fail
  refine Calls.seen (fun V => Below W.heap.size W V ∧ V.heap[W.heap.size]? = some (.cells #[.int .i64 a, .int .i64 b, vr, vp, vb] 55 (0, 0))) ⟨(Below.refl _ _).alloc (Nat.le_refl _) _, heap_alloc_new _ _⟩ fun w0 H0 => ?_
  refine (madeC_any w0 a b HA.out HB.out vr vp vb ll (HR.out.below H0.out.1)).mono ?_
  rintro e w1 ⟨n, k, s, c, G, D, A, cp, rfl, hn24, hs40, hc, hg, hd, hdl, hds, hb1⟩
  have HC := hid hc
  have HGN := hid hg
  have HD := hid hd
  have HDL := hid hdl
  have HDS := hid hds
  have HB1 := hid hb1
  have hk1 := hc.k1
  have hkn := hc.kn
  have CP := hid (Encode_any w1 c n k G hc _ D hd s (fun i hi => hds i (by omega)) hdl (by omega))
  clear hc hg hd hdl hds hb1
  go_wp2_with fail
  refine CP.out.mono ?_
  rintro e w3 ⟨Ae, ce, rfl, ht⟩
  have HEL : Hid ((enc G D s).length = n) := hid (by rw [enc_length, HC.out.len])
  have HE3 := hid (ToldN.slB_ ht HEL.out)
  have HB3 := hid (below_then HB1.out ht.base)
  have HC3 := hid (HC.out.below ht.base)
  have HD3 := hid (HD.out.below ht.base)
  clear ht CP HC HD HB1
  obtain ⟨Ap, qp, rfl⟩ := HP.out.form
  obtain ⟨Ab, qb, rfl⟩ := HX.out.form
  have HBW := hid (below_then H0.out.1 HB3.out)
  have q3 : w3.cell? ⟨W.heap.size, 3, none⟩ = some (.slice Ap pk.length qp) := (HB3.out.cell (p := ⟨W.heap.size, 3, none⟩) (blk_lt H0.out.2)).trans (by rw [blk_cell H0.out.2]; rfl)
  go_upto_region 7 with (go_at_call 39; (with_reducible refine (N_any w3 c n k G HC3.out).mono ?_); rintro e wz ⟨rfl, hwz⟩; have hwz := hwz.symm; subst hwz)
  have HCd := hid (HC3.out.below (Below.refl w3.heap.size w3).drew)
  have HOC := hid (order_any w3.drew n (by omega) (by omega) _ pk (HP.out.below (below_then HBW.out (Below.refl w3.heap.size w3).drew)) HPK.out)
  have HS0 := hid (show w3.drew.cell? ⟨W.heap.size, 3, none⟩ = some (.slice Ap pk.length qp) from q3)
  go_region_held3 (fun V => V.cell? ⟨W.heap.size, 3, none⟩ = some (.slice Ap pk.length qp))
    (first | with_reducible exact HS0.out | with_reducible exact HS4.out)
    (first
      | (go_at_call 39; (with_reducible refine (N_any w3.drew c n k G HCd.out).mono ?_); rintro e wz ⟨rfl, hwz⟩; have hwz := hwz.symm; subst hwz)
      | (go_at_call 45; (with_reducible refine HOC.out.mono ?_); rintro e w4 ⟨f, g, cg, rfl, hord, hoa⟩; have HORD := hid hord; have HOA := hid hoa; have HB4 := hid (below_then ((Below.refl w3.heap.size w3).drew : Below w3.heap.size w3 w3.drew) hoa.2.2); have HS4 := hid (show w4.cell? ⟨W.heap.size, 3, none⟩ = some (.slice Ap pk.length qp) from (hoa.2.2.cell (World.block_lt_of_cell? w3.drew _ HS0.out)).trans HS0.out); clear hord hoa))
  all_goals
    have HE4 := hid (HE3.out.below HB4.out)
    have HC4 := hid (HC3.out.below HB4.out)
    have HD4 := hid (HD3.out.below HB4.out)
    have HBW4 := hid (below_then HBW.out HB4.out)
    have HBZ4 := hid (below_then HB3.out HB4.out)
    have CS := hid (some_any w4 _ (enc G D s) HE4.out n g cg f HEL.out HORD.out (fun i hi => (HOA.out.get i hi).1) (fun i hi => by rw [enc_get _ _ _ _ (by rw [HC4.out.len]; exact hi), comb_length]; omega) (by omega) n (Nat.le_refl _))
    clear q3 HD3 HE3 HC3 HB3 HOC HCd
    go_wp2_with (go_at_call 39; (with_reducible refine (N_any w4 c n k G HC4.out).mono ?_); rintro e wz ⟨rfl, hwz⟩; have hwz := hwz.symm; subst hwz)
    refine CS.out.mono ?_
    rintro e w5 ⟨vq, l, rfl, hl, hlf, hf⟩
    have HL := hid hl
    have HLF := hid hlf
    have HF := hid hf
    have HC5 := hid (HC4.out.below hf.base)
    have HD5 := hid (HD4.out.below hf.base)
    have CD := hid (Decode_good HC5.out HGN.out HDL.out HDS.out (by omega) HORD.out (Nat.le_refl _) hkn hl hlf (Fam.slP (ts := []) (by rw [List.append_nil]; exact hf) (by rw [someR_length]; exact hl)))
    have how : w5.ownsRow 0 74 2 vq (someR (enc G D s) f n).length (pc l) := (hf.own (i := 0) rfl).1
    rw [someR_length] at how
    obtain ⟨gq, cq, rfl, _⟩ : ∃ g cap, vq = .slice (some ⟨g, 0, none⟩) n cap ∧ True := by
      obtain ⟨_, ⟨_, e0⟩ | ⟨g, cap, cur, rfl, _⟩⟩ := how
      · omega
      · exact ⟨g, cap, rfl, trivial⟩
    clear hl hlf hf how CS
    go_wp2_with fail
    refine CD.out.mono ?_
    rintro e w6 ⟨y, rfl, ht⟩
    have HY := hid (ToldN.slB_ ht HDL.out)
    have HB6 := hid ht.base
    obtain ⟨Ay, cy, rfl⟩ := HY.out.form
    have HD6 := hid (HD5.out.below HB6.out)
    clear ht CD HD5
    go_wp2_with fail
    refine (same_yes w6 _ _ D HY.out HD6.out (by have := HDL.out; omega)).mono ?_
    rintro e w7 ⟨rfl, nn, rfl⟩
    have hbn := below_drewN (Below.refl w6.heap.size w6) nn
    have HB7 := hid (below_then HB6.out hbn)
    have HD7 := hid (HD6.out.below hbn)
    have HC7 := hid (HC5.out.below HB7.out)
    generalize w6.drewN nn = w7 at *
    have HF7 := hid (HF.out.below HB7.out)
    have HEND := hid (below_then HBW4.out HF7.out.base)
    clear hbn HY HD6 HC5 HB6
    obtain ⟨d, hd⟩ : ∃ d, n = k + d := ⟨n - k, by omega⟩
    have HKD := hid hd
    by_cases hd0 : d = 0
    · have hcast : (n : Int) - (k : Int) = 0 := by omega
      clear hd HKD
      go_wp2_with (first | (go_at_call 39; (with_reducible refine (N_any w7 c n k G HC7.out).mono ?_); rintro e wz ⟨rfl, hwz⟩; have hwz := hwz.symm; subst hwz) | (go_at_call 44; (with_reducible refine (K_any w7 c n k G HC7.out).mono ?_); rintro e wz ⟨rfl, hwz⟩; have hwz := hwz.symm; subst hwz))
      go_ret
      exact ⟨by simp, HEND.out⟩
    have hcast : (n : Int) - (k : Int) = (d : Int) := by omega
    have hdne : ((d : Int) == 0) = false := by rw [beq_eq_false_iff_ne]; omega
    have hd24 : d ≤ 24 := by omega
    clear hd
    obtain ⟨R, o, v0, rfl, r0', s0⟩ := HD4.out.at_ 0 (by rw [HDL.out]; omega)
    have r0 : w4.cell? ⟨R, o, none⟩ = some v0 := r0'
    obtain ⟨A0, q0, rfl⟩ := s0.form
    rw [HDS.out 0 (by omega)] at r0
    have HR0 := hid r0
    have r7 : w7.cell? ⟨R, o, none⟩ = some (.slice A0 s q0) := (HF7.out.base.cell (World.block_lt_of_cell? w4 _ r0)).trans r0
    clear r0' s0 r0
    have hk0i : (0 : Int) < (k : Int) := by omega
    by_cases hs0 : s = 0
    · subst hs0
      go_wp2_with (first | (go_at_call 39; (with_reducible refine (N_any w7 c n k G HC7.out).mono ?_); rintro e wz ⟨rfl, hwz⟩; have hwz := hwz.symm; subst hwz) | (go_at_call 44; (with_reducible refine (K_any w7 c n k G HC7.out).mono ?_); rintro e wz ⟨rfl, hwz⟩; have hwz := hwz.symm; subst hwz))
      go_ret
      exact ⟨by simp, HEND.out⟩
    have hsne : ((s : Int) == 0) = false := by rw [beq_eq_false_iff_ne]; omega
    go_wp2_with (first | (go_at_call 39; (with_reducible refine (N_any w7 c n k G HC7.out).mono ?_); rintro e wz ⟨rfl, hwz⟩; have hwz := hwz.symm; subst hwz) | (go_at_call 44; (with_reducible refine (K_any w7 c n k G HC7.out).mono ?_); rintro e wz ⟨rfl, hwz⟩; have hwz := hwz.symm; subst hwz))
    have hrow0 : ∀ i, i < n → (someR (enc G D s) f n).getD i [] = comb (G.getD (f i) []) D s := fun i hi => by rw [someR_get _ _ _ _ hi, enc_get _ _ _ _ (by rw [HC7.out.len]; exact HORD.out.1 i (by omega))]
    have HROW0 := hid hrow0
    have HM0 : Hid (∀ i, i < n → ((someR (enc G D s) f n).getD i []).length = s) := hid fun i hi => by rw [hrow0 i hi, comb_length]
    have q4 : w4.cell? ⟨W.heap.size, 4, none⟩ = some (.slice Ab Xb.length qb) := (HBZ4.out.cell (p := ⟨W.heap.size, 4, none⟩) (blk_lt H0.out.2)).trans (by rw [blk_cell H0.out.2]; rfl)
    have Q4 := hid q4
    have HX4 := hid (HX.out.below HBW4.out)
    obtain ⟨m, hm⟩ : ∃ m, md wrong d = m := ⟨_, rfl⟩
    have hmd : m < d := by rw [← hm]; exact md_lt _ _ (by omega)
    have HMOD := hid (fun w => mod_any wrong HW.out.1 HW.out.2 d (by omega) (by omega) w)
    rw [hm] at HMOD
    clear q4 hm hrow0
    clear hdne hsne
    go_loopw [13, 14, 15] (fun x _ _ wr => ∃ (j : Nat) (M : List (List UInt8)), j ≤ m + 1 ∧ x = .int .i64 j ∧ M.length = n ∧ (∀ i, i < n → (M.getD i []).length = s) ∧ (∀ i, j ≤ i → i < n → M.getD i [] = comb (G.getD (f i) []) D s) ∧ (0 < j → M.getD 0 [] ≠ comb (G.getD (f 0) []) D s) ∧ Fam w4.heap.size w4 wr (partsT (.slice (some ⟨gq, 0, none⟩) n cq) l M)) (fun x _ _ _ => m + 1 - (intOf x).toNat)
    case atStart => exact ⟨0, _, Nat.zero_le _, rfl, someR_length _ _ _, HM0.out, fun i _ hi => HROW0.out i hi, fun h => absurd h (by omega), HF7.out⟩
    case round =>
      clear HM0 HROW0
      obtain ⟨j, M, hj, rfl, hM, hMs, hun, hne, hf⟩ := hrel
      have HF := hid hf
      have HM := hid hM
      have HMS := hid hMs
      have HUN := hid hun
      have HNE := hid hne
      have q4 : wr.cell? ⟨W.heap.size, 4, none⟩ = some (.slice Ab Xb.length qb) := (hf.base.cell (World.block_lt_of_cell? w4 _ Q4.out)).trans Q4.out
      have i0 : (0 : Int) ≤ (j : Int) := by omega
      clear hM hMs hun hne
      by_cases hlt : j ≤ m
      · have i1 : (j : Int) ≤ (m : Int) := by omega
        have hjn : j < n := by have := HKD.out; omega
        have i2 : (j : Int) < (n : Int) := by omega
        obtain ⟨c0, c1⟩ := hf.partCells HM.out.symm (by rw [HL.out, HM.out]) j hjn
        have hrow : OwnB wr 0 (l.getD j (0, .slice none 0 0)).2 (M.getD j []) := Fam.partRow (ts := []) (by rw [List.append_nil]; exact hf) (by rw [HL.out, HM.out]) j (by rw [HM.out]; exact hjn)
        obtain ⟨g1, cl, hul, -, -, -⟩ := hrow.some_ (by rw [HMS.out j hjn]; omega)
        have HUL := hid hul
        rw [hul] at c1 hrow
        rw [HMS.out j hjn] at c1
        have HROW := hid hrow
        have hsp : 0 < s := by omega
        clear hf hul hrow c0
        by_cases hx : j < Xb.length
        · obtain ⟨RX, oX, rfl, hby⟩ := (HX4.out.below HF.out.base).cells (by omega)
          have x0 := hby j hx
          obtain ⟨b, hb⟩ : ∃ b, Xb.getD j 0 = b := ⟨_, rfl⟩
          rw [hb] at x0
          have i3 : (j : Int) < (Xb.length : Int) := by omega
          have r1 : wr.cell? ⟨R, o, none⟩ = some (.slice A0 s q0) := (HF.out.base.cell (World.block_lt_of_cell? w4 _ HR0.out)).trans HR0.out
          have w1 : wrap64 (b.toNat : Int) = (b.toNat : Int) := by have := UInt8.toNat_lt b; unfold wrap64; omega
          have e1 : (wrap64 (b.toNat : Int)).tmod (s : Int) = ((b.toNat % s : Nat) : Int) := by rw [w1, Int.tmod_eq_emod_of_nonneg (by omega)]; omega
          clear w1
          have n1 : ((s : Int) == 0) = false := by rw [beq_eq_false_iff_ne]; omega
          have n2 : ((s : Int) == -1) = false := by rw [beq_eq_false_iff_ne]; omega
          have e2 := or1 b
          have ht0 := or1_ne b
          obtain ⟨p, hp⟩ : ∃ p, b.toNat % s = p := ⟨_, rfl⟩
          have hps : p < s := by rw [← hp]; exact Nat.mod_lt _ hsp
          rw [hp] at e1
          obtain ⟨tn, htn⟩ : ∃ tn, b ||| 1 = tn := ⟨_, rfl⟩
          rw [htn] at e2 ht0
          have HT0 := hid ht0
          clear hby hb hp htn ht0
          go_upto_region 21 with (go_at_call 50; refine (HMOD.out wr).mono ?_; rintro e wz ⟨rfl, hwz⟩; have hwz := hwz.symm; subst hwz)
          go_quiet (fail)
          have hbq := below_drewN (Below.refl wr.heap.size wr) nq
          have HF1 := hid (HF.out.below hbq)
          have HROW1 := hid (HROW.out.below hbq)
          have c2 := (hbq.cell (World.block_lt_of_cell? wr _ c1)).trans c1
          have q5 := (hbq.cell (World.block_lt_of_cell? wr _ q4)).trans q4
          have x2 := (hbq.cell (World.block_lt_of_cell? wr _ x0)).trans x0
          clear c1 q4 x0 r1 HF HROW
          generalize wr.drewN nq = wx at *
          obtain ⟨z0, f0⟩ := HROW1.out.at_ p (by rw [HMS.out j hjn]; exact hps)
          have HS := hid (tell_step HM.out hjn HMS.out hps HT0.out HUN.out HNE.out)
          have R1' := hid ((HF1.out.below (Below.refl wx.heap.size wx).drew).partByte (by rw [HL.out, HM.out]) (i := j) (by rw [HM.out]; exact hjn) HUL.out p ((M.getD j []).getD p 0 ^^^ tn))
          generalize (M.getD j []).getD p 0 = zb at z0 HS R1'
          have z1 : wx.cell? ⟨g1, p, none⟩ = some (.int .u8 (zb.toNat : Int)) := z0
          have e3 := xor8 zb tn
          have i5 : (0 : Int) ≤ (p : Int) := by omega
          have i6 : (p : Int) < (s : Int) := by omega
          clear hbq z0 e1
          go_upto_region 23 with (fail)
          go_still_tail 17, (by kernel_rfl)
          change wpList _ _ _ _ _ wx.drew
          have z2 : wx.drew.cell? ⟨g1, p, none⟩ = some (.int .u8 (zb.toNat : Int)) := z1
          have f2 : wx.drew.frozen? ⟨g1, p, none⟩ = false := f0
          clear c2 q5 x2 z1 f0
          go_wp2
          go_roundw
          case rel => exact ⟨j + 1, _, by omega, by go_num, HS.out.1, HS.out.2.1, HS.out.2.2.1, HS.out.2.2.2, R1'.out⟩
          case measure => simp [intOf]; omega
        · have i3 : ¬ (j : Int) < (Xb.length : Int) := by omega
          go_upto_region 23 with (go_at_call 50; refine (HMOD.out wr).mono ?_; rintro e wz ⟨rfl, hwz⟩; have hwz := hwz.symm; subst hwz)
          obtain ⟨z0, f0⟩ := HROW.out.at_ 0 (by rw [HMS.out j hjn]; exact hsp)
          have HS := hid (tell_step (t := 1) HM.out hjn HMS.out hsp (by decide) HUN.out HNE.out)
          have R1' := hid ((HF.out.below (Below.refl wr.heap.size wr).drew).partByte (by rw [HL.out, HM.out]) (i := j) (by rw [HM.out]; exact hjn) HUL.out 0 ((M.getD j []).getD 0 0 ^^^ 1))
          generalize (M.getD j []).getD 0 0 = zb at z0 HS R1'
          have z1 : wr.cell? ⟨g1, 0, none⟩ = some (.int .u8 (zb.toNat : Int)) := z0
          have e3 : bits .xor .u8 (zb.toNat : Int) 1 = ((zb ^^^ 1).toNat : Int) := xor8 zb 1
          have i6 : (0 : Int) < (s : Int) := by omega
          clear z0
          go_still_tail 17, (by kernel_rfl)
          change wpList _ _ _ _ _ wr.drew
          have z2 : wr.drew.cell? ⟨g1, 0, none⟩ = some (.int .u8 (zb.toNat : Int)) := z1
          have f2 : wr.drew.frozen? ⟨g1, 0, none⟩ = false := f0
          clear c1 q4 z1 f0
          go_wp2
          go_roundw
          case rel => exact ⟨j + 1, _, by omega, by go_num, HS.out.1, HS.out.2.1, HS.out.2.2.1, HS.out.2.2.2, R1'.out⟩
          case measure => simp [intOf]; omega
      · have i1 : ¬ (j : Int) ≤ (m : Int) := by omega
        have HGP := hid (good_parts HORD.out (Nat.le_refl _) HL.out HLF.out M HM.out HMS.out)
        have hlenps : (psOf l M).length = n := HGP.out.2.2.2.1
        have CD := hid (Decode_any wr c n k G (HC4.out.below hf.base) HGN.out _ (psOf l M) (Fam.slP (ts := []) (by rw [List.append_nil]; exact hf) (by rw [HL.out, HM.out])) (by rw [hlenps]; omega) (fun i hi => by rw [(HGP.out.2.2.2.2 i (by omega)).2]; show (M.getD i []).length ≤ _; rw [HMS.out i (by omega)]; omega))
        clear hf q4
        go_wp2_with (go_at_call 50; refine (HMOD.out wr).mono ?_; rintro e wz ⟨rfl, hwz⟩; have hwz := hwz.symm; subst hwz)
        refine CD.out.mono ?_
        rintro e w9 (⟨r, hr, _, hrf⟩ | ⟨_, _, _, _, X, hX, hXs, hp1, hp2, hend⟩)
        · exact absurd (rf_zero hrf HGP.out.1 HGP.out.2.1 HGP.out.2.2.1 (by omega)) hr
        have hps : ∀ i, i < n → (prt (psOf l M) i).2 = M.getD i [] := fun i hi => by rw [(HGP.out.2.2.2.2 i hi).2]
        have hs9 : (prt (psOf l M) 0).2.length = s := by rw [hps 0 (by omega)]; exact HMS.out 0 (by omega)
        rw [hs9] at hend
        rcases hend with ⟨hrest, _⟩ | ⟨_, rfl, hb⟩
        · exfalso
          have hall : ∀ i, i < n → comb (G.getD (f i) []) (enc X (gRows (psOf l M) k) s) s = M.getD i [] := fun i hi => by
            rw [← hps i hi, ← (HGP.out.2.2.2.2 i hi).1]
            by_cases hik : i < k
            · exact hides_any hX hp1 (fun a ha => by rw [hps a (by omega)]; exact HMS.out a (by omega)) i hik
            · exact hrest i (by omega) (by omega)
          obtain ⟨fg, _, _, _, hfd, _⟩ := HC4.out.cells
          exact tells hfd.gen HGN.out (by omega) HORD.out HDL.out HDS.out (by rw [enc_length, hX]) (fun i hi => by rw [enc_get _ _ _ _ (by omega), comb_length]) hall (c := j) (by have := HKD.out; omega) (by omega) HUN.out (HNE.out (by omega))
        · have HE9 := hid (below_then HBW4.out (below_then HF.out.base hb))
          clear CD hp1 hp2
          go_wp2
          go_ret
          exact ⟨by simp, HE9.out⟩
end Go.Proofs.Ytkklonldplekcaa
