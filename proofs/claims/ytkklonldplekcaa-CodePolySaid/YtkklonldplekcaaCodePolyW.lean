/- The walk of the law CodePoly. -/
import Derived.Test.YtkklonldplekcaaCodePolyC
import Derived.Test.YtkklonldplekcaaCdR
import Derived.Test.YtkklonldplekcaaCodeBackW
namespace Go.Proofs.Ytkklonldplekcaa
open Go.RowKit
set_option maxRecDepth 100000 in
set_option maxHeartbeats 16000000 in
theorem CodePoly_walk (W : World) (a b : Int) (ha : -9223372036854775808 ≤ a ∧ a ≤ 9223372036854775807) (hb : -9223372036854775808 ≤ b ∧ b ≤ 9223372036854775807) (vr vp vb : Value) (ll : List (List UInt8)) (hr : SlBB W vr ll) (pk : List Int) (hp : SlI W vp pk) (hpk : ∀ x ∈ pk, -9223372036854775808 ≤ x ∧ x ≤ 9223372036854775807) :
    Calls Try.prog 9 #[.agg #[.int .i64 a, .int .i64 b, vr, vp, vb]] W fun e w' => e = .returned (.bool true) ∧ Below W.heap.size W w' := by
  have HR := hid hr
  have HA := hid ha
  have HB := hid hb
  have HP := hid hp
  have HPK := hid hpk
  clear hr ha hb hp hpk
  go_enter Try.func9, Try.ntmps9
  go_wp2_with fail
  refine Calls.seen (fun V => Below W.heap.size W V ∧ V.heap[W.heap.size]? = some (.cells #[.int .i64 a, .int .i64 b, vr, vp, vb] 55 (0, 0))) ⟨(Below.refl _ _).alloc (Nat.le_refl _) _, heap_alloc_new _ _⟩ fun w0 H0 => ?_
  refine (madeC_any w0 a b HA.out HB.out vr vp vb ll (HR.out.below H0.out.1)).mono ?_
  rintro e w1 ⟨n, k, s, c, G, D, A, cp, rfl, hn24, hs40, hc, hg, hd, hdl, hds, hb1⟩
  have HC := hid hc
  have HGN := hid hg
  have HD := hid hd
  have HDL := hid hdl
  have HDS := hid hds
  have HB1 := hid hb1
  have hk1 := hc.k1
  have hkn := hc.kn
  clear hc hg hd hdl hds hb1
  go_wp2_with fail
  refine (Std_any w1).mono ?_
  rintro e w2 ⟨fg, rfl, -, hfd, hb2⟩
  have HFD := hid hfd
  have HB2 := hid (below_then HB1.out hb2)
  have HC2 := hid (HC.out.below hb2)
  have HD2 := hid (HD.out.below hb2)
  have CR := hid (CodeRows_any w2 c n k G HC2.out)
  clear hfd hb2 HC HD HB1
  go_wp2_with fail
  refine CR.out.mono ?_
  rintro e w3 ⟨Ag, cg, rfl, ht⟩
  have HG3 := hid (ToldN.slB_ ht HC2.out.len)
  have HB3 := hid (below_then HB2.out ht.base)
  have HC3 := hid (HC2.out.below ht.base)
  have HD3 := hid (HD2.out.below ht.base)
  have HFD3 := hid (HFD.out.next ht.base)
  have CP := hid (Encode_any w3 c n k G HC3.out _ D HD3.out s (fun i hi => HDS.out i (by have := HDL.out; omega)) HDL.out (by omega))
  clear ht HB2 HC2 HD2 HFD CR
  go_wp2_with fail
  refine CP.out.mono ?_
  rintro e w4 ⟨Ae, ce, rfl, ht⟩
  have HEL : Hid ((enc G D s).length = n) := hid (by rw [enc_length, HC3.out.len])
  have HE4 := hid (ToldN.slB_ ht HEL.out)
  have HG4 := hid (HG3.out.below ht.base)
  have HB4 := hid (below_then HB3.out ht.base)
  have HC4 := hid (HC3.out.below ht.base)
  have HD4 := hid (HD3.out.below ht.base)
  have HFD4 := hid (HFD3.out.next ht.base)
  clear ht HG3 HB3 HC3 HD3 HFD3 CP
  go_wp2_with (go_at_call 39; (with_reducible refine (N_any w4 c n k G HC4.out).mono ?_); rintro e wz ⟨rfl, hwz⟩; have hwz := hwz.symm; subst hwz)
  obtain ⟨Ap, qp, rfl⟩ := HP.out.form
  have HBW := hid (below_then H0.out.1 HB4.out)
  have q3 : w4.cell? ⟨W.heap.size, 3, none⟩ = some (.slice Ap pk.length qp) := (HB4.out.cell (p := ⟨W.heap.size, 3, none⟩) (blk_lt H0.out.2)).trans (by rw [blk_cell H0.out.2]; rfl)
  have Q3 := hid q3
  clear q3
  go_loopw [9, 10] (fun x _ wr => ∃ i : Nat, i ≤ k ∧ x = .int .i64 i ∧ Below w4.heap.size w4 wr) (fun x _ _ => k - (intOf x).toNat)
  case atStart => exact ⟨0, Nat.zero_le _, rfl, Below.refl _ _⟩
  case round =>
    obtain ⟨i, hi, rfl, hb⟩ := hrel
    have HBi := hid hb
    have HCw := hid (HC4.out.below hb)
    have i0 : (0 : Int) ≤ (i : Int) := by omega
    clear hb
    by_cases hik : i < k
    · have i1 : (i : Int) < (k : Int) := by omega
      go_wp2_with (go_at_call 44; (with_reducible refine (K_any wr c n k G HCw.out).mono ?_); rintro e wz ⟨rfl, hwz⟩; have hwz := hwz.symm; subst hwz)
      obtain ⟨wo, rfl⟩ : ∃ wo : World, wo = wr := ⟨_, rfl⟩
      go_loopw [10] (fun x wr => ∃ j : Nat, j ≤ k ∧ x = .int .i64 j ∧ Below w4.heap.size w4 wr) (fun x _ => k - (intOf x).toNat)
      case atStart => exact ⟨0, Nat.zero_le _, rfl, HBi.out⟩
      case round =>
        clear HCw HBi
        obtain ⟨j, hj, rfl, hb⟩ := hrel
        have HBj := hid hb
        have HCw := hid (HC4.out.below hb)
        have j0 : (0 : Int) ≤ (j : Int) := by omega
        clear hb
        by_cases hjk : j < k
        · have j1 : (j : Int) < (k : Int) := by omega
          have i2 : (i : Int) < (n : Int) := by omega
          obtain ⟨R, o, v0, rfl, r0, s0⟩ := (HG4.out.below HBj.out).at_ i (by rw [HC4.out.len]; omega)
          have hrl := HC4.out.row i (by omega)
          obtain ⟨A0, q0, rfl⟩ := s0.form
          obtain ⟨b, off, rfl, hby⟩ := s0.cells (by omega)
          have x0 := hby j (by omega)
          rw [hrl] at r0
          rw [gen_unit HGN.out hkn hik hjk] at x0
          have HKQ := hid (fun nn => K_any (wr.drewN nn) c n k G (HCw.out.below (below_drewN (Below.refl _ _) nn)))
          clear hby s0 hrl
          by_cases hij : i = j
          · subst hij
            rw [if_pos rfl] at x0
            have x1 : wr.cell? ⟨b, off + i, none⟩ = some (.int .u8 1) := x0
            clear x0
            go_upto_region 15 with (go_at_call 44; (with_reducible refine (K_any wr c n k G HCw.out).mono ?_); rintro e wz ⟨rfl, hwz⟩; have hwz := hwz.symm; subst hwz)
            go_quiet ((go_at_call 44; exact Calls.quiet_of_same (HKQ.out _)))
            have R1 := hid (below_drewN HBj.out nq)
            clear x1 r0
            go_wp2
            go_roundw
            case rel => exact ⟨i + 1, by omega, by go_num, R1.out⟩
            case measure => simp [intOf]; omega
          · rw [if_neg hij] at x0
            have x1 : wr.cell? ⟨b, off + j, none⟩ = some (.int .u8 0) := x0
            have hne : ((i : Int) == (j : Int)) = false := by rw [beq_eq_false_iff_ne]; omega
            have hne2 : ((i : Int) != (j : Int)) = true := by rw [bne, hne]; rfl
            clear x0
            go_upto_region 15 with (go_at_call 44; (with_reducible refine (K_any wr c n k G HCw.out).mono ?_); rintro e wz ⟨rfl, hwz⟩; have hwz := hwz.symm; subst hwz)
            go_quiet ((go_at_call 44; exact Calls.quiet_of_same (HKQ.out _)))
            have R1 := hid (below_drewN HBj.out nq)
            clear x1 r0
            go_wp2
            go_roundw
            case rel => exact ⟨j + 1, by omega, by go_num, R1.out⟩
            case measure => simp [intOf]; omega
        · have j1 : ¬ (j : Int) < (k : Int) := by omega
          go_wp2_with (go_at_call 44; (with_reducible refine (K_any wr c n k G HCw.out).mono ?_); rintro e wz ⟨rfl, hwz⟩; have hwz := hwz.symm; subst hwz)
          go_roundw
          case rel => exact ⟨i + 1, by omega, by go_num, HBj.out⟩
          case measure => simp [intOf]; omega
    · have i1 : ¬ (i : Int) < (k : Int) := by omega
      by_cases hnk : n = k
      · have hnki : ((n : Int) == (k : Int)) = true := by rw [beq_iff_eq]; omega
        have HEND := hid (below_then HBW.out HBi.out)
        go_wp2_with (first | (go_at_call 39; (with_reducible refine (N_any wr c n k G HCw.out).mono ?_); rintro e wz ⟨rfl, hwz⟩; have hwz := hwz.symm; subst hwz) | (go_at_call 44; (with_reducible refine (K_any wr c n k G HCw.out).mono ?_); rintro e wz ⟨rfl, hwz⟩; have hwz := hwz.symm; subst hwz))
        go_ret
        exact ⟨by simp, HEND.out⟩
      · have hne : ((n : Int) == (k : Int)) = false := by rw [beq_eq_false_iff_ne]; omega
        have q3 : wr.cell? ⟨W.heap.size, 3, none⟩ = some (.slice Ap pk.length qp) := (HBi.out.cell (World.block_lt_of_cell? w4 _ Q3.out)).trans Q3.out
        go_upto_region 19 with (first | (go_at_call 39; (with_reducible refine (N_any wr c n k G HCw.out).mono ?_); rintro e wz ⟨rfl, hwz⟩; have hwz := hwz.symm; subst hwz) | (go_at_call 44; (with_reducible refine (K_any wr c n k G HCw.out).mono ?_); rintro e wz ⟨rfl, hwz⟩; have hwz := hwz.symm; subst hwz))
        clear hne
        have HCd := hid (HCw.out.below (Below.refl wr.heap.size wr).drew)
        have HOC := hid (order_any wr.drew n (by omega) (by omega) _ pk (HP.out.below (below_then (below_then HBW.out HBi.out) (Below.refl wr.heap.size wr).drew)) HPK.out)
        have HS0 := hid (show wr.drew.cell? ⟨W.heap.size, 3, none⟩ = some (.slice Ap pk.length qp) from q3)
        go_region_held3 (fun V => V.cell? ⟨W.heap.size, 3, none⟩ = some (.slice Ap pk.length qp))
          (first | with_reducible exact HS0.out | with_reducible exact HS4.out)
          (first
            | (go_at_call 39; (with_reducible refine (N_any wr.drew c n k G HCd.out).mono ?_); rintro e wz ⟨rfl, hwz⟩; have hwz := hwz.symm; subst hwz)
            | (go_at_call 45; (with_reducible refine HOC.out.mono ?_); rintro e w5 ⟨f, g, cg2, rfl, hord, hoa⟩; have HORD := hid hord; have HOA := hid hoa; have HB5 := hid (below_then ((Below.refl wr.heap.size wr).drew : Below wr.heap.size wr wr.drew) hoa.2.2); have HS4 := hid (show w5.cell? ⟨W.heap.size, 3, none⟩ = some (.slice Ap pk.length qp) from (hoa.2.2.cell (World.block_lt_of_cell? wr.drew _ HS0.out)).trans HS0.out); clear hord hoa))
        all_goals
          have HB45 := hid (below_then HBi.out HB5.out)
          have HC5 := hid (HC4.out.below HB45.out)
          have HE5 := hid (HE4.out.below HB45.out)
          have HD5 := hid (HD4.out.below HB45.out)
          have HF5 := hid (HFD4.out.next HB45.out)
          have HBW5 := hid (below_then HBW.out HB45.out)
          clear q3 HOC HCd
          obtain ⟨zq, hzq⟩ : ∃ q, f k = q := ⟨_, rfl⟩
          have hzn := HORD.out.1 k (by omega)
          have z0 := (HOA.out.get k (by omega)).1
          rw [hzq] at hzn z0
          have HZQ := hid hzq
          have k0 : (0 : Int) ≤ (k : Int) := by omega
          have k2 : (k : Int) < (n : Int) := by omega
          have z1 : (0 : Int) ≤ (zq : Int) := by omega
          have z2 : (zq : Int) < (n : Int) := by omega
          have z3 : (zq : Int) < 256 := by omega
          have k3 : (0 : Int) < (k : Int) := by omega
          obtain ⟨R0, o0, v0, rfl, r0', s0⟩ := HD5.out.at_ 0 (by rw [HDL.out]; omega)
          have r0 : w5.cell? ⟨R0, o0, none⟩ = some v0 := r0'
          obtain ⟨A0, q0, rfl⟩ := s0.form
          rw [HDS.out 0 (by omega)] at r0
          have HR0 := hid r0
          clear r0' s0 r0 hzq
          go_wp2_with (go_at_call 44; (with_reducible refine (K_any w5 c n k G HC5.out).mono ?_); rintro e wz ⟨rfl, hwz⟩; have hwz := hwz.symm; subst hwz)
          clear z0
          obtain ⟨wq, rfl⟩ : ∃ wo : World, wo = wr := ⟨_, rfl⟩
          go_loopw [13, 14, 15, 16, 17, 18, 19] (fun x _ _ _ _ _ _ wr => ∃ p : Nat, p ≤ s ∧ x = .int .i64 p ∧ Below w5.heap.size w5 wr) (fun x _ _ _ _ _ _ _ => s - (intOf x).toNat)
          case atStart => exact ⟨0, Nat.zero_le _, rfl, Below.refl _ _⟩
          case round =>
            obtain ⟨p, hp, rfl, hb⟩ := hrel
            have HBp := hid hb
            have p0 : (0 : Int) ≤ (p : Int) := by omega
            have r1 : wr.cell? ⟨R0, o0, none⟩ = some (.slice A0 s q0) := (hb.cell (World.block_lt_of_cell? w5 _ HR0.out)).trans HR0.out
            clear hb
            by_cases hps : p < s
            · have p1 : (p : Int) < (s : Int) := by omega
              obtain ⟨T, V, hT0, hTi, hTn, hV0, hVs, hVk⟩ := poly_law HF5.out.gen HGN.out (by omega) (by omega) HORD.out HDL.out p hps
              have HT0 := hid hT0
              have HTi := hid hTi
              have HTn := hid hTn
              have HV0 := hid hV0
              have HVs := hid hVs
              have HVk := hid hVk
              clear hT0 hTi hTn hV0 hVs hVk
              go_wp2
              obtain ⟨wo, rfl⟩ : ∃ wo : World, wo = wr := ⟨_, rfl⟩
              go_loopw [14, 15, 16, 17, 18, 19] (fun v x _ _ _ _ wr => ∃ i : Nat, i ≤ k ∧ x = .int .i64 i ∧ v = B (V i) ∧ Below w5.heap.size w5 wr) (fun _ x _ _ _ _ _ => k - (intOf x).toNat)
              case atStart => exact ⟨0, Nat.zero_le _, rfl, by rw [HV0.out]; rfl, HBp.out⟩
              case round =>
                clear HBp r1
                obtain ⟨i, hi, rfl, rfl, hb⟩ := hrel
                have HBi2 := hid hb
                have HCw := hid (HC5.out.below hb)
                have i5 : (0 : Int) ≤ (i : Int) := by omega
                clear hb
                by_cases hik : i < k
                · have i6 : (i : Int) < (k : Int) := by omega
                  have i7 : (i : Int) < (n : Int) := by omega
                  obtain ⟨q, hq⟩ : ∃ q, f i = q := ⟨_, rfl⟩
                  have hqn := HORD.out.1 i (by omega)
                  have x0 := ((HOA.out.below (below_then (Below.refl w5.heap.size w5) HBi2.out)).get i (by omega)).1
                  obtain ⟨R, o, v0, rfl, r0, s0⟩ := (HE5.out.below HBi2.out).at_ (f i) (by rw [HEL.out]; exact hqn)
                  rw [enc_get _ _ _ _ (by rw [HC5.out.len]; exact hqn)] at s0
                  obtain ⟨A1, q1, rfl⟩ := s0.form
                  obtain ⟨bx, ox, rfl, hby⟩ := s0.cells (by rw [comb_length]; omega)
                  have y0 := hby p (by rw [comb_length]; exact hps)
                  rw [← HT0.out i hik] at y0
                  rw [comb_length] at r0
                  rw [hq] at x0 r0 hqn
                  have i8 : (0 : Int) ≤ (q : Int) := by omega
                  have i9 : (q : Int) < (n : Int) := by omega
                  have y1 : wr.cell? ⟨bx, ox + p, none⟩ = some (.int .u8 ((T i 0).toNat : Int)) := y0
                  have HQ := hid hq
                  clear hby s0 y0 hq
                  go_wp2_with (go_at_call 44; (with_reducible refine (K_any wr c n k G HCw.out).mono ?_); rintro e wz ⟨rfl, hwz⟩; have hwz := hwz.symm; subst hwz)
                  clear x0 r0 y1
                  obtain ⟨wo, rfl⟩ : ∃ wo : World, wo = wr := ⟨_, rfl⟩
                  go_loopw [16, 17, 18, 19] (fun t x _ _ wr => ∃ j : Nat, j ≤ k ∧ x = .int .i64 j ∧ t = B (T i j) ∧ Below w5.heap.size w5 wr) (fun _ x _ _ _ => k - (intOf x).toNat)
                  case atStart => exact ⟨0, Nat.zero_le _, rfl, rfl, HBi2.out⟩
                  case round =>
                    clear HBi2 HCw
                    obtain ⟨j, hj, rfl, rfl, hb⟩ := hrel
                    have HBj := hid hb
                    have HCw := hid (HC5.out.below hb)
                    have j0 : (0 : Int) ≤ (j : Int) := by omega
                    clear hb
                    by_cases hjk : j < k
                    · have j1 : (j : Int) < (k : Int) := by omega
                      by_cases hji : j = i
                      · subst hji
                        go_wp2_with (go_at_call 44; (with_reducible refine (K_any wr c n k G HCw.out).mono ?_); rintro e wz ⟨rfl, hwz⟩; have hwz := hwz.symm; subst hwz)
                        go_roundw
                        case rel => exact ⟨j + 1, by omega, by go_num, by rw [HTi.out], HBj.out⟩
                        case measure => simp [intOf]; omega
                      · have hne : ((j : Int) == (i : Int)) = false := by rw [beq_eq_false_iff_ne]; omega
                        have hne2 : ((j : Int) != (i : Int)) = true := by rw [bne, hne]; rfl
                        have j2 : (j : Int) < (n : Int) := by omega
                        obtain ⟨qj, hqj⟩ : ∃ q, f j = q := ⟨_, rfl⟩
                        have hjn := HORD.out.1 j (by omega)
                        have x0 := ((HOA.out.below (below_then (Below.refl w5.heap.size w5) HBj.out)).get i (by omega)).1
                        have x1 := ((HOA.out.below (below_then (Below.refl w5.heap.size w5) HBj.out)).get j (by omega)).1
                        rw [HQ.out] at x0
                        rw [hqj] at x1 hjn
                        have e1 := xor_of zq qj (by omega) (by omega)
                        have e2 := xor_of q qj (by omega) (by omega)
                        have HFw := hid (HF5.out.next HBj.out)
                        have hTj := HTn.out i j hji
                        have hlv := lv_ofNat HF5.out.gen (show n ≤ 255 by omega) HORD.out (show i < n by omega) (show j < n by omega) hji
                        rw [HQ.out, hqj] at hlv hTj
                        rw [HZQ.out] at hTj
                        obtain ⟨dz, hdz⟩ : ∃ d, UInt8.ofNat zq ^^^ UInt8.ofNat qj = d := ⟨_, rfl⟩
                        obtain ⟨dq, hdq⟩ : ∃ d, UInt8.ofNat q ^^^ UInt8.ofNat qj = d := ⟨_, rfl⟩
                        rw [hdz] at e1 hTj
                        rw [hdq] at e2 hTj hlv
                        clear hdz hdq
                        have HTJ := hid hTj
                        have HDV := hid (fun nn => Div_any fg 0x1d dz dq _ hlv (wr.drewN nn) (HFw.out.drewN nn))
                        have j3 : (0 : Int) ≤ (qj : Int) := by omega
                        have j4 : (qj : Int) < 256 := by omega
                        have j5 : (q : Int) < 256 := by omega
                        clear hqj hTj hlv
                        go_upto_region 33 with (go_at_call 44; (with_reducible refine (K_any wr c n k G HCw.out).mono ?_); rintro e wz ⟨rfl, hwz⟩; have hwz := hwz.symm; subst hwz)
                        go_quiet ((go_at_call 46; with_reducible exact Calls.quiet_of (HDV.out _)))
                        have R1 := hid (below_drewN HBj.out nq)
                        have HF6 := hid (HFw.out.drewN nq)
                        clear x0 x1 e1 e2
                        generalize wr.drewN nq = w6 at *
                        generalize Gf.mul 0x1d dz (Gf.lv 0x1d dq) = dv at *
                        go_wp2_with fail
                        refine (Mul_any fg 0x1d (T i j) dv w6 HF6.out).mono ?_
                        rintro e w7 ⟨rfl, m, rfl⟩
                        have R2 := hid (below_drewN R1.out m)
                        go_wp2
                        go_roundw
                        case rel => exact ⟨j + 1, by omega, by go_num, by rw [HTJ.out], R2.out⟩
                        case measure => simp [intOf]; omega
                    · have j1 : ¬ (j : Int) < (k : Int) := by omega
                      have e3 := xor8 (V i) (T i j)
                      have HS := hid (show V (i + 1) = V i ^^^ T i j by rw [HVs.out, show j = k by omega])
                      go_wp2_with (go_at_call 44; (with_reducible refine (K_any wr c n k G HCw.out).mono ?_); rintro e wz ⟨rfl, hwz⟩; have hwz := hwz.symm; subst hwz)
                      clear e3
                      go_roundw
                      case rel => exact ⟨i + 1, by omega, by go_num, by rw [HS.out]; rfl, HBj.out⟩
                      case measure => simp [intOf]; omega
                · have i6 : ¬ (i : Int) < (k : Int) := by omega
                  have hVi : V i = (comb (G.getD zq []) D s).getD p 0 := by rw [show i = k by omega, HVk.out, HZQ.out]
                  obtain ⟨R, o, v0, rfl, r0, s0⟩ := (HE5.out.below HBi2.out).at_ zq (by rw [HEL.out]; exact hzn)
                  rw [enc_get _ _ _ _ (by rw [HC5.out.len]; exact hzn)] at s0
                  obtain ⟨A1, q1, rfl⟩ := s0.form
                  obtain ⟨bx, ox, rfl, hby⟩ := s0.cells (by rw [comb_length]; omega)
                  have y0 := hby p (by rw [comb_length]; exact hps)
                  rw [← hVi] at y0
                  rw [comb_length] at r0
                  have y1 : wr.cell? ⟨bx, ox + p, none⟩ = some (.int .u8 ((V i).toNat : Int)) := y0
                  clear hby s0 y0 hVi
                  go_wp2_with (go_at_call 44; (with_reducible refine (K_any wr c n k G HCw.out).mono ?_); rintro e wz ⟨rfl, hwz⟩; have hwz := hwz.symm; subst hwz)
                  clear r0 y1
                  go_roundw
                  case rel => exact ⟨p + 1, by omega, by go_num, HBi2.out⟩
                  case measure => simp [intOf]; omega
            · have p1 : ¬ (p : Int) < (s : Int) := by omega
              have HEND := hid (below_then HBW5.out HBp.out)
              go_wp2
              go_ret
              exact ⟨by simp, HEND.out⟩
end Go.Proofs.Ytkklonldplekcaa
