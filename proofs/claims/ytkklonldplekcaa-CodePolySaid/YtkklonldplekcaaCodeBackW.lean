/- The walk of the law CodeBack. -/
import Derived.Test.YtkklonldplekcaaLwF
namespace Go.Proofs.Ytkklonldplekcaa
open Go.RowKit
theorem SlBB.take_ {w : World} {A : Option Addr} {n c : Nat} {M : List (List UInt8)} (h : SlBB w (.slice A n c) M) (k : Nat) (hk : k ≤ M.length) : SlBB w (.slice A k c) (M.take k) := by
  obtain ⟨f, ⟨A', c', e, h1, h2, h3⟩, h4⟩ := h
  injection e with e1 e2 e3
  subst e1 e3
  have hl : (M.take k).length = k := by rw [List.length_take]; omega
  refine ⟨f, ⟨A, c, by rw [hl], by rw [hl]; omega, h2, fun h0 => ?_⟩, fun i hi => ?_⟩
  · obtain ⟨b, off, e, hc⟩ := h3 (by omega)
    exact ⟨b, off, e, fun i hi => hc i (by omega)⟩
  · rw [hl] at hi
    have := h4 i (by omega)
    rw [show (M.take k).getD i [] = M.getD i [] by rw [List.getD_eq_getElem?_getD, List.getElem?_take_of_lt hi, ← List.getD_eq_getElem?_getD]]
    exact this
theorem SlBB.le {w : World} {A : Option Addr} {n c : Nat} {M : List (List UInt8)} (h : SlBB w (.slice A n c) M) : n ≤ c := by
  obtain ⟨f, ⟨A', c', e, h1, _⟩, _⟩ := h
  injection e with _ e2 e3
  omega
/-- the first k rows are the data -/
theorem enc_head {n k s : Nat} {G D : List (List UInt8)} (hG : GenOf n k G) (hl : G.length = n) (hkn : k ≤ n) (hD : D.length = k) (hDs : ∀ i, i < k → (D.getD i []).length = s) : (enc G D s).take k = D := by
  have hlt : ((enc G D s).take k).length = k := by rw [List.length_take, enc_length]; omega
  have hget : ∀ i, i < k → ((enc G D s).take k).getD i [] = comb (G.getD i []) D s := fun i hi => by
    rw [List.getD_eq_getElem?_getD, List.getElem?_take_of_lt hi, ← List.getD_eq_getElem?_getD, enc_get _ _ _ _ (by omega)]
  refine rows_eq (n := s) (by rw [hlt, hD]) (fun i hi => by rw [hget i (by omega), comb_length]) (fun i hi => hDs i (by omega)) fun i t hi ht => ?_
  obtain ⟨X, h1, _, h3⟩ := hG
  show (((enc G D s).take k).getD i []).getD t 0 = _
  rw [hget i (by omega), comb_get _ _ _ _ ht, hD]
  have e : (Mx.sm k fun j => Gf.mul 0x1d ((G.getD i []).getD j 0) (ent D j t)) = Mx.prod 0x1d Mx.unitM (ent D) k i t := Mx.sm_congr k fun j hj => by
    show Gf.mul 0x1d (ent G i j) _ = _
    rw [h3 i j (by omega) hj, h1 i j (by omega) hj]
  rw [e, Mx.prod_unit_l _ _ _ _ _ (by omega)]
set_option maxRecDepth 100000 in
set_option maxHeartbeats 16000000 in
theorem CodeBack_walk (W : World) (a b : Int) (ha : -9223372036854775808 ≤ a ∧ a ≤ 9223372036854775807) (hb : -9223372036854775808 ≤ b ∧ b ≤ 9223372036854775807) (vr vp vb : Value) (ll : List (List UInt8)) (hr : SlBB W vr ll) (pk : List Int) (hp : SlI W vp pk) (hpk : ∀ x ∈ pk, -9223372036854775808 ≤ x ∧ x ≤ 9223372036854775807) :
    Calls Try.prog 13 #[.agg #[.int .i64 a, .int .i64 b, vr, vp, vb]] W fun e w' => e = .returned (.bool true) ∧ Below W.heap.size W w' := by
  have HR := hid hr
  have HA := hid ha
  have HB := hid hb
  have HP := hid hp
  have HPK := hid hpk
  clear hr ha hb hp hpk
  go_enter Try.func13, Try.ntmps13
  go_wp2_with fail
  refine Calls.seen (fun V => Below W.heap.size W V ∧ V.heap[W.heap.size]? = some (.cells #[.int .i64 a, .int .i64 b, vr, vp, vb] 55 (0, 0))) ⟨(Below.refl _ _).alloc (Nat.le_refl _) _, heap_alloc_new _ _⟩ fun w0 H0 => ?_
  refine (madeC_any w0 a b HA.out HB.out vr vp vb ll (HR.out.below H0.out.1)).mono ?_
  rintro e w1 ⟨n, k, s, c, G, D, A, cp, rfl, hn24, hs40, hc, hg, hd, hdl, hds, hb1⟩
  have HC := hid hc
  have HGN := hid hg
  have HD := hid hd
  have HDL := hid hdl
  have HDS := hid hds
  have HB1 := hid hb1
  have hk1 := hc.k1
  have hkn := hc.kn
  have CP := hid (Encode_any w1 c n k G hc _ D hd s (fun i hi => hds i (by omega)) hdl (by omega))
  clear hc hg hd hdl hds hb1
  go_wp2_with fail
  refine CP.out.mono ?_
  rintro e w2 ⟨Ae, ce, rfl, ht⟩
  have HEL : Hid ((enc G D s).length = n) := hid (by rw [enc_length, HC.out.len])
  have HE := hid (ToldN.slB_ ht HEL.out)
  have HB2 := hid (below_then HB1.out ht.base)
  have HC2 := hid (HC.out.below ht.base)
  have HD2 := hid (HD.out.below ht.base)
  have hce := HE.out.le
  have hke : (k : Int) ≤ (ce : Int) := by omega
  have hk0 : (0 : Int) ≤ (k : Int) := by omega
  have HHD := hid (by have h := HE.out.take_ k (by have := HEL.out; omega); rw [enc_head HGN.out HC.out.len hkn HDL.out HDS.out] at h; exact h)
  clear ht CP HC HD HB1
  go_wp2_with (first | (go_at_call 39; (with_reducible refine (N_any w2 c n k G HC2.out).mono ?_); rintro e wz ⟨rfl, hwz⟩; have hwz := hwz.symm; subst hwz) | (go_at_call 44; (with_reducible refine (K_any w2 c n k G HC2.out).mono ?_); rintro e wz ⟨rfl, hwz⟩; have hwz := hwz.symm; subst hwz))
  refine (same_yes w2 _ _ D HHD.out HD2.out (by have := HDL.out; omega)).mono ?_
  rintro e w3 ⟨rfl, nn, rfl⟩
  have hbn := below_drewN (Below.refl w2.heap.size w2) nn
  have HE3 := hid (HE.out.below hbn)
  have HC3 := hid (HC2.out.below hbn)
  have HD3 := hid (HD2.out.below hbn)
  have HB3 := hid (below_then HB2.out hbn)
  generalize w2.drewN nn = w3 at *
  clear hbn HE HC2 HD2 HB2 HHD
  obtain ⟨Ap, qp, rfl⟩ := HP.out.form
  have HBW := hid (below_then H0.out.1 HB3.out)
  have q3 : w3.cell? ⟨W.heap.size, 3, none⟩ = some (.slice Ap pk.length qp) := (HB3.out.cell (p := ⟨W.heap.size, 3, none⟩) (blk_lt H0.out.2)).trans (by rw [blk_cell H0.out.2]; rfl)
  go_upto_region 7 with (fail)
  have HCd := hid (HC3.out.below (Below.refl w3.heap.size w3).drew)
  have HOC := hid (order_any w3.drew n (by omega) (by omega) _ pk (HP.out.below (below_then HBW.out (Below.refl w3.heap.size w3).drew)) HPK.out)
  have HS0 := hid (show w3.drew.cell? ⟨W.heap.size, 3, none⟩ = some (.slice Ap pk.length qp) from q3)
  go_region_held3 (fun V => V.cell? ⟨W.heap.size, 3, none⟩ = some (.slice Ap pk.length qp))
    (first | with_reducible exact HS0.out | with_reducible exact HS4.out)
    (first
      | (go_at_call 39; (with_reducible refine (N_any w3.drew c n k G HCd.out).mono ?_); rintro e wz ⟨rfl, hwz⟩; have hwz := hwz.symm; subst hwz)
      | (go_at_call 45; (with_reducible refine HOC.out.mono ?_); rintro e w4 ⟨f, g, cg, rfl, hord, hoa⟩; have HORD := hid hord; have HOA := hid hoa; have HB4 := hid (below_then ((Below.refl w3.heap.size w3).drew : Below w3.heap.size w3 w3.drew) hoa.2.2); have HS4 := hid (show w4.cell? ⟨W.heap.size, 3, none⟩ = some (.slice Ap pk.length qp) from (hoa.2.2.cell (World.block_lt_of_cell? w3.drew _ HS0.out)).trans HS0.out); clear hord hoa))
  all_goals
    have HE4 := hid (HE3.out.below HB4.out)
    have HC4 := hid (HC3.out.below HB4.out)
    have HD4 := hid (HD3.out.below HB4.out)
    have HBW4 := hid (below_then HBW.out HB4.out)
    clear q3 HE3 HC3 HD3 HB3 HOC HCd
    go_wp2_with (go_at_call 44; (with_reducible refine (K_any w4 c n k G HC4.out).mono ?_); rintro e wz ⟨rfl, hwz⟩; have hwz := hwz.symm; subst hwz)
    go_loopw [8, 9, 10] (fun x _ _ wr => ∃ m : Nat, k ≤ m ∧ m ≤ n + 1 ∧ x = .int .i64 m ∧ Below w4.heap.size w4 wr) (fun x _ _ _ => n + 1 - (intOf x).toNat)
    case atStart => exact ⟨k, Nat.le_refl _, by omega, rfl, Below.refl _ _⟩
    case round =>
      obtain ⟨m, hkm, hm, rfl, hb⟩ := hrel
      have HBm := hid hb
      have HCm := hid (HC4.out.below hb)
      clear hb
      by_cases hlt : m ≤ n
      · have i1 : (m : Int) ≤ (n : Int) := by omega
        have i0 : (0 : Int) ≤ (m : Int) := by omega
        have CS := hid (some_any wr _ (enc G D s) (HE4.out.below HBm.out) n g cg f HEL.out HORD.out (fun i hi => ((HOA.out.below HBm.out).get i hi).1) (fun i hi => by rw [enc_get _ _ _ _ (by rw [HC4.out.len]; exact hi), comb_length]; omega) (by omega) m hlt)
        go_wp2_with (go_at_call 39; (with_reducible refine (N_any wr c n k G HCm.out).mono ?_); rintro e wz ⟨rfl, hwz⟩; have hwz := hwz.symm; subst hwz)
        refine CS.out.mono ?_
        rintro e w5 ⟨vq, l, rfl, hl, hlf, hf⟩
        have HB5 := hid (below_then HBm.out hf.base)
        have CD := hid (Decode_good (HC4.out.below HB5.out) HGN.out HDL.out HDS.out (by omega) HORD.out hlt hkm hl hlf (Fam.slP (ts := []) (by rw [List.append_nil]; exact hf) (by rw [someR_length]; exact hl)))
        have how : w5.ownsRow 0 74 2 vq (someR (enc G D s) f m).length (pc l) := (hf.own (i := 0) rfl).1
        obtain ⟨Aq, qq, rfl⟩ := own_form how
        clear hl hlf hf how CS
        go_wp2_with fail
        refine CD.out.mono ?_
        rintro e w6 ⟨y, rfl, ht⟩
        have HY := hid (ToldN.slB_ ht HDL.out)
        have HB6 := hid (below_then HB5.out ht.base)
        obtain ⟨Ay, cy, rfl⟩ := HY.out.form
        have HD6 := hid (HD4.out.below HB6.out)
        clear ht CD
        go_wp2_with fail
        refine (same_yes w6 _ _ D HY.out HD6.out (by have := HDL.out; omega)).mono ?_
        rintro e w7 ⟨rfl, nn, rfl⟩
        have R1 := hid (below_drewN HB6.out nn)
        clear HY HD6
        go_wp2
        go_roundw
        case rel => exact ⟨m + 1, by omega, by omega, by go_num, R1.out⟩
        case measure => simp [intOf]; omega
      · have i1 : ¬ (m : Int) ≤ (n : Int) := by omega
        obtain ⟨k1, hk1e⟩ : ∃ k1, k = k1 + 1 := ⟨k - 1, by omega⟩
        have hcast : (k : Int) - 1 = (k1 : Int) := by omega
        have hkl : k1 ≤ n := by omega
        have hkk : k1 < k := by omega
        have CS := hid (some_any wr _ (enc G D s) (HE4.out.below HBm.out) n g cg f HEL.out HORD.out (fun i hi => ((HOA.out.below HBm.out).get i hi).1) (fun i hi => by rw [enc_get _ _ _ _ (by rw [HC4.out.len]; exact hi), comb_length]; omega) (by omega) k1 hkl)
        clear hk1e
        go_wp2_with (first | (go_at_call 39; (with_reducible refine (N_any wr c n k G HCm.out).mono ?_); rintro e wz ⟨rfl, hwz⟩; have hwz := hwz.symm; subst hwz) | (go_at_call 44; (with_reducible refine (K_any wr c n k G HCm.out).mono ?_); rintro e wz ⟨rfl, hwz⟩; have hwz := hwz.symm; subst hwz))
        refine CS.out.mono ?_
        rintro e w5 ⟨vq, l, rfl, hl, hlf, hf⟩
        have HB5 := hid (below_then HBm.out hf.base)
        have CD := hid (Decode_few (HC4.out.below HB5.out) HGN.out (D := D) (s := s) (by omega) HORD.out hkl hkk hl hlf (Fam.slP (ts := []) (by rw [List.append_nil]; exact hf) (by rw [someR_length]; exact hl)))
        have how : w5.ownsRow 0 74 2 vq (someR (enc G D s) f k1).length (pc l) := (hf.own (i := 0) rfl).1
        obtain ⟨Aq, qq, rfl⟩ := own_form how
        clear hl hlf hf how CS hcast
        go_wp2_with fail
        refine CD.out.mono ?_
        rintro e w6 ⟨rfl, hb⟩
        have HB6 := hid (below_then HB5.out hb)
        have hf0 := HORD.out.1 0 (by omega)
        obtain ⟨q, hq⟩ : ∃ q, f 0 = q := ⟨_, rfl⟩
        have x0 := ((HOA.out.below HB6.out).get 0 (by omega)).1
        rw [hq] at x0 hf0
        have CRW := hid (Row_any w6 c n k G (HC4.out.below HB6.out) _ D (HD4.out.below HB6.out) s (fun i hi => HDS.out i (by have := HDL.out; omega)) HDL.out (by omega) q hf0)
        obtain ⟨L, hL⟩ : ∃ L, comb (G.getD q []) D s = L := ⟨_, rfl⟩
        rw [hL] at CRW
        have HLL := hid hL
        have i2 : (0 : Int) < (n : Int) := by omega
        clear hb CD hq hL
        go_wp2_with fail
        refine CRW.out.mono ?_
        rintro e w7 ⟨y, rfl, hy, hb⟩
        have HY := hid hy.sl
        obtain ⟨Ay, cy, rfl⟩ := hy.form
        have HB7 := hid (below_then HB6.out hb)
        have x1 : w7.cell? ⟨g, 0, none⟩ = some (.int .i64 (q : Int)) := (hb.cell (World.block_lt_of_cell? w6 _ x0)).trans x0
        obtain ⟨R, o, v0, rfl, r0, s0⟩ := (HE4.out.below HB7.out).at_ q (by rw [HEL.out]; exact hf0)
        rw [enc_get _ _ _ _ (by rw [HC4.out.len]; exact hf0), HLL.out] at s0
        obtain ⟨A0, q0, rfl⟩ := s0.form
        have c1 : ∀ n, _ := fun n => conv_str (HY.out.drewN n)
        have c2 : ∀ n, _ := fun n => conv_str (s0.drewN n)
        have i3 : (0 : Int) ≤ (q : Int) := by omega
        have i4 : (q : Int) < (n : Int) := by omega
        have HEND := hid (below_then HBW4.out HB7.out)
        clear hy hb x0 s0 CRW
        go_upto_region 16 with (fail)
        go_quiet (fail)
        have HEN2 := hid (below_drewN HEND.out nq)
        clear x1 r0 c1 c2
        go_wp2
        go_ret
        exact ⟨by simp, HEN2.out⟩
end Go.Proofs.Ytkklonldplekcaa
