/- The walk of the law MatrixInverse. -/
import Derived.Test.YtkklonldplekcaaMxU
namespace Go.Proofs.Ytkklonldplekcaa
open Go.RowKit
theorem assoc_rows {q : UInt8} {A B C AB BC T1 T2 : List (List UInt8)} {n : Nat} (la : A.length = n) (lb : B.length = n) (lab : AB.length = A.length) (eab : ∀ i j, i < A.length → j < n → ent AB i j = Mx.prod q (ent A) (ent B) n i j) (ebc : ∀ i j, i < B.length → j < n → ent BC i j = Mx.prod q (ent B) (ent C) n i j)
    (h1 : T1.length = AB.length ∧ (∀ i, i < T1.length → (T1.getD i []).length = n) ∧ ∀ i j, i < AB.length → j < n → ent T1 i j = Mx.prod q (ent AB) (ent C) n i j) (h2 : T2.length = A.length ∧ (∀ i, i < T2.length → (T2.getD i []).length = n) ∧ ∀ i j, i < A.length → j < n → ent T2 i j = Mx.prod q (ent A) (ent BC) n i j) : T1 = T2 := by
  refine rows_eq (by omega) h1.2.1 h2.2.1 fun i j hi hj => ?_
  rw [h1.2.2 i j (by omega) hj, h2.2.2 i j (by omega) hj, Mx.prod_congr (A' := Mx.prod q (ent A) (ent B) n) (B' := ent C) (fun l hl => eab i l (by omega) hl) (fun _ _ => rfl), Mx.prod_assoc]
  exact Mx.prod_congr (fun _ _ => rfl) fun l hl => (ebc l j (by omega) hj).symm
theorem trans_rows {q : UInt8} {A B AB AT BT TT T2 : List (List UInt8)} {n : Nat} (la : A.length = n) (lb : B.length = n) (lab : AB.length = A.length) (eab : ∀ i j, i < A.length → j < n → ent AB i j = Mx.prod q (ent A) (ent B) n i j) (hA : AT.length = n ∧ ∀ a b, a < n → b < n → ent AT a b = ent A b a) (hB : BT.length = n ∧ ∀ a b, a < n → b < n → ent BT a b = ent B b a)
    (hT : TT.length = n ∧ ∀ a b, a < n → b < n → ent TT a b = ent AB b a) (hTn : ∀ i, i < TT.length → (TT.getD i []).length = n) (h2 : T2.length = BT.length ∧ (∀ i, i < T2.length → (T2.getD i []).length = n) ∧ ∀ i j, i < BT.length → j < n → ent T2 i j = Mx.prod q (ent BT) (ent AT) n i j) : TT = T2 := by
  refine rows_eq (by omega) hTn h2.2.1 fun i j hi hj => ?_
  rw [hT.2 i j (by omega) (by omega), h2.2.2 i j (by omega) hj, eab j i (by omega) (by omega)]
  exact Mx.sm_congr n fun l hl => by rw [hA.2 l j hl (by omega), hB.2 i l (by omega) (by omega), Gf.mul_comm]
set_option maxRecDepth 100000 in
set_option maxHeartbeats 16000000 in
theorem MatrixInverse_walk (W : World) (a b : Int) (ha : -9223372036854775808 ≤ a ∧ a ≤ 9223372036854775807) (uc u2 u3 : Value) (C1 C2 C3 : List UInt8) (h1 : SlB W uc C1) (h2 : SlB W u2 C2) (h3 : SlB W u3 C3) :
    Calls Try.prog 3 #[.agg #[.int .i64 a, .int .i64 b, uc], u2, u3] W fun e w' => e = .returned (.bool true) ∧ Below W.heap.size W w' := by
  obtain ⟨A1, k1, rfl⟩ := h1.form
  obtain ⟨A2, k2, rfl⟩ := h2.form
  obtain ⟨A3, k3, rfl⟩ := h3.form
  have HX1 := hid h1
  have HX2 := hid h2
  have HX3 := hid h3
  obtain ⟨n, hn⟩ : ∃ n, sz6 a = n := ⟨_, rfl⟩
  have hsz := size_any a ha.1 ha.2
  have hle := sz6_le a
  rw [hn] at hsz hle
  obtain ⟨n1, n6⟩ := hle
  have HSZ := hid hsz
  clear h1 h2 h3 hsz hn
  go_enter Try.func3, Try.ntmps3
  go_wp2_with fail
  refine (HSZ.out _).mono ?_
  rintro e w0 ⟨rfl, hw0⟩
  have HB0 : Hid (Below W.heap.size W w0) := hid (by rw [hw0]; exact (Below.refl _ _).alloc (Nat.le_refl _) _)
  have HM0 := hid (Mats.nil w0)
  have q0 : w0.cell? ⟨W.heap.size, 2, none⟩ = some (.slice A1 C1.length k1) := by rw [hw0, blk_cell (heap_alloc_new _ _)]; rfl
  clear hw0 HSZ
  go_wp2_with fail
  refine (made_any w0 n n (.slice A1 C1.length k1) C1 (HX1.out.below HB0.out) ⟨by omega, by omega⟩ ⟨by omega, by omega⟩).mono ?_
  rintro e w1 ⟨ma, A, rfl, hm, hl, he, hb⟩
  have EA := hid he
  have LA := hid hl
  have HM1 := hid (HM0.out.cons hb hm)
  have HB1 := hid (below_then HB0.out hb)
  have HWw1 := hid hb
  clear hm hl he hb
  clear q0 HM0 HB0
  go_wp2_with fail
  refine (made_any w1 n n (.slice A2 C2.length k2) C2 (HX2.out.below HB1.out) ⟨by omega, by omega⟩ ⟨by omega, by omega⟩).mono ?_
  rintro e w2 ⟨mb, B, rfl, hm, hl, he, hb⟩
  have EB := hid he
  have LB := hid hl
  have HM2 := hid (HM1.out.cons hb hm)
  have HB2 := hid (below_then HB1.out hb)
  have HWw2 := hid hb
  clear hm hl he hb
  clear HM1 HB1
  go_wp2_with fail
  refine (made_any w2 n n (.slice A3 C3.length k3) C3 (HX3.out.below HB2.out) ⟨by omega, by omega⟩ ⟨by omega, by omega⟩).mono ?_
  rintro e w3 ⟨mc, C, rfl, hm, hl, he, hb⟩
  have EC := hid he
  have LC := hid hl
  have HM3 := hid (HM2.out.cons hb hm)
  have HB3 := hid (below_then HB2.out hb)
  have HWw3 := hid hb
  clear hm hl he hb
  clear HM2 HB2
  go_wp2_with fail
  refine (Std_any w3).mono ?_
  rintro e w4 ⟨fg, rfl, -, hF, hb⟩
  have HF := hid hF
  have HM4 := hid (HM3.out.below hb)
  have HB4 := hid (below_then HB3.out hb)
  clear hF hb HM3 HB3
  go_wp2_with fail
  refine (Identity_any w4 fg 0x1d HF.out n (by omega) (by omega)).mono ?_
  rintro e w5 ⟨mo, O, rfl, hm, hl, he, hb⟩
  have EO := hid he
  have LO := hid hl
  have HM5 := hid (HM4.out.cons hb hm)
  have HB5 := hid (below_then HB4.out hb)
  clear hm hl he hb HM4 HB4
  go_wp2_with fail
  refine (Mul_mat w5 ma mb 0x1d A B n n (HM5.out _ _ _ (by simp)) (HM5.out _ _ _ (by simp)) LB.out).mono ?_
  rintro e w6 ⟨mab, AB, rfl, hm, hl, he, hb⟩
  have EAB := hid he
  have LAB := hid hl
  have HM6 := hid (HM5.out.cons hb hm)
  have HB6 := hid (below_then HB5.out hb)
  have HWw6 := hid hb
  clear hm hl he hb
  clear HM5 HB5
  go_wp2_with fail
  refine (Mul_mat w6 mb mc 0x1d B C n n (HM6.out _ _ _ (by simp)) (HM6.out _ _ _ (by simp)) LC.out).mono ?_
  rintro e w7 ⟨mbc, BC, rfl, hm, hl, he, hb⟩
  have EBC := hid he
  have LBC := hid hl
  have HM7 := hid (HM6.out.cons hb hm)
  have HB7 := hid (below_then HB6.out hb)
  have HWw7 := hid hb
  clear hm hl he hb
  clear HM6 HB6
  go_wp2_with fail
  refine (product_any w7 mab mc 0x1d AB C n n (HM7.out _ _ _ (by simp)) (HM7.out _ _ _ (by simp)) LC.out).mono ?_
  rintro e w8 ⟨v1, T1, rfl, hs, hl, hn, he, hb⟩
  have HS1 := hid (And.intro hl (And.intro hn he))
  have HVT1 := hid hs
  have HM8 := hid (HM7.out.below hb)
  have HB8 := hid (below_then HB7.out hb)
  have HWw8 := hid hb
  obtain ⟨AT1, cT1, rfl⟩ := hs.form
  clear hs hl hn he hb
  clear HM7 HB7
  go_wp2_with fail
  refine (product_any w8 ma mbc 0x1d A BC n n (HM8.out _ _ _ (by simp)) (HM8.out _ _ _ (by simp)) (LBC.out.trans LB.out)).mono ?_
  rintro e w9 ⟨v2, T2, rfl, hs, hl, hn, he, hb⟩
  have HS2 := hid (And.intro hl (And.intro hn he))
  have HVT2 := hid hs
  have HM9 := hid (HM8.out.below hb)
  have HB9 := hid (below_then HB8.out hb)
  have HWw9 := hid hb
  obtain ⟨AT2, cT2, rfl⟩ := hs.form
  clear hs hl hn he hb
  have e12 : T1 = T2 := assoc_rows LA.out LB.out LAB.out EAB.out EBC.out HS1.out HS2.out
  subst e12
  clear HM8 HB8
  go_wp2_with fail
  refine (sameRows_yes w9 _ _ T1 (HVT1.out.below HWw9.out) HVT2.out (by have := HS1.out.1; have := LAB.out; have := LA.out; omega)).mono ?_
  rintro e wx ⟨rfl, nn, rfl⟩
  have HM10 := hid (HM9.out.below (below_drewN (Below.refl _ _) nn))
  have HB10 := hid (below_drewN HB9.out nn)
  generalize w9.drewN nn = wx at *
  clear HM9 HB9 HVT1 HVT2 HS1 HS2
  go_wp2_with fail
  refine (Transpose_any wx mab 0x1d AB n (HM10.out _ _ _ (by simp))).mono ?_
  rintro e w11 ⟨mt, TT, rfl, hm, hl, he, hb⟩
  rw [(LAB.out.trans LA.out)] at hm he
  have ETT := hid (And.intro hl he)
  have HM11 := hid (HM10.out.cons hb hm)
  have HB11 := hid (below_then HB10.out hb)
  have HWw11 := hid hb
  clear hm hl he hb
  clear HM10 HB10
  go_wp2_with fail
  refine (Rows_read w11 mt 0x1d TT n (HM11.out _ _ _ (by simp))).mono ?_
  rintro e w12 ⟨v3, rfl, hs, hb⟩
  have HVv3 := hid hs
  have HM12 := hid (HM11.out.below hb)
  have HB12 := hid (below_then HB11.out hb)
  have HWw12 := hid hb
  obtain ⟨Av3, cv3, rfl⟩ := hs.form
  clear hs hb
  clear HM11 HB11
  go_wp2_with fail
  refine (Transpose_any w12 mb 0x1d B n (HM12.out _ _ _ (by simp))).mono ?_
  rintro e w13 ⟨mbt, BT, rfl, hm, hl, he, hb⟩
  rw [LB.out] at hm he
  have EBT := hid (And.intro hl he)
  have HM13 := hid (HM12.out.cons hb hm)
  have HB13 := hid (below_then HB12.out hb)
  have HWw13 := hid hb
  clear hm hl he hb
  clear HM12 HB12
  go_wp2_with fail
  refine (Transpose_any w13 ma 0x1d A n (HM13.out _ _ _ (by simp))).mono ?_
  rintro e w14 ⟨mat_, AT, rfl, hm, hl, he, hb⟩
  rw [LA.out] at hm he
  have EAT := hid (And.intro hl he)
  have HM14 := hid (HM13.out.cons hb hm)
  have HB14 := hid (below_then HB13.out hb)
  have HWw14 := hid hb
  clear hm hl he hb
  clear HM13 HB13
  go_wp2_with fail
  refine (product_any w14 mbt mat_ 0x1d BT AT n n (HM14.out _ _ _ (by simp)) (HM14.out _ _ _ (by simp)) EAT.out.1).mono ?_
  rintro e w15 ⟨v4, T4, rfl, hs, hl, hn, he, hb⟩
  have HS4 := hid (And.intro hl (And.intro hn he))
  have HVT4 := hid hs
  have HM15 := hid (HM14.out.below hb)
  have HB15 := hid (below_then HB14.out hb)
  have HWw15 := hid hb
  obtain ⟨AT4, cT4, rfl⟩ := hs.form
  clear hs hl hn he hb
  have e34 : TT = T4 := trans_rows LA.out LB.out LAB.out EAB.out EAT.out EBT.out ETT.out (by have := (HM15.out mt TT n (by simp)).len; exact this) HS4.out
  subst e34
  clear HM14 HB14
  go_wp2_with fail
  refine (sameRows_yes w15 _ _ TT ((((HVv3.out.below HWw13.out).below HWw14.out).below HWw15.out)) HVT4.out (by have := ETT.out.1; omega)).mono ?_
  rintro e wy ⟨rfl, nn, rfl⟩
  have HM16 := hid (HM15.out.below (below_drewN (Below.refl _ _) nn))
  have HB16 := hid (below_drewN HB15.out nn)
  generalize w15.drewN nn = wy at *
  clear HM15 HB15 HVT4 HVv3 HS4
  go_wp2_with fail
  refine (Invert_any wy ma 0x1d A n (HM16.out _ _ _ (by simp)) LA.out (by omega)).mono ?_
  rintro e w17 ⟨hb, ⟨k, hk, hrk, rfl⟩ | ⟨mx, X, rfl, hmx, hlx, hp1, hp2⟩⟩
  · have HM17 := hid (HM16.out.below hb)
    have HB17 := hid (below_then HB16.out hb)
    have HRK := hid hrk
    clear hb hrk HM16 HB16
    go_wp2_with fail
    refine (Rank_any w17 ma 0x1d A n (HM17.out _ _ _ (by simp))).mono ?_
    rintro e w18 ⟨k', rfl, hk', hb⟩
    rw [LA.out] at hk'
    obtain rfl : k' = k := hk'.unique HRK.out
    have HB18 := hid (below_then HB17.out hb)
    clear hb hk' HM17 HB17
    go_wp2_with fail
    refine (taken_any w18).mono ?_
    rintro e w19 ⟨rfl, hb⟩
    have HE := hid (below_then HB18.out hb)
    clear hb
    go_wp2
    go_ret
    exact ⟨rfl, HE.out⟩
  · have HM17 := hid (HM16.out.cons hb hmx)
    have HB17 := hid (below_then HB16.out hb)
    have HP1 := hid hp1
    have HP2 := hid hp2
    have LX := hid hlx
    clear hb hmx hlx hp1 hp2 HM16 HB16
    go_wp2_with fail
    refine (Invert_any w17 mx 0x1d X n (HM17.out _ _ _ (by simp)) LX.out (by omega)).mono ?_
    rintro e w18 ⟨hb, ⟨k, hk, hrk, rfl⟩ | ⟨my, Y, rfl, hmy, hly, hy1, hy2⟩⟩
    · exact absurd (hrk.unique (Mx.full_of_inverse HF.out.gen HP1.out)) (by omega)
    have HM18 := hid (HM17.out.cons hb hmy)
    have HB18 := hid (below_then HB17.out hb)
    obtain rfl : Y = A := rows_eq (by have := LA.out; omega) hmy.len (by have := (HM17.out ma A n (by simp)).len; exact this) (fun i j hi hj => Mx.inverse_twice HP1.out hy1 i j (by omega) hj)
    clear hb hmy hly hy1 hy2 HM17 HB17
    go_wp2_with fail
    refine (Rank_any w18 ma 0x1d Y n (HM18.out _ _ _ (by simp))).mono ?_
    rintro e w19 ⟨k', rfl, hk', hb⟩
    rw [LA.out] at hk'
    obtain rfl : n = k' := (hk'.unique (Mx.full_of_inverse HF.out.gen HP2.out)).symm
    have HM19 := hid (HM18.out.below hb)
    have HB19 := hid (below_then HB18.out hb)
    clear hb hk' HM18 HB18
    go_wp2_with fail
    refine (product_any w19 ma mx 0x1d Y X n n (HM19.out _ _ _ (by simp)) (HM19.out _ _ _ (by simp)) LX.out).mono ?_
    rintro e w20 ⟨v5, T5, rfl, hs, hl, hn, he, hb⟩
    have HS5 := hid (And.intro hl (And.intro hn he))
    have HVT5 := hid hs
    have HM20 := hid (HM19.out.below hb)
    have HB20 := hid (below_then HB19.out hb)
    have HWw20 := hid hb
    obtain ⟨AT5, cT5, rfl⟩ := hs.form
    clear hs hl hn he hb
    clear HM19 HB19
    go_wp2_with fail
    refine (Rows_read w20 mo 0x1d O n (HM20.out _ _ _ (by simp))).mono ?_
    rintro e w21 ⟨v6, rfl, hs, hb⟩
    have HVv6 := hid hs
    have HM21 := hid (HM20.out.below hb)
    have HB21 := hid (below_then HB20.out hb)
    have HWw21 := hid hb
    obtain ⟨Av6, cv6, rfl⟩ := hs.form
    clear hs hb
    have e5 : T5 = O := inv_prod (HS5.out.1.trans LA.out) HS5.out.2.1 LO.out (by have := (HM21.out mo O n (by simp)).len; exact this) (fun i j hi hj => HS5.out.2.2 i j (by have := LA.out; omega) hj) HP1.out EO.out
    subst e5
    clear HM20 HB20
    go_wp2_with fail
    refine (sameRows_yes w21 _ _ T5 (HVT5.out.below HWw21.out) HVv6.out (by have := LO.out; omega)).mono ?_
    rintro e wa ⟨rfl, nn, rfl⟩
    have HM22 := hid (HM21.out.below (below_drewN (Below.refl _ _) nn))
    have HB22 := hid (below_drewN HB21.out nn)
    generalize w21.drewN nn = wa at *
    clear HM21 HB21 HVT5 HVv6 HS5
    go_wp2_with fail
    refine (product_any wa mx ma 0x1d X Y n n (HM22.out _ _ _ (by simp)) (HM22.out _ _ _ (by simp)) LA.out).mono ?_
    rintro e w23 ⟨v7, T7, rfl, hs, hl, hn, he, hb⟩
    have HS7 := hid (And.intro hl (And.intro hn he))
    have HVT7 := hid hs
    have HM23 := hid (HM22.out.below hb)
    have HB23 := hid (below_then HB22.out hb)
    have HWw23 := hid hb
    obtain ⟨AT7, cT7, rfl⟩ := hs.form
    clear hs hl hn he hb
    clear HM22 HB22
    go_wp2_with fail
    refine (Rows_read w23 mo 0x1d T5 n (HM23.out _ _ _ (by simp))).mono ?_
    rintro e w24 ⟨v8, rfl, hs, hb⟩
    have HVv8 := hid hs
    have HM24 := hid (HM23.out.below hb)
    have HB24 := hid (below_then HB23.out hb)
    have HWw24 := hid hb
    obtain ⟨Av8, cv8, rfl⟩ := hs.form
    clear hs hb
    have e7 : T7 = T5 := inv_prod (HS7.out.1.trans LX.out) HS7.out.2.1 LO.out (by have := (HM24.out mo T5 n (by simp)).len; exact this) (fun i j hi hj => HS7.out.2.2 i j (by have := LX.out; omega) hj) HP2.out EO.out
    subst e7
    clear HM23 HB23
    go_wp2_with fail
    refine (sameRows_yes w24 _ _ T7 (HVT7.out.below HWw24.out) HVv8.out (by have := LO.out; omega)).mono ?_
    rintro e wb ⟨rfl, nn2, rfl⟩
    have HM25 := hid (HM24.out.below (below_drewN (Below.refl _ _) nn2))
    have HB25 := hid (below_drewN HB24.out nn2)
    generalize w24.drewN nn2 = wb at *
    clear HM24 HB24 HVT7 HVv8 HS7
    go_wp2_with fail
    refine (Rows_read wb my 0x1d Y n (HM25.out _ _ _ (by simp))).mono ?_
    rintro e w26 ⟨v9, rfl, hs, hb⟩
    have HVv9 := hid hs
    have HM26 := hid (HM25.out.below hb)
    have HB26 := hid (below_then HB25.out hb)
    have HWw26 := hid hb
    obtain ⟨Av9, cv9, rfl⟩ := hs.form
    clear hs hb
    clear HM25 HB25
    go_wp2_with fail
    refine (Rows_read w26 ma 0x1d Y n (HM26.out _ _ _ (by simp))).mono ?_
    rintro e w27 ⟨v10, rfl, hs, hb⟩
    have HVv10 := hid hs
    have HM27 := hid (HM26.out.below hb)
    have HB27 := hid (below_then HB26.out hb)
    have HWw27 := hid hb
    obtain ⟨Av10, cv10, rfl⟩ := hs.form
    clear hs hb
    clear HM26 HB26
    go_wp2_with fail
    refine (sameRows_yes w27 _ _ Y (HVv9.out.below HWw27.out) HVv10.out (by have := LA.out; omega)).mono ?_
    rintro e wc ⟨rfl, nn3, rfl⟩
    have HB28 := hid (below_drewN HB27.out nn3)
    generalize w27.drewN nn3 = wc at *
    clear HM27 HB27 HVv9 HVv10
    go_wp2_with fail
    refine (taken_any wc).mono ?_
    rintro e w29 ⟨rfl, hb⟩
    have HE := hid (below_then HB28.out hb)
    clear hb
    go_wp2
    go_ret
    exact ⟨rfl, HE.out⟩
end Go.Proofs.Ytkklonldplekcaa
