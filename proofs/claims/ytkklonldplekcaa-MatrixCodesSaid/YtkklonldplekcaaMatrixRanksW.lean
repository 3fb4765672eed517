/- The walk of the law MatrixRanks. -/
import Derived.Test.YtkklonldplekcaaMxX
import Derived.Test.YtkklonldplekcaaMxC
namespace Go.Proofs.Ytkklonldplekcaa
open Go.RowKit
theorem app_old {B : Nat} {w0 w w' : World} {ts : List Thing} {v u : Value} {vs : List Value} {M : List (List UInt8)} {S : List UInt8} {o : Obj} (h : Fam B w0 w (ts ++ gridT v vs M)) (hB : B = w0.heap.size) (hg : (w.alloc o).grownBy w' v.ownBlock) (hu : SlB w0 u S) : SlB w' u S := by
  have hb := h.base.alloc h.size o
  exact hu.below ((hB ▸ hb).trans ((Fr.of_grown hg).to_below (fun k hk e => by
    have h1 := (h.own (i := ts.length + 0) (e := 22) (s := 1) (n := M.length) (v := v) (xs := vs) (by rw [get_at]; rfl)).2 k e
    omega) (by have := h.size; simp; omega)))
theorem app_new {B : Nat} {w0 w w' : World} {ts : List Thing} {v u : Value} {vs : List Value} {M : List (List UInt8)} {S : List UInt8} {o : Obj} {b : Nat} (_ : Fam B w0 w (ts ++ gridT v vs M)) (hg : (w.alloc o).grownBy w' v.ownBlock) (hu : OwnB w b u S) (hb : ∀ k, v.ownBlock = some k → k < b) : SlB w' u S := by
  have h1 : OwnB (w.alloc o) b u S := OwnB.alloc hu o
  exact (h1.fr (Fr.of_grown hg) fun k hk e => by
    have := hb k e
    have := (World.ownsRow.lt hu k hk).1
    omega).sl
/-- all elements are 0, up to row k, and of it up to j -/
def Nil2 (M : List (List UInt8)) (n k j : Nat) (z : Bool) : Prop := z = true ↔ (∀ a b, a < k → b < n → ent M a b = 0) ∧ ∀ b, b < j → ent M k b = 0
theorem Nil2.next {M : List (List UInt8)} {n k j : Nat} {z : Bool} (h : Nil2 M n k j z) (y : Bool) (hy : y = true ↔ ent M k j = 0) : Nil2 M n k (j + 1) (z && y) := by
  unfold Nil2 at *
  rw [Bool.and_eq_true, h, hy]
  constructor
  · rintro ⟨⟨h1, h2⟩, h3⟩
    refine ⟨h1, fun b hb => ?_⟩
    by_cases e : b = j
    · rw [e]; exact h3
    · exact h2 b (by omega)
  · rintro ⟨h1, h2⟩
    exact ⟨⟨h1, fun b hb => h2 b (by omega)⟩, h2 j (by omega)⟩
theorem Nil2.row {M : List (List UInt8)} {n k : Nat} {z : Bool} (h : Nil2 M n k n z) : Nil2 M n (k + 1) 0 z := by
  unfold Nil2 at *
  rw [h]
  constructor
  · rintro ⟨h1, h2⟩
    refine ⟨fun a b ha hb => ?_, fun b hb => by omega⟩
    by_cases e : a = k
    · rw [e]; exact h2 b hb
    · exact h1 a b (by omega) hb
  · rintro ⟨h1, _⟩
    exact ⟨fun a b ha hb => h1 a b (by omega) hb, fun b hb => h1 k b (by omega) hb⟩
theorem Nil2.all {q : UInt8} {M : List (List UInt8)} {n r k : Nat} {z : Bool} (h : Nil2 M n r 0 z) (hk : Mx.Rk q (ent M) r n k) : z = ((k : Int) == 0) := by
  have h1 := hk.zero_iff
  unfold Nil2 at h
  have h2 : z = true ↔ k = 0 := by
    rw [h, h1]
    exact ⟨fun h => h.1, fun h => ⟨h, fun b hb => by omega⟩⟩
  by_cases e : k = 0
  · rw [e] at h2 ⊢
    rw [h2.2 rfl]; rfl
  · have e1 : z = false := by
      cases z
      · rfl
      · exact absurd (h2.1 rfl) e
    rw [e1]
    symm
    rw [beq_eq_false_iff_ne]
    omega
/-- the sum of multiples of the rows adds nothing -/
theorem sum_rank {q : UInt8} (_ : Gf.Gen q) {M MT : List (List UInt8)} {S F : List UInt8} {n k k' : Nat} (hT : MT.length = n ∧ ∀ a b, a < n → b < M.length → ent MT a b = ent M b a) (hS : ∀ i, i < MT.length → S.getD i 0 = Mx.ap q (ent MT) M.length (fun j => F.getD j 0) i) (hk : Mx.Rk q (ent M) M.length n k) (hk' : Mx.Rk q (ent (M ++ [S])) (M ++ [S]).length n k') : k' = k := by
  rw [List.length_append, List.length_singleton] at hk'
  refine (hk.congr hk' fun x => (Mx.more_null (fun i => F.getD i 0) (fun i j hi _ => ent_snoc M S i j hi) (fun j hj => ?_) x).symm).symm
  rw [ent_last, hS j (by rw [hT.1]; exact hj)]
  exact Mx.sm_congr _ fun i hi => by
    rw [hT.2 j i hj hi]
theorem lone_up {q : UInt8} (g : Gf.Gen q) {M MT TT : List (List UInt8)} {Z F : List UInt8} {n r k k' : Nat} (_ : M.length = r) (hT : MT.length = n ∧ ∀ a b, a < n → b < r → ent MT a b = ent M b a) (hZ : ∀ j, Z.getD j 0 = 0) (hTT : TT.length = r ∧ ∀ a b, a < r → b < n + 1 → ent TT a b = ent (MT ++ [Z]) b a) (hF : F.length = n) (hk : Mx.Rk q (ent M) r n k) (hk' : Mx.Rk q (ent (TT ++ [F ++ [1]])) (TT ++ [F ++ [1]]).length (n + 1) k') : k' = k + 1 := by
  rw [List.length_append, List.length_singleton, hTT.1] at hk'
  have e0 : MT.length = n := hT.1
  refine Mx.lone_rank g (M := ent M) (fun i j hi hj => ?_) (fun i hi => ?_) ?_ hk hk'
  · rw [ent_snoc _ _ _ _ (by rw [hTT.1]; exact hi), hTT.2 i j hi (by omega), ent_snoc _ _ _ _ (by omega), hT.2 j i hj hi]
  · rw [ent_snoc _ _ _ _ (by rw [hTT.1]; exact hi), hTT.2 i n hi (by omega), ← e0, ent_last]
    exact hZ i
  · rw [← hTT.1, ent_last, ← hF, List.getD_eq_getElem?_getD, List.getElem?_append_right (Nat.le_refl _), Nat.sub_self]; rfl
set_option maxRecDepth 100000 in
set_option maxHeartbeats 16000000 in
theorem MatrixRanks_walk (W : World) (a b : Int) (ha : -9223372036854775808 ≤ a ∧ a ≤ 9223372036854775807) (hb : -9223372036854775808 ≤ b ∧ b ≤ 9223372036854775807) (uc u2 u3 : Value) (C1 C2 C3 : List UInt8) (h1 : SlB W uc C1) (h2 : SlB W u2 C2) (h3 : SlB W u3 C3) :
    Calls Try.prog 7 #[.agg #[.int .i64 a, .int .i64 b, uc], u2, u3] W fun e w' => e = .returned (.bool true) ∧ Below W.heap.size W w' := by
  obtain ⟨A1, k1, rfl⟩ := h1.form
  obtain ⟨A2, k2, rfl⟩ := h2.form
  obtain ⟨A3, k3, rfl⟩ := h3.form
  have HX1 := hid h1
  have HX2 := hid h2
  have HX3 := hid h3
  have HSA := hid (size_q a ha.1 ha.2)
  have HSB := hid (size_q b hb.1 hb.2)
  obtain ⟨r1, r6⟩ := sz6_le a
  obtain ⟨n1, n6⟩ := sz6_le b
  generalize sz6 a = r at *
  generalize sz6 b = n at *
  clear h1 h2 h3 ha hb
  go_enter Try.func7, Try.ntmps7
  go_upto_region 1 with (fail)
  refine Code.seen (fun V => Below W.heap.size W V ∧ V.heap[W.heap.size]? = some (.cells #[.int .i64 a, .int .i64 b, .slice A1 C1.length k1] 24 (0, 0))) ⟨(Below.refl _ _).alloc (Nat.le_refl _) _, heap_alloc_new _ _⟩ fun w0 H0 => ?_
  have q0 : w0.cell? ⟨W.heap.size, 0, none⟩ = some (.int .i64 a) := by rw [blk_cell H0.out.2]; rfl
  have q1 : w0.cell? ⟨W.heap.size, 1, none⟩ = some (.int .i64 b) := by rw [blk_cell H0.out.2]; rfl
  go_quiet ((first | (go_at_call 15; with_reducible exact Calls.quiet_of (HSA.out _ _)) | (go_at_call 15; with_reducible exact Calls.quiet_of (HSB.out _ _))))
  have HB0 := hid (below_drewN H0.out.1 nq)
  have q2 : (w0.drewN nq).cell? ⟨W.heap.size, 2, none⟩ = some (.slice A1 C1.length k1) := by rw [show (w0.drewN nq).cell? ⟨W.heap.size, 2, none⟩ = w0.cell? ⟨W.heap.size, 2, none⟩ from (below_drewN (Below.refl w0.heap.size w0) nq).cell (blk_lt H0.out.2), blk_cell H0.out.2]; rfl
  generalize w0.drewN nq = w0' at *
  clear q0 q1 H0 HSA HSB
  go_wp2_with fail
  refine (made_any w0' r n (.slice A1 C1.length k1) C1 (HX1.out.below HB0.out) ⟨by omega, by omega⟩ ⟨by omega, by omega⟩).mono ?_
  rintro e w1 ⟨m, M, rfl, hm, hl, _, hb⟩
  have HM1 := hid ((Mats.nil w0').cons hb hm)
  have HL := hid hl
  have HB1 := hid (below_then HB0.out hb)
  have HG : Hid (Gf.Gen 0x1d) := hid (by obtain ⟨⟨fg, _, _, hF, _⟩, _⟩ := hm; exact hF.gen)
  clear hm hl hb q2 HB0
  go_wp2_with fail
  refine (made_any w1 n r (.slice A2 C2.length k2) C2 (HX2.out.below HB1.out) ⟨by omega, by omega⟩ ⟨by omega, by omega⟩).mono ?_
  rintro e w2 ⟨mn, N, rfl, hm, hl, _, hb⟩
  have HM2 := hid (HM1.out.cons hb hm)
  have HLN := hid hl
  have HB2 := hid (below_then HB1.out hb)
  clear hm hl hb HM1 HB1
  go_wp2_with fail
  refine (Rank_any w2 m 0x1d M n (HM2.out _ _ _ (by simp))).mono ?_
  rintro e w3 ⟨p, rfl, hk, hb⟩
  have HP := hid hk
  have HM3 := hid (HM2.out.below hb)
  have HB3 := hid (below_then HB2.out hb)
  clear hk hb
  rw [HL.out] at HP
  have hpr : p ≤ r := HP.out.le_rows
  have hpn : p ≤ n := HP.out.le_cols
  clear HM2 HB2
  go_wp2_with fail
  refine (Mul_mat w3 m mn 0x1d M N n r (HM3.out _ _ _ (by simp)) (HM3.out _ _ _ (by simp)) HLN.out).mono ?_
  rintro e w4 ⟨mp, P, rfl, hm, hl, he, hb⟩
  have HM4 := hid (HM3.out.cons hb hm)
  have EP := hid (And.intro hl he)
  have HB4 := hid (below_then HB3.out hb)
  clear hm hl he hb HM3 HB3
  obtain ⟨mi, hmi⟩ : ∃ mi, min r n = mi := ⟨_, rfl⟩
  have hmin : (if n < r then (n : Int) else (r : Int)) = (mi : Int) := by split <;> omega
  have hpm : (p : Int) ≤ (mi : Int) := by omega
  clear hmi
  go_wp2_with fail
  refine (Transpose_any w4 m 0x1d M n (HM4.out _ _ _ (by simp))).mono ?_
  rintro e w5 ⟨mt, MT, rfl, hm, hl, he, hb⟩
  rw [HL.out] at hm he
  have ET := hid (And.intro hl he)
  have HM5 := hid (HM4.out.cons hb hm)
  have HB5 := hid (below_then HB4.out hb)
  clear hm hl he hb
  clear HM4 HB4
  go_wp2_with fail
  refine (Rank_any w5 mt 0x1d MT r (HM5.out _ _ _ (by simp))).mono ?_
  rintro e w6 ⟨pt, rfl, hk, hb⟩
  have HPT := hid hk
  have HM6 := hid (HM5.out.below hb)
  have HB6 := hid (below_then HB5.out hb)
  clear hk hb
  have hpt : pt = p := HP.out.tr HG.out (by have := HPT.out; rw [ET.out.1] at this; exact this.ext HG.out fun i j hi hj => (ET.out.2 i j hi hj).symm)
  subst hpt
  clear HM5 HB5 HPT
  go_wp2_with fail
  refine (Rank_any w6 mp 0x1d P r (HM6.out _ _ _ (by simp))).mono ?_
  rintro e w7 ⟨pp, rfl, hk, hb⟩
  have HPP := hid hk
  have HM7 := hid (HM6.out.below hb)
  have HB7 := hid (below_then HB6.out hb)
  clear hk hb
  clear HM6 HB6
  go_wp2_with fail
  refine (Rank_any w7 mn 0x1d N r (HM7.out _ _ _ (by simp))).mono ?_
  rintro e w8 ⟨pn, rfl, hk, hb⟩
  have HPN := hid hk
  have HM8 := hid (HM7.out.below hb)
  have HB8 := hid (below_then HB7.out hb)
  clear hk hb
  have hle := Mx.Rk.prod_le (A := ent M) (B := ent N) (r := r) (m := n) (n := r) HG.out HP.out (by have := HPN.out; rw [HLN.out] at this; exact this) (by have := HPP.out; rw [EP.out.1, HL.out] at this; exact this.ext HG.out fun i j hi hj => (EP.out.2 i j (by rw [HL.out]; exact hi) hj).symm)
  obtain ⟨mj, hmj⟩ : ∃ mj, min pt pn = mj := ⟨_, rfl⟩
  have hmin2 : (if pn < pt then (pn : Int) else (pt : Int)) = (mj : Int) := by split <;> omega
  have hpm2 : (pp : Int) ≤ (mj : Int) := by omega
  clear HM7 HB7 HPP HPN hmj hle hmin hpm
  go_wp2_with fail
  clear hmin2 hpm2
  refine (Rows_read w8 m 0x1d M n (HM8.out _ _ _ (by simp))).mono ?_
  rintro e w9 ⟨v9, rfl, hs, hb⟩
  have HS := hid hs
  have HM9 := hid (HM8.out.below hb)
  have HB9 := hid (below_then HB8.out hb)
  obtain ⟨A9, c9, e9⟩ := hs.form
  rw [HL.out] at e9
  subst e9
  have HLM : Hid (∀ i, i < r → (M.getD i []).length = n) := hid (by have := (HM9.out m M n (by simp)).len; rw [HL.out] at this; exact this)
  clear hs hb HM8 HB8
  go_wp2
  go_loop [14, 16, 18, 76] (fun z _ _ x => ∃ (k : Nat) (zb : Bool), k ≤ r ∧ x = .int .i64 k ∧ z = .bool zb ∧ Hid (Nil2 M n k 0 zb)) (fun _ _ _ x => r - (intOf x).toNat)
  case atStart => exact ⟨0, true, Nat.zero_le _, rfl, rfl, hid ⟨fun _ => ⟨fun a b ha => by omega, fun b hb => by omega⟩, fun _ => rfl⟩⟩
  case round =>
    obtain ⟨k, zb, hk, rfl, rfl, hz⟩ := hrel
    by_cases hlt : k < r
    · obtain ⟨R, o, v1, rfl, c0, s0⟩ := HS.out.at_ k (by rw [HL.out]; exact hlt)
      obtain ⟨A3, c3, e3⟩ := s0.form
      rw [HLM.out k hlt] at e3
      subst e3
      obtain ⟨b, o3, rfl, hbytes⟩ := s0.byte (by rw [HLM.out k hlt]; omega)
      rw [HLM.out k hlt] at hbytes
      have HBY := hid hbytes
      have i0 : (0 : Int) ≤ (k : Int) := by omega
      have i1 : (k : Int) < (r : Int) := by omega
      clear s0 hbytes
      go_wp2
      go_loop [14, 18, 82] (fun z _ x => ∃ (j : Nat) (zb : Bool), j ≤ n ∧ x = .int .i64 j ∧ z = .bool zb ∧ Hid (Nil2 M n k j zb)) (fun _ _ x => n - (intOf x).toNat)
      case atStart => exact ⟨0, zb, Nat.zero_le _, rfl, rfl, hz⟩
      case round =>
        clear hz
        obtain ⟨j, zb, hj, rfl, rfl, hz⟩ := hrel
        by_cases hjl : j < n
        · have x0 := HBY.out j hjl
          obtain ⟨x, hx⟩ : ∃ x, (M.getD k []).getD j 0 = x := ⟨_, rfl⟩
          rw [hx] at x0
          have HX : Hid (ent M k j = x) := hid hx
          have j0 : (0 : Int) ≤ (j : Int) := by omega
          have j1 : (j : Int) < (n : Int) := by omega
          clear hx
          by_cases hx0 : x = 0
          · subst hx0
            have x1 : w9.cell? ⟨b, o3 + j, none⟩ = some (.int .u8 0) := x0
            have R := hid (hz.out.next true ⟨fun _ => HX.out, fun _ => rfl⟩)
            rw [Bool.and_true] at R
            clear x0
            cases zb
            all_goals
              go_wp2
              go_round
              case rel => exact ⟨j + 1, _, by omega, by go_num, rfl, hid R.out⟩
              case measure => simp [intOf]; omega
          · have hne : ((x.toNat : Int) == 0) = false := by rw [beq_eq_false_iff_ne]; intro e; exact hx0 (UInt8.toNat_inj.1 (by simpa using e))
            have hne2 : (x.toNat == 0) = false := by rw [beq_eq_false_iff_ne]; intro e; exact hx0 (UInt8.toNat_inj.1 (by simpa using e))
            have R := hid (hz.out.next false ⟨(fun h => by cases h), fun h => absurd (HX.out.symm.trans h) hx0⟩)
            rw [Bool.and_false] at R
            clear hx0
            cases zb
            all_goals
              go_wp2
              go_round
              case rel => exact ⟨j + 1, _, by omega, by go_num, rfl, hid R.out⟩
              case measure => simp [intOf]; omega
        · obtain rfl : j = n := by omega
          have R := hid hz.out.row
          go_wp2
          go_round
          case rel => exact ⟨k + 1, zb, by omega, by go_num, rfl, hid R.out⟩
          case measure => simp [intOf]; omega
    · obtain rfl : k = r := by omega
      have HZ := hid (hz.out.all HP.out)
      clear hz
      go_wp2_with fail
      refine (Transpose_any w9 m 0x1d M n (HM9.out _ _ _ (by simp))).mono ?_
      rintro e w11 ⟨mt2, MT2, rfl, hm, hl, he, hb⟩
      rw [HL.out] at hm he
      have ET2 := hid (And.intro hl he)
      have HM11 := hid (HM9.out.cons hb hm)
      have HB11 := hid (below_then HB9.out hb)
      clear hm hl he hb
      clear HM9 HB9 HS
      go_wp2_with fail
      refine (column_any w11 (.slice A3 C3.length k3) C3 (HX3.out.below HB11.out) k (by omega)).mono ?_
      rintro e w12 ⟨vf, rfl, ho, hb⟩
      obtain ⟨F, hF⟩ : ∃ F, colOf C3 k = F := ⟨_, rfl⟩
      have hFl := colOf_length C3 k
      rw [hF] at ho hFl
      have HF := hid ho.sl
      have HFL := hid hFl
      obtain ⟨Af, cf, rfl⟩ := ho.form
      have HM12 := hid (HM11.out.below hb)
      have HB12 := hid (below_then HB11.out hb)
      clear ho hb hF hFl HM11 HB11
      go_wp2_with fail
      refine (Apply_any w12 mt2 0x1d MT2 k (HM12.out _ _ _ (by simp)) _ F HF.out HFL.out).mono ?_
      rintro e w13 ⟨vs0, S, rfl, ho, hl, he, hb⟩
      have HS1 := hid ho.sl
      have HSL := hid hl
      have HSE := hid he
      obtain ⟨As, cs, rfl⟩ := ho.form
      have HM13 := hid (HM12.out.below hb)
      have HB13 := hid (below_then HB12.out hb)
      clear ho hl he hb HM12 HB12 HF
      go_wp2_with fail
      refine (Std_any w13).mono ?_
      rintro e w14 ⟨fg, rfl, -, hF, hb⟩
      have HFG := hid hF
      have HM14 := hid (HM13.out.below hb)
      have HB14 := hid (below_then HB13.out hb)
      have HS14 := hid (HS1.out.below hb)
      clear hF hb HM13 HB13 HS1
      go_wp2_with fail
      refine (Rows_any w14.heap.size w14 w14 [] (Fam.start w14) m 0x1d M n (HM14.out _ _ _ (by simp))).mono ?_
      rintro e w15 ⟨v15, rfl, htold⟩
      obtain ⟨R, c, vs, rfl, hvl, hf⟩ := htold.parts
      have HFM := hid hf
      have HVL := hid hvl
      have hMl : M.length ≤ 1099511627776 := by have := HL.out; omega
      clear htold hvl hf
      go_wp2_with (at_builtin; refine wpList_appG rfl (.tmp 105) (.tmp 107) rfl (.slice (some ⟨R, 0, none⟩) M.length c) M.length vs As S.length cs w15.heap.size 22 rfl rfl (World.ownsRow.alloc ((HFM.out.own (i := 0) rfl).1) _) (heap_alloc_new _ _) hMl ?_; intro g9 cap9 wq ho9 hg9 hn9; have H9 := hid (app_rows (HFM.out.below ((Below.refl _ _).alloc (Nat.le_refl _) (.cells #[.slice As S.length cs] 22 (0, 0)))) HVL.out ho9 hg9 hn9 ((fun _ hg9 => app_old HFM.out rfl hg9 HS14.out) wq hg9)); clear ho9 hg9 hn9)
      have HM16 := hid (HM14.out.below H9.out.2)
      have HB16 := hid (below_then HB14.out H9.out.2)
      have HLS := hid (show 0 < (M ++ [S]).length ∧ (M ++ [S]).length ≤ 256 by rw [List.length_append, List.length_singleton]; have := HL.out; omega)
      have HNS := hid (rows_snoc_len (M := M) (S := S) (n := n) (fun i hi => HLM.out i (by have := HL.out; omega)) (by have := HSL.out; have := ET2.out.1; omega))
      clear HM14 HB14 HS14
      go_wp2_with fail
      refine (New_any wq fg 0x1d (HFG.out.next H9.out.2) _ (M ++ [S]) n H9.out.1 HLS.out HNS.out ⟨by omega, by omega⟩).mono ?_
      rintro e w17 ⟨mm, rfl, hm, hb⟩
      have HM17 := hid (HM16.out.cons hb hm)
      have HB17 := hid (below_then HB16.out hb)
      clear hm hb
      clear HM16 HB16 H9 HFM HVL HFG
      go_wp2_with fail
      refine (Transpose_any w17 m 0x1d M n (HM17.out _ _ _ (by simp))).mono ?_
      rintro e w18 ⟨mt3, MT3, rfl, hm, hl, he, hb⟩
      rw [HL.out] at hm he
      have ET3 := hid (And.intro hl he)
      have HM18 := hid (HM17.out.cons hb hm)
      have HB18 := hid (below_then HB17.out hb)
      clear hm hl he hb
      clear HM17 HB17
      go_wp2_with fail
      refine (Rows_any w18.heap.size w18 w18 [] (Fam.start w18) mt3 0x1d MT3 k (HM18.out _ _ _ (by simp))).mono ?_
      rintro e w19 ⟨v19, rfl, htold⟩
      obtain ⟨R, c, vs, rfl, hvl, hf⟩ := htold.parts
      obtain ⟨w20, hmk, ho, hb⟩ := make_bytes w19 k (by omega)
      have HFM := hid (hf.below hb)
      have HVL := hid hvl
      have HOZ := hid ho
      have HVK := hid (fun j hj => ((hf.own (i := 0) rfl).2 j hj).2)
      have hMl : MT3.length ≤ 1099511627776 := by have := ET3.out.1; omega
      obtain ⟨gz, hgz⟩ : ∃ gz, w19.heap.size = gz := ⟨_, rfl⟩
      rw [hgz] at hmk HOZ HVK
      clear htold hvl hf ho hb hgz
      go_wp2_with (at_builtin; refine wpList_appG rfl (.tmp 115) (.tmp 118) rfl (.slice (some ⟨R, 0, none⟩) MT3.length c) MT3.length vs (some ⟨gz, 0, none⟩) k k w20.heap.size 22 rfl rfl (World.ownsRow.alloc ((HFM.out.own (i := 0) rfl).1) _) (heap_alloc_new _ _) hMl ?_; intro g9 cap9 wq ho9 hg9 hn9; have H9 := hid (app_rows (HFM.out.below ((Below.refl _ _).alloc (Nat.le_refl _) (.cells #[.slice (some ⟨gz, 0, none⟩) k k] 22 (0, 0)))) HVL.out ho9 hg9 hn9 ((fun _ hg9 => app_new HFM.out hg9 HOZ.out HVK.out) wq hg9)); clear ho9 hg9 hn9)
      clear hmk
      have HM21 := hid (HM18.out.below H9.out.2)
      have HB21 := hid (below_then HB18.out H9.out.2)
      have HLS2 := hid (show 0 < (MT3 ++ [List.replicate k (0 : UInt8)]).length ∧ (MT3 ++ [List.replicate k (0 : UInt8)]).length ≤ 256 by rw [List.length_append, List.length_singleton]; have := ET3.out.1; omega)
      have HNS2 := hid (rows_snoc_len (M := MT3) (S := List.replicate k (0 : UInt8)) (n := k) (by have := (HM18.out mt3 MT3 k (by simp)).len; exact this) (by simp))
      have HSL9 := hid H9.out.1
      clear HM18 HB18 H9 HFM HVL HOZ HVK
      refine (Std_any wq).mono ?_
      rintro e w22 ⟨fg2, rfl, -, hF, hb⟩
      have HFG := hid hF
      have HM22 := hid (HM21.out.below hb)
      have HB22 := hid (below_then HB21.out hb)
      have HSL22 := hid (HSL9.out.below hb)
      clear hF hb HM21 HB21 HSL9
      go_wp2_with fail
      refine (New_any w22 fg2 0x1d HFG.out _ (MT3 ++ [List.replicate k (0 : UInt8)]) k HSL22.out HLS2.out HNS2.out ⟨by omega, by omega⟩).mono ?_
      rintro e w23 ⟨mtall, rfl, hm, hb⟩
      have HM23 := hid (HM22.out.cons hb hm)
      have HB23 := hid (below_then HB22.out hb)
      clear hm hb
      have HTL : Hid ((MT3 ++ [List.replicate k (0 : UInt8)]).length = n + 1) := hid (by rw [List.length_append, List.length_singleton, ET3.out.1])
      clear HM22 HB22 HSL22 HFG
      go_wp2_with fail
      refine (Transpose_any w23 mtall 0x1d (MT3 ++ [List.replicate k (0 : UInt8)]) k (HM23.out _ _ _ (by simp))).mono ?_
      rintro e w24 ⟨mtt, TT, rfl, hm, hl, he, hb⟩
      rw [HTL.out] at hm he
      have ETT := hid (And.intro hl he)
      have HM24 := hid (HM23.out.cons hb hm)
      have HB24 := hid (below_then HB23.out hb)
      clear hm hl he hb
      clear HM23 HB23
      go_wp2_with fail
      refine (Rows_any w24.heap.size w24 w24 [] (Fam.start w24) mtt 0x1d TT (n + 1) (HM24.out _ _ _ (by simp))).mono ?_
      rintro e w25 ⟨v25, rfl, htold⟩
      obtain ⟨R, c, vs, rfl, hvl, hf⟩ := htold.parts
      have HF25 := hid hf
      have HVL := hid hvl
      have HB25 := hid hf.base
      clear htold hvl hf
      go_wp2_with fail
      refine (column_any w25 (.slice A3 C3.length k3) C3 (HX3.out.below (below_then HB24.out HB25.out)) n (by omega)).mono ?_
      rintro e w26 ⟨vf, rfl, ho, hb⟩
      obtain ⟨F2, hF⟩ : ∃ F, colOf C3 n = F := ⟨_, rfl⟩
      have hFl := colOf_length C3 n
      rw [hF] at ho hFl
      have HO26 := hid ho
      have HFL2 := hid hFl
      have HF26 := hid (HF25.out.below hb)
      have HOZ : Hid (OwnB w26 0 vf F2) := hid (own_base ho (Nat.zero_le _))
      have HBB := hid hb
      obtain ⟨Af2, cf2, rfl⟩ := ho.form
      have hFl5 : F2.length ≤ 1099511627776 := by omega
      have hMl2 : TT.length ≤ 1099511627776 := by have := ETT.out.1; omega
      have HVK := hid (fun j hj => ((HF25.out.own (i := 0) rfl).2 j hj).2)
      have hone : (1 : Int) = (((1 : UInt8).toNat : Nat) : Int) := rfl
      clear ho hb hF hFl hone
      go_wp2_with (first
        | (at_builtin; refine wpList_appU rfl (.tmp 131) (.tmp 132) rfl (.slice Af2 F2.length cf2) F2 1 w26.heap.size 5 rfl rfl (OwnB.alloc HOZ.out _) (heap_alloc_new _ _) hFl5 ?_; intro g8 cap8 w8 ho8 hg8 hn8; have HB8 := hid (OwnB.grown (HBB.out.alloc HBB.out.size (.cells #[.int .u8 1] 5 (0, 0))) (OwnB.alloc HO26.out _) (Nat.le_refl _) (Nat.le_trans HBB.out.size (by simp)) hg8); have HO8 := hid (own_up ho8 (show w25.heap.size ≤ g8 from (hn8 g8 rfl).elim (fun e => (World.ownsRow.lt HO26.out g8 e).1) (fun e => Nat.le_trans (Nat.le_trans HBB.out.size (by simp)) e))); have HF8 := hid (HF25.out.below HB8.out); clear ho8 hg8 hn8)
        | (at_builtin; refine wpList_appG rfl (.tmp 128) (.tmp 134) rfl (.slice (some ⟨R, 0, none⟩) TT.length c) TT.length vs (some ⟨g8, 0, none⟩) (F2.length + 1) cap8 w8.heap.size 22 rfl rfl (World.ownsRow.alloc ((HF8.out.own (i := 0) rfl).1) _) (heap_alloc_new _ _) hMl2 ?_; intro g9 cap9 wr ho9 hg9 hn9; have H9 := hid (app_rows (HF8.out.below ((Below.refl _ _).alloc (Nat.le_refl _) (.cells #[.slice (some ⟨g8, 0, none⟩) (F2.length + 1) cap8] 22 (0, 0)))) HVL.out ho9 hg9 hn9 (app_new HF8.out hg9 HO8.out HVK.out)); clear ho9 hg9 hn9))
      have HM27 := hid (HM24.out.below H9.out.2)
      have HB27 := hid (below_then HB24.out H9.out.2)
      have HLS3 := hid (show 0 < (TT ++ [F2 ++ [1]]).length ∧ (TT ++ [F2 ++ [1]]).length ≤ 256 by rw [List.length_append, List.length_singleton]; have := ETT.out.1; omega)
      have HNS3 := hid (rows_snoc_len (M := TT) (S := F2 ++ [1]) (n := n + 1) (by have := (HM24.out mtt TT (n + 1) (by simp)).len; exact this) (by rw [List.length_append, HFL2.out]; rfl))
      have HSL9 := hid H9.out.1
      clear HM24 HB24 H9 HF8 HVL HOZ HVK HO26 HF25 HF26 HBB HB8 HO8 HB25
      refine (Std_any wr).mono ?_
      rintro e w28 ⟨fg3, rfl, -, hF, hb⟩
      have HFG := hid hF
      have HM28 := hid (HM27.out.below hb)
      have HB28 := hid (below_then HB27.out hb)
      have HSL28 := hid (HSL9.out.below hb)
      clear hF hb HM27 HB27 HSL9
      go_wp2_with fail
      refine (New_any w28 fg3 0x1d HFG.out _ (TT ++ [F2 ++ [1]]) (n + 1) HSL28.out HLS3.out HNS3.out ⟨by omega, by omega⟩).mono ?_
      rintro e w29 ⟨mup, rfl, hm, hb⟩
      have HM29 := hid (HM28.out.cons hb hm)
      have HB29 := hid (below_then HB28.out hb)
      clear hm hb
      clear HM28 HB28 HSL28 HFG
      go_wp2_with fail
      refine (Rank_any w29 mm 0x1d (M ++ [S]) n (HM29.out _ _ _ (by simp))).mono ?_
      rintro e w30 ⟨pa, rfl, hk, hb⟩
      have HPA := hid hk
      have HM30 := hid (HM29.out.below hb)
      have HB30 := hid (below_then HB29.out hb)
      clear hk hb
      have hpa : pa = pt := sum_rank HG.out ⟨ET2.out.1, fun a b ha hb => ET2.out.2 a b ha (by rw [← HL.out]; exact hb)⟩ (fun i hi => by rw [HL.out]; exact HSE.out i hi) (by rw [HL.out]; exact HP.out) HPA.out
      subst hpa
      clear HM29 HB29 HPA
      go_wp2_with fail
      refine (Rank_any w30 mup 0x1d (TT ++ [F2 ++ [1]]) (n + 1) (HM30.out _ _ _ (by simp))).mono ?_
      rintro e w31 ⟨pb, rfl, hk, hb⟩
      have HPB := hid hk
      have HM31 := hid (HM30.out.below hb)
      have HB31 := hid (below_then HB30.out hb)
      clear hk hb
      have hpb : pb = pa + 1 := lone_up HG.out HL.out ET3.out (fun j => by rw [List.getD_eq_getElem?_getD, List.getElem?_replicate]; split <;> rfl) ETT.out HFL2.out HP.out HPB.out
      subst hpb
      clear HM30 HB30 HPB
      go_wp2_with fail
      refine (taken_any w31).mono ?_
      rintro e w32 ⟨rfl, hb⟩
      have HE := hid (below_then HB31.out hb)
      clear hb
      go_wp2
      go_ret
      exact ⟨by simp, HE.out⟩
end Go.Proofs.Ytkklonldplekcaa
