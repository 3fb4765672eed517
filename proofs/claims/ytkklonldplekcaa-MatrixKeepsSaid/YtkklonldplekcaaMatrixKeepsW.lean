/- The walk of the law MatrixKeeps. -/
import Derived.Test.YtkklonldplekcaaMkD
namespace Go.Proofs.Ytkklonldplekcaa
open Go.RowKit
theorem Told.base_ {B : Nat} {w0 W : World} {ts : List Thing} {M : List (List UInt8)} {v : Value} {k : Nat} (h : Told B w0 W ts M k v) : Below B w0 W := by
  obtain ⟨_, _, _, _, _, hf⟩ := h
  exact hf.base
theorem Told.slBB_ {B : Nat} {w0 W : World} {ts : List Thing} {M : List (List UInt8)} {v : Value} (h : Told B w0 W ts M M.length v) : SlBB W v M := by
  obtain ⟨R, c, vs, rfl, hl, hf⟩ := h.partsT
  exact hf.slBB rfl hl
theorem lit_ints {w : World} {g : Nat} {t : TypeId} {fr : Nat × Nat} (l : List Int) (h : w.heap[g]? = some (.cells (l.map fun (p : Int) => Value.int .i64 p).toArray t fr)) : SlI w (.slice (some ⟨g, 0, none⟩) l.length l.length) l := by
  refine ⟨_, _, rfl, Nat.le_refl _, (fun e => by cases e), fun _ => ⟨g, 0, rfl, fun i hi => ?_⟩⟩
  rw [Nat.zero_add, cell_of_row _ _ _ _ _ _ h]
  simp [hi]
theorem ap_same {M : List (List UInt8)} {n : Nat} {X Y Z : List UInt8} (hY : Y.length = M.length) (hZ : Z.length = M.length) (h1 : ∀ i, i < M.length → Y.getD i 0 = Mx.ap 0x1d (ent M) n (fun j => X.getD j 0) i) (h2 : ∀ i, i < M.length → Z.getD i 0 = Mx.ap 0x1d (ent M) n (fun j => X.getD j 0) i) : Y = Z := by
  apply List.ext_getElem (by omega)
  intro i a b
  have e1 := h1 i (by omega)
  have e2 := h2 i (by omega)
  rw [List.getD_eq_getElem?_getD, List.getElem?_eq_getElem a] at e1
  rw [List.getD_eq_getElem?_getD, List.getElem?_eq_getElem b] at e2
  exact e1.trans e2.symm
/-- the list of one row that a call was told, beside another one -/
theorem one_grid {B : Nat} {w0 w : World} {x y : Value} {X Y : List UInt8} (h : Fam B w0 w [rowT x X, rowT y Y]) : Fam B w0 (w.alloc (.cells #[x] 22 (0, 0))) ([rowT y Y] ++ gridT (.slice (some ⟨w.heap.size, 0, none⟩) 1 1) [x] [X]) := by
  have h1 := h.add (t := ownT 22 1 (.slice (some ⟨w.heap.size, 0, none⟩) 1 1) 1 [x]) ((Below.refl w.heap.size w).alloc (Nat.le_refl _) (.cells #[x] 22 (0, 0))) ⟨⟨rfl, .inr ⟨w.heap.size, 1, #[x], rfl, Nat.zero_le _, heap_alloc_new _ _, Nat.le_refl _, by decide, rfl, rfl⟩⟩, fun k hk => by
    simp only [Value.ownBlock, Option.some.injEq] at hk
    exact ⟨by omega, by simp; omega⟩⟩
  exact Fam.rot (ts := []) (a := rowT y Y) (b := ownT 22 1 (.slice (some ⟨w.heap.size, 0, none⟩) 1 1) 1 [x]) (c := rowT x X) h1
set_option maxRecDepth 100000 in
set_option maxHeartbeats 32000000 in
theorem MatrixKeeps_walk (W : World) (a b : Int) (ha : -9223372036854775808 ≤ a ∧ a ≤ 9223372036854775807) (hb : -9223372036854775808 ≤ b ∧ b ≤ 9223372036854775807) (uc u2 : Value) (C1 C2 : List UInt8) (h1 : SlB W uc C1) (h2 : SlB W u2 C2) :
    Calls Try.prog 5 #[.agg #[.int .i64 a, .int .i64 b, uc], u2] W fun e w' => e = .returned (.bool true) ∧ Below W.heap.size W w' := by
  obtain ⟨A1, k1, rfl⟩ := h1.form
  obtain ⟨A2, k2, rfl⟩ := h2.form
  have HX1 := hid h1
  have HX2 := hid h2
  have HSA := hid (size_q a ha.1 ha.2)
  have HSB := hid (size_q b hb.1 hb.2)
  obtain ⟨r1, r6⟩ := sz6_le a
  obtain ⟨n1, n6⟩ := sz6_le b
  generalize sz6 a = r at *
  generalize sz6 b = n at *
  clear h1 h2 ha hb
  go_enter Try.func5, Try.ntmps5
  go_upto_region 1 with (fail)
  refine Code.seen (fun V => Below W.heap.size W V ∧ V.heap[W.heap.size]? = some (.cells #[.int .i64 a, .int .i64 b, .slice A1 C1.length k1] 24 (0, 0))) ⟨(Below.refl _ _).alloc (Nat.le_refl _) _, heap_alloc_new _ _⟩ fun w0 H0 => ?_
  have q0 : w0.cell? ⟨W.heap.size, 0, none⟩ = some (.int .i64 a) := by rw [blk_cell H0.out.2]; rfl
  have q1 : w0.cell? ⟨W.heap.size, 1, none⟩ = some (.int .i64 b) := by rw [blk_cell H0.out.2]; rfl
  go_quiet ((first | (go_at_call 15; with_reducible exact Calls.quiet_of (HSA.out _ _)) | (go_at_call 15; with_reducible exact Calls.quiet_of (HSB.out _ _))))
  have HB0 := hid (below_drewN H0.out.1 nq)
  have HQ2 : Hid ((w0.drewN nq).cell? ⟨W.heap.size, 2, none⟩ = some (.slice A1 C1.length k1)) := hid (by rw [show (w0.drewN nq).cell? ⟨W.heap.size, 2, none⟩ = w0.cell? ⟨W.heap.size, 2, none⟩ from (below_drewN (Below.refl w0.heap.size w0) nq).cell (blk_lt H0.out.2), blk_cell H0.out.2]; rfl)
  generalize w0.drewN nq = w0' at *
  clear q0 q1 H0 HSA HSB
  have q2 := HQ2.out
  go_wp2_with fail
  refine (made_any w0' r n (.slice A1 C1.length k1) C1 (HX1.out.below HB0.out) ⟨by omega, by omega⟩ ⟨by omega, by omega⟩).mono ?_
  rintro e w1 ⟨m1, M, rfl, hm, hl, he, hb⟩
  have HM1 := hid hm
  have HL := hid hl
  have HE1 := hid he
  have HB1 := hid (below_then HB0.out hb)
  have HQ3 := hid ((hb.cell (World.block_lt_of_cell? w0' _ HQ2.out)).trans HQ2.out)
  clear hm hl he hb q2 HB0 HQ2
  go_wp2_with fail
  refine (Rows_any w1.heap.size w1 w1 [] (Fam.start w1) m1 0x1d M n HM1.out).mono ?_
  rintro e w2 ⟨v2, rfl, htold⟩
  obtain ⟨R2, c2, vs2, rfl, hv2, hf2⟩ := htold.partsT
  have HF2 := hid hf2
  have HV2 := hid hv2
  clear htold hv2 hf2
  go_wp2_with fail
  refine (Std_any w2).mono ?_
  rintro e w3 ⟨fg, rfl, hfg, hF, hb⟩
  have HFD := hid hF
  have HFG := hid hfg
  have HB3 := hid hb
  clear hfg hF hb
  go_wp2_with fail
  refine (New_sem w3 fg 0x1d HFD.out _ M n ((HF2.out.slBB rfl HV2.out).below HB3.out) ⟨by have := HL.out; omega, by have := HL.out; omega⟩ HM1.out.len ⟨by omega, by omega⟩).mono ?_
  rintro e w4 ⟨m, rfl, hm, hb⟩
  have HB4 := hid (below_then HB3.out hb)
  have HF4 : Hid (Fam w1.heap.size w1 w4 (([] ++ gridT (.slice (some ⟨R2, 0, none⟩) M.length c2) vs2 M) ++ [semT fun W => MatAt W m 0x1d M n])) := hid (HF2.out.add HB4.out fun X V hX hd => hm X V hX (fun k h1 h2 => hd k ⟨Nat.le_trans HB3.out.size h1, h2⟩) ((HFD.out.next hb).frX hX (hd fg ⟨by rw [HFG.out]; exact Nat.le_refl _, Nat.lt_of_lt_of_le HFD.out.lt hb.size⟩)))
  have HW4 := hid (below_then HB1.out (HF4.out.base))
  have q3 := (HF4.out.base.cell (World.block_lt_of_cell? w1 _ HQ3.out)).trans HQ3.out
  clear hm hb HFD HFG HB3 HF2 HB4
  go_wp2_with fail
  refine (made_any w4 r n (.slice A1 C1.length k1) C1 (HX1.out.below HW4.out) ⟨by omega, by omega⟩ ⟨by omega, by omega⟩).mono ?_
  rintro e w5 ⟨m2, M2, rfl, hm, hl, he, hb⟩
  have hMM : M2 = M := rows_eq (n := n) (by rw [hl, HL.out]) hm.len HM1.out.len fun i j hi hj => by rw [he i j (by omega) hj, HE1.out i j (by omega) hj]
  subst hMM
  have HM5 := hid hm
  have HF5 := hid (HF4.out.below hb)
  have HW5 := hid (below_then HW4.out hb)
  clear hm hl he hb q3 HF4 HW4 HM1 HE1 HQ3
  go_wp2_with fail
  refine (Rows_any w1.heap.size w1 w5 _ HF5.out m2 0x1d M2 n HM5.out).mono ?_
  rintro e w6 ⟨v6, rfl, htold⟩
  obtain ⟨R6, c6, vs6, rfl, hv6, hf6⟩ := htold.partsT
  rw [List.append_assoc] at hf6
  have hf6' := hf6.comm
  have HF6 := hid hf6'
  have HV6 := hid hv6
  have HN : Hid (∀ i, i < M2.length → (M2.getD i []).length = n) := hid HM5.out.len
  have HMR : Hid (M2.length ≤ 6) := hid (by have := HL.out; omega)
  have HAP := hid (apart_any w1.heap.size w1 w6 _ R2 M2.length c2 vs2 M2 n HF6.out rfl HV2.out (by have := HMR.out; omega) HN.out (by omega))
  clear htold hv6 hf6 hf6' HF5 HW5 HM5
  go_wp2_with fail
  refine HAP.out.mono ?_
  rintro e w7 ⟨rfl, hf7⟩
  have H7 : Hid (KS w7 [(m, M2, n)] [(.slice (some ⟨R6, 0, none⟩) M2.length c6, M2)] [(.slice A2 C2.length k2, C2)]) := hid ⟨(Mats.nil w7).cons (Below.refl _ _) (hf7.sem (i := 0) rfl), fun v T hm => by
    obtain ⟨rfl, rfl⟩ : v = .slice (some ⟨R6, 0, none⟩) M2.length c6 ∧ T = M2 := by simpa using hm
    rw [← List.append_assoc] at hf7
    exact hf7.slBB rfl HV6.out, fun v L hm => by
    obtain ⟨rfl, rfl⟩ : v = .slice A2 C2.length k2 ∧ L = C2 := by simpa using hm
    exact HX2.out.below (below_then HB1.out hf7.base)⟩
  have HB7 := hid (below_then HB1.out hf7.base)
  clear hf7 HAP HF6 HV6 HV2 HB1
  go_wp2_with fail
  refine (Rows_any w7.heap.size w7 w7 [] (Fam.start w7) m 0x1d M2 n (H7.out.1 _ _ _ (by simp))).mono ?_
  rintro e w8 ⟨v8, rfl, htold⟩
  have H8 := hid (H7.out.rows htold.base_ htold.slBB_)
  have HB8 := hid (below_then HB7.out htold.base_)
  obtain ⟨Rq, cq, vq, rfl, _⟩ := htold
  clear H7 HB7
  go_wp2_with fail
  refine (sameRows_yes w8 _ _ M2 (H8.out.2.1 _ _ (by simp)) (H8.out.2.1 _ _ (by simp)) (by have := HMR.out; omega)).mono ?_
  rintro e w9 ⟨rfl, nq, rfl⟩
  have H9 := hid (H8.out.below (below_drewN (Below.refl _ _) nq))
  have HB9 := hid (below_drewN HB8.out nq)
  generalize w8.drewN nq = w9 at *
  clear H8 HB8
  go_wp2_with fail
  refine (Rows_any w9.heap.size w9 w9 [] (Fam.start w9) m 0x1d M2 n (H9.out.1 _ _ _ (by simp))).mono ?_
  rintro e wt ⟨vt, rfl, htold⟩
  obtain ⟨Rt, ct, vst, rfl, hvt, hft⟩ := htold.partsT
  have HFT := hid hft
  have HVT := hid hvt
  have HNT := hid ((H9.out.1 m M2 n (by simp)).len)
  have HAT := hid (apart_any w9.heap.size w9 wt [] Rt M2.length ct vst M2 n HFT.out rfl HVT.out (by have := HMR.out; omega) HNT.out (by have := HMR.out; omega))
  clear htold hft hvt
  go_wp2_with fail
  refine HAT.out.mono ?_
  rintro e w10 ⟨rfl, hf⟩
  have H10 := hid (H9.out.below hf.base)
  have HB10 := hid (below_then HB9.out hf.base)
  clear hf HAT HFT HVT HNT H9 HB9
  go_wp2_with fail
  refine (Rows_any w10.heap.size w10 w10 [] (Fam.start w10) m 0x1d M2 n (H10.out.1 _ _ _ (by simp))).mono ?_
  rintro e w11 ⟨v11, rfl, htold⟩
  have H11 := hid (H10.out.rows htold.base_ htold.slBB_)
  have HB11 := hid (below_then HB10.out htold.base_)
  obtain ⟨Rq, cq, vq, rfl, _⟩ := htold
  clear H10 HB10
  go_wp2_with fail
  refine (sameRows_yes w11 _ _ M2 (H11.out.2.1 _ _ (by simp)) (H11.out.2.1 _ _ (by simp)) (by have := HMR.out; omega)).mono ?_
  rintro e w12 ⟨rfl, nq, rfl⟩
  have H12 := hid (H11.out.below (below_drewN (Below.refl _ _) nq))
  have HB12 := hid (below_drewN HB11.out nq)
  generalize w11.drewN nq = w12 at *
  clear H11 HB11
  go_wp2_with fail
  refine (Transpose_any w12 m 0x1d M2 n (H12.out.1 _ _ _ (by simp))).mono ?_
  rintro e w13 ⟨mt, MT, rfl, hm, hl, he, hb⟩
  have H13 := hid (H12.out.mat hb hm)
  have HB13 := hid (below_then HB12.out hb)
  have HTL : Hid (MT.length ≤ 6) := hid (by omega)
  have HA13 := hid ((Below.refl w13.heap.size w13).alloc (Nat.le_refl _) (.cells #[.int .i64 0, .int .i64 ((r : Int) - 1), .int .i64 0] 3 (0, 0)))
  clear hm hl he hb H12 HB12
  go_wp2_with fail
  refine (Pick_ok (w13.alloc (.cells #[.int .i64 0, .int .i64 ((r : Int) - 1), .int .i64 0] 3 (0, 0))) m 0x1d M2 n ((H13.out.below HA13.out).1 _ _ _ (by simp)) (.slice (some ⟨w13.heap.size, 0, none⟩) 3 3) [0, (r : Int) - 1, 0] (lit_ints [0, (r : Int) - 1, 0] (heap_alloc_new _ _)) (by simp) (by simp) (fun i hi => by
    have := HL.out
    simp only [List.length_cons, List.length_nil] at hi
    obtain rfl | rfl | rfl : i = 0 ∨ i = 1 ∨ i = 2 := by omega
    · show (0 : Int) ≤ 0 ∧ (0 : Int) < _; omega
    · show (0 : Int) ≤ (r : Int) - 1 ∧ (r : Int) - 1 < _; omega
    · show (0 : Int) ≤ 0 ∧ (0 : Int) < _; omega)).mono ?_
  rintro e w14 ⟨mp, P, rfl, hm, hl, _, hb⟩
  have H14 := hid ((H13.out.below HA13.out).mat hb hm)
  have HB14 := hid (below_then (below_then HB13.out HA13.out) hb)
  have HPL : Hid (P.length ≤ 6) := hid (by simp at hl; omega)
  clear hm hl hb H13 HB13 HA13
  go_wp2_with fail
  refine (Rows_any w14.heap.size w14 w14 [] (Fam.start w14) mt 0x1d MT M2.length (H14.out.1 _ _ _ (by simp))).mono ?_
  rintro e w15 ⟨v15, rfl, htold⟩
  have H15 := hid (H14.out.rows htold.base_ htold.slBB_)
  have HB15 := hid (below_then HB14.out htold.base_)
  obtain ⟨Rq, cq, vq, rfl, _⟩ := htold
  clear H14 HB14
  go_wp2_with fail
  refine (Rows_any w15.heap.size w15 w15 [] (Fam.start w15) mp 0x1d P n (H15.out.1 _ _ _ (by simp))).mono ?_
  rintro e w16 ⟨v16, rfl, htold⟩
  have H16 := hid (H15.out.rows htold.base_ htold.slBB_)
  have HB16 := hid (below_then HB15.out htold.base_)
  obtain ⟨Rq, cq, vq, rfl, _⟩ := htold
  clear H15 HB15
  go_wp2_with fail
  refine (column_any w16 (.slice A2 C2.length k2) C2 (H16.out.2.2 _ _ (by simp)) n (by omega)).mono ?_
  rintro e w17 ⟨vf, rfl, ho, hb⟩
  obtain ⟨X, hX⟩ : ∃ X, colOf C2 n = X := ⟨_, rfl⟩
  have hXl := colOf_length C2 n
  rw [hX] at ho hXl
  have HXX := hid hX
  have HXL := hid hXl
  have H17 := hid (H16.out.bytes hb ho.sl)
  have HB17 := hid (below_then HB16.out hb)
  have HBC := hid hb
  obtain ⟨Af, cf, rfl⟩ := ho.form
  clear ho hb hX hXl
  clear H16 HB16
  go_wp2_with fail
  refine (Apply_any w17 m 0x1d M2 n (H17.out.1 _ _ _ (by simp)) _ X (H17.out.2.2 _ _ (by simp)) HXL.out).mono ?_
  rintro e w18 ⟨vx, Y1, rfl, ho, hl, he, hb⟩
  have HF18 : Hid (Fam w17.heap.size w17 w18 [rowT vx Y1]) := hid ((Fam.start w17).add hb ⟨own_base ho (Nat.zero_le _), fun k hk => World.ownsRow.lt ho k hk⟩)
  obtain ⟨Ax, cx, rfl⟩ := ho.form
  have HY1 : Hid (Y1.length ≤ 6) := hid (by have := HMR.out; omega)
  have HE1 := hid (And.intro hl he)
  have HXO := HXX
  have H18 := hid (H17.out.below hb)
  have HB18 := hid (below_then HB17.out hb)
  clear ho hl he hb HXX HBC
  go_wp2_with fail
  refine (column_any w18 (.slice A2 C2.length k2) C2 (H18.out.2.2 _ _ (by simp)) n (by omega)).mono ?_
  rintro e w19 ⟨vf2, rfl, ho, hb⟩
  obtain ⟨X, hX⟩ : ∃ X, colOf C2 n = X := ⟨_, rfl⟩
  have hXl := colOf_length C2 n
  rw [hX] at ho hXl
  have HXX := hid hX
  have HXL := hid hXl
  have H19 := hid (H18.out.bytes hb ho.sl)
  have HB19 := hid (below_then HB18.out hb)
  have HBC := hid hb
  obtain ⟨Af, cf, rfl⟩ := ho.form
  clear ho hb hX hXl
  obtain rfl := HXO.out.symm.trans HXX.out
  have HF19 := hid (HF18.out.below HBC.out)
  clear H18 HB18 HBC HF18 HXX
  go_wp2_with fail
  refine (Apply_any w19 m 0x1d M2 n (H19.out.1 _ _ _ (by simp)) _ X (H19.out.2.2 _ _ (by simp)) HXL.out).mono ?_
  rintro e w20 ⟨vy, Y2, rfl, ho, hl, he, hb⟩
  have HE2 := hid (And.intro hl he)
  have HF20 : Hid (Fam w17.heap.size w17 w20 [rowT (.slice Ax Y1.length cx) Y1, rowT vy Y2]) := hid (HF19.out.add hb ⟨own_base ho (Nat.zero_le _), fun k hk => World.ownsRow.lt ho k hk⟩)
  obtain ⟨Ay, cy, rfl⟩ := ho.form
  have HAP := hid (apart_any w17.heap.size w17 _ [rowT (.slice Ay Y2.length cy) Y2] w20.heap.size 1 1 [.slice Ax Y1.length cx] [Y1] Y1.length (one_grid HF20.out) rfl rfl (by decide) (fun i hi => by
    simp only [List.length_singleton] at hi
    obtain rfl : i = 0 := by omega
    rfl) (by have := HY1.out; omega))
  clear ho hl he hb H19 HB19 HF19
  go_wp2_with fail
  refine HAP.out.mono ?_
  rintro e w21 ⟨rfl, hf⟩
  have H21 := hid ((H17.out.below hf.base).bytes (Below.refl w21.heap.size w21) (hf.rowAt (i := 0) rfl).sl)
  have HB21 := hid (below_then HB17.out hf.base)
  clear hf HAP HF20 H17 HB17
  go_wp2_with fail
  refine (Rows_any w21.heap.size w21 w21 [] (Fam.start w21) mt 0x1d MT M2.length (H21.out.1 _ _ _ (by simp))).mono ?_
  rintro e wt ⟨vt, rfl, htold⟩
  obtain ⟨Rt, ct, vst, rfl, hvt, hft⟩ := htold.partsT
  have HFT := hid hft
  have HVT := hid hvt
  have HNT := hid ((H21.out.1 mt MT M2.length (by simp)).len)
  have HAT := hid (apart_any w21.heap.size w21 wt [] Rt MT.length ct vst MT M2.length HFT.out rfl HVT.out (by have := HTL.out; omega) HNT.out (by have := HMR.out; omega))
  clear htold hft hvt
  go_wp2_with fail
  refine HAT.out.mono ?_
  rintro e w22 ⟨rfl, hf⟩
  have H22 := hid (H21.out.below hf.base)
  have HB22 := hid (below_then HB21.out hf.base)
  clear hf HAT HFT HVT HNT H21 HB21
  go_wp2_with fail
  refine (Rows_any w22.heap.size w22 w22 [] (Fam.start w22) mp 0x1d P n (H22.out.1 _ _ _ (by simp))).mono ?_
  rintro e wt ⟨vt, rfl, htold⟩
  obtain ⟨Rt, ct, vst, rfl, hvt, hft⟩ := htold.partsT
  have HFT := hid hft
  have HVT := hid hvt
  have HNT := hid ((H22.out.1 mp P n (by simp)).len)
  have HAT := hid (apart_any w22.heap.size w22 wt [] Rt P.length ct vst P n HFT.out rfl HVT.out (by have := HPL.out; omega) HNT.out (by have := HMR.out; omega))
  clear htold hft hvt
  go_wp2_with fail
  refine HAT.out.mono ?_
  rintro e w23 ⟨rfl, hf⟩
  have H23 := hid (H22.out.below hf.base)
  have HB23 := hid (below_then HB22.out hf.base)
  clear hf HAT HFT HVT HNT H22 HB22
  go_wp2_with fail
  refine (column_any w23 (.slice A2 C2.length k2) C2 (H23.out.2.2 _ _ (by simp)) n (by omega)).mono ?_
  rintro e w24 ⟨vf3, rfl, ho, hb⟩
  obtain ⟨X, hX⟩ : ∃ X, colOf C2 n = X := ⟨_, rfl⟩
  have hXl := colOf_length C2 n
  rw [hX] at ho hXl
  have HXX := hid hX
  have HXL := hid hXl
  have H24 := hid (H23.out.bytes hb ho.sl)
  have HB24 := hid (below_then HB23.out hb)
  have HBC := hid hb
  obtain ⟨Af, cf, rfl⟩ := ho.form
  clear ho hb hX hXl
  obtain rfl := HXO.out.symm.trans HXX.out
  clear H23 HB23 HBC HXX
  go_wp2_with fail
  refine (Apply_any w24 m 0x1d M2 n (H24.out.1 _ _ _ (by simp)) _ X (H24.out.2.2 _ _ (by simp)) HXL.out).mono ?_
  rintro e w25 ⟨vz, Y3, rfl, ho, hl, he, hb⟩
  obtain rfl : Y3 = Y2 := ap_same hl HE2.out.1 he HE2.out.2
  have H25 := hid (H24.out.bytes hb ho.sl)
  have HB25 := hid (below_then HB24.out hb)
  obtain ⟨Az, cz, rfl⟩ := ho.form
  clear ho hl he hb H24 HB24
  go_wp2_with fail
  refine (sameBytes_yes w25 _ _ Y3 (H25.out.2.2 _ _ (by simp)) (H25.out.2.2 _ _ (by simp))).mono ?_
  rintro e wz ⟨rfl, hwz⟩
  have hwz := hwz.symm
  subst hwz
  go_wp2_with fail
  refine (Rows_any w25.heap.size w25 w25 [] (Fam.start w25) mt 0x1d MT M2.length (H25.out.1 _ _ _ (by simp))).mono ?_
  rintro e w26 ⟨v26, rfl, htold⟩
  have H26 := hid (H25.out.rows htold.base_ htold.slBB_)
  have HB26 := hid (below_then HB25.out htold.base_)
  obtain ⟨Rq, cq, vq, rfl, _⟩ := htold
  clear H25 HB25
  go_wp2_with fail
  refine (sameRows_yes w26 _ _ MT (H26.out.2.1 _ _ (by simp)) (H26.out.2.1 _ _ (by simp)) (by have := HTL.out; omega)).mono ?_
  rintro e w27 ⟨rfl, nq, rfl⟩
  have H27 := hid (H26.out.below (below_drewN (Below.refl _ _) nq))
  have HB27 := hid (below_drewN HB26.out nq)
  generalize w26.drewN nq = w27 at *
  clear H26 HB26
  go_wp2_with fail
  refine (Rows_any w27.heap.size w27 w27 [] (Fam.start w27) mp 0x1d P n (H27.out.1 _ _ _ (by simp))).mono ?_
  rintro e w28 ⟨v28, rfl, htold⟩
  have H28 := hid (H27.out.rows htold.base_ htold.slBB_)
  have HB28 := hid (below_then HB27.out htold.base_)
  obtain ⟨Rq, cq, vq, rfl, _⟩ := htold
  clear H27 HB27
  go_wp2_with fail
  refine (sameRows_yes w28 _ _ P (H28.out.2.1 _ _ (by simp)) (H28.out.2.1 _ _ (by simp)) (by have := HPL.out; omega)).mono ?_
  rintro e w29 ⟨rfl, nq, rfl⟩
  have H29 := hid (H28.out.below (below_drewN (Below.refl _ _) nq))
  have HB29 := hid (below_drewN HB28.out nq)
  generalize w28.drewN nq = w29 at *
  clear H28 HB28
  go_wp2_with fail
  refine (Rows_any w29.heap.size w29 w29 [] (Fam.start w29) m 0x1d M2 n (H29.out.1 _ _ _ (by simp))).mono ?_
  rintro e w30 ⟨v30, rfl, htold⟩
  have H30 := hid (H29.out.rows htold.base_ htold.slBB_)
  have HB30 := hid (below_then HB29.out htold.base_)
  obtain ⟨Rq, cq, vq, rfl, _⟩ := htold
  clear H29 HB29
  go_wp2_with fail
  refine (sameRows_yes w30 _ _ M2 (H30.out.2.1 _ _ (by simp)) (H30.out.2.1 _ _ (by simp)) (by have := HMR.out; omega)).mono ?_
  rintro e w31 ⟨rfl, nq, rfl⟩
  have H31 := hid (H30.out.below (below_drewN (Below.refl _ _) nq))
  have HB31 := hid (below_drewN HB30.out nq)
  generalize w30.drewN nq = w31 at *
  clear H30 HB30
  go_wp2_with fail
  refine (taken_any w31).mono ?_
  rintro e w32 ⟨rfl, hb⟩
  have HE := hid (below_then HB31.out hb)
  clear hb H31 HB31
  go_wp2
  go_ret
  exact ⟨by simp, HE.out⟩
end Go.Proofs.Ytkklonldplekcaa
