/- The walk of the law MatrixSolves. -/
import Derived.Test.YtkklonldplekcaaMxW
namespace Go.Proofs.Ytkklonldplekcaa
open Go.RowKit
theorem size_q (n : Int) (h0 : -9223372036854775808 ≤ n) (h1 : n ≤ 9223372036854775807) (w : World) (k : Nat) : Calls Try.prog 15 #[.int .i64 n] (w.drewN k) fun e w' => e = .returned (.int .i64 (sz6 n : Int)) ∧ ∃ m, w' = (w.drewN k).drewN m :=
  (size_any n h0 h1 (w.drewN k)).mono fun _ _ ⟨a, b⟩ => ⟨a, 0, b⟩
theorem sol_ok {q : UInt8} {M : List (List UInt8)} {n : Nat} {X Y : List UInt8} {B : Nat → Nat → UInt8} {piv : List Nat} (hred : Mx.Red q M.length (n + 1) (Mx.withCol n (ent M) fun i => X.getD i 0) B piv n) (h0 : ∀ i, piv.length ≤ i → i < M.length → B i n = 0) (hY : ∀ j, j < n → Y.getD j 0 = Mx.sol piv B n j) : (∀ i, i < M.length → X.getD i 0 = Mx.ap q (ent M) n (fun j => Y.getD j 0) i) ∧ ∀ j, j < n → Mx.Free q (ent M) M.length n j → Y.getD j 0 = 0 := by
  refine ⟨fun i hi => ?_, fun j hj hf => ?_⟩
  · rw [← Mx.solved_of hred h0 i hi]
    exact Mx.sm_congr n fun j hj => by show Gf.mul q (ent M i j) (Mx.sol piv B n j) = Gf.mul q (ent M i j) (Y.getD j 0); rw [hY j hj]
  · have h1 := (Mx.free_trunc (A := Mx.withCol n (ent M) fun i => X.getD i 0) (N := n + 1) (by omega) (fun i j _ hj => by unfold Mx.withCol; rw [if_pos hj]) hj).1 hf
    have h2 := (hred.free (by omega) hj).1 h1
    rw [hY j hj]
    exact Mx.sm_null _ fun s _ => by
      by_cases e : piv[s]? = some j
      · exact absurd (List.mem_of_getElem? e) h2
      · rw [if_neg e]
theorem beside_rank {q : UInt8} (g : Gf.Gen q) {M T : List (List UInt8)} {n k k' : Nat} {X : List UInt8} {B : Nat → Nat → UInt8} {piv : List Nat} (hred : Mx.Red q M.length (n + 1) (Mx.withCol n (ent M) fun i => X.getD i 0) B piv n) (hl : T.length = M.length) (he : ∀ a j, a < M.length → j < n + 1 → ent T a j = Mx.withCol n (ent M) (fun i => X.getD i 0) a j) (hk : Mx.Rk q (ent M) M.length n k) (hk' : Mx.Rk q (ent T) T.length (n + 1) k') : (∀ i, piv.length ≤ i → i < M.length → B i n = 0) ∧ k' = k ∨ (∃ i, piv.length ≤ i ∧ i < M.length ∧ B i n ≠ 0) ∧ k' = k + 1 := by
  rw [hl] at hk'
  exact Mx.rank_col g hred hk (hk'.ext g fun i j hi hj => (he i j hi hj).symm)
set_option maxRecDepth 100000 in
set_option maxHeartbeats 16000000 in
theorem MatrixSolves_walk (W : World) (a b : Int) (ha : -9223372036854775808 ≤ a ∧ a ≤ 9223372036854775807) (hb : -9223372036854775808 ≤ b ∧ b ≤ 9223372036854775807) (uc u2 u3 : Value) (C1 C2 C3 : List UInt8) (h1 : SlB W uc C1) (h2 : SlB W u2 C2) (h3 : SlB W u3 C3) :
    Calls Try.prog 4 #[.agg #[.int .i64 a, .int .i64 b, uc], u2, u3] W fun e w' => e = .returned (.bool true) ∧ Below W.heap.size W w' := by
  obtain ⟨A1, k1, rfl⟩ := h1.form
  obtain ⟨A2, k2, rfl⟩ := h2.form
  obtain ⟨A3, k3, rfl⟩ := h3.form
  have HX1 := hid h1
  have HX2 := hid h2
  have HX3 := hid h3
  have HSA := hid (size_q a ha.1 ha.2)
  have HSB := hid (size_q b hb.1 hb.2)
  obtain ⟨r1, r6⟩ := sz6_le a
  obtain ⟨n1, n6⟩ := sz6_le b
  generalize sz6 a = r at *
  generalize sz6 b = n at *
  clear h1 h2 h3 ha hb
  go_enter Try.func4, Try.ntmps4
  go_upto_region 1 with (fail)
  refine Code.seen (fun V => Below W.heap.size W V ∧ V.heap[W.heap.size]? = some (.cells #[.int .i64 a, .int .i64 b, .slice A1 C1.length k1] 24 (0, 0))) ⟨(Below.refl _ _).alloc (Nat.le_refl _) _, heap_alloc_new _ _⟩ fun w0 H0 => ?_
  have q0 : w0.cell? ⟨W.heap.size, 0, none⟩ = some (.int .i64 a) := by rw [blk_cell H0.out.2]; rfl
  have q1 : w0.cell? ⟨W.heap.size, 1, none⟩ = some (.int .i64 b) := by rw [blk_cell H0.out.2]; rfl
  go_quiet ((first | (go_at_call 15; with_reducible exact Calls.quiet_of (HSA.out _ _)) | (go_at_call 15; with_reducible exact Calls.quiet_of (HSB.out _ _))))
  have HB0 := hid (below_drewN H0.out.1 nq)
  have q2 : (w0.drewN nq).cell? ⟨W.heap.size, 2, none⟩ = some (.slice A1 C1.length k1) := by rw [show (w0.drewN nq).cell? ⟨W.heap.size, 2, none⟩ = w0.cell? ⟨W.heap.size, 2, none⟩ from (below_drewN (Below.refl w0.heap.size w0) nq).cell (blk_lt H0.out.2), blk_cell H0.out.2]; rfl
  generalize w0.drewN nq = w0' at *
  clear q0 q1 H0 HSA HSB
  go_wp2_with fail
  refine (made_any w0' r n (.slice A1 C1.length k1) C1 (HX1.out.below HB0.out) ⟨by omega, by omega⟩ ⟨by omega, by omega⟩).mono ?_
  rintro e w1 ⟨m, M, rfl, hm, hl, _, hb⟩
  have HM1 := hid hm
  have HL := hid hl
  have HB1 := hid (below_then HB0.out hb)
  clear hm hl hb q2 HB0
  go_wp2_with fail
  refine (column_any w1 (.slice A2 C2.length k2) C2 (HX2.out.below HB1.out) r (by omega)).mono ?_
  rintro e w2 ⟨vr, rfl, ho, hb⟩
  obtain ⟨R, hR⟩ : ∃ R, colOf C2 r = R := ⟨_, rfl⟩
  have hRl := colOf_length C2 r
  rw [hR] at ho hRl
  have HR := hid ho.sl
  have HRL := hid hRl
  obtain ⟨Ar, cr, rfl⟩ := ho.form
  have HM2 := hid (HM1.out.below hb)
  have HB2 := hid (below_then HB1.out hb)
  clear ho hb hR hRl HM1 HB1
  go_wp2_with fail
  refine (Solve_any w2 m 0x1d M n HM2.out ⟨by omega, by have := HL.out; omega⟩ _ R HR.out (by rw [HRL.out, HL.out])).mono ?_
  rintro e w3 ⟨hb, B, piv, hred, hsol⟩
  have HRED := hid hred
  have HM3 := hid (HM2.out.below hb)
  have HB3 := hid (below_then HB2.out hb)
  have HR3 := hid (HR.out.below hb)
  clear hb hred HM2 HB2 HR
  have HG : Hid (Gf.Gen 0x1d) := hid (by obtain ⟨⟨fg, _, _, hF, _⟩, _⟩ := HM3.out; exact hF.gen)
  rcases hsol with ⟨hno, rfl⟩ | ⟨h0, vx, X, rfl, ho, hl, hs⟩
  case' inl =>
    have HNO := hid hno
    clear hno
    go_wp2_with fail
    refine (Rank_any w3 m 0x1d M n HM3.out).mono ?_
    rintro e w4 ⟨p, rfl, hp, hb⟩
    have HP := hid hp
    have HM4 := hid (HM3.out.below hb)
    have HB4 := hid (below_then HB3.out hb)
    have HR4 := hid (HR3.out.below hb)
    have hpb : p ≤ 6 := Nat.le_trans hp.le_cols n6
    clear hp hb HM3 HB3 HR3
    go_wp2_with fail
    refine (beside_any w4 m M n HM4.out ⟨by omega, by have := HL.out; omega⟩ _ R HR4.out (by rw [HRL.out, HL.out])).mono ?_
    rintro e w5 ⟨m2, T, rfl, hm2, hl2, he2, hb⟩
    have HM5 := hid (HM4.out.below hb)
    have HB5 := hid (below_then HB4.out hb)
    have HT := hid hm2
    have HE2 := hid (And.intro hl2 he2)
    clear hb hm2 hl2 he2 HM4 HB4 HR4
    go_wp2_with fail
    refine (Rank_any w5 m2 0x1d T (n + 1) HT.out).mono ?_
    rintro e w6 ⟨p2, rfl, hp2, hb⟩
    have hpp : p2 = p + 1 := by
      rcases beside_rank HG.out HRED.out HE2.out.1 HE2.out.2 HP.out hp2 with ⟨h0, _⟩ | ⟨_, h1⟩
      · obtain ⟨i, h1, h2, h3⟩ := HNO.out
        exact absurd (h0 i h1 h2) h3
      · exact h1
    subst hpp
    have HMz := hid (HM5.out.below hb)
    have HBz := hid (below_then HB5.out hb)
    have hne : (((p + 1 : Nat) : Int) != (p : Int) + 1) = false := by simp
    obtain ⟨wz, hwz⟩ : ∃ wz, wz = w6 := ⟨_, rfl⟩
    rw [← hwz] at HMz HBz ⊢
    clear hwz hb hp2 HM5 HB5 HT HE2 HNO
    go_wp2_with fail
  case' inr =>
    obtain ⟨hs1, hs2⟩ := sol_ok HRED.out h0 hs
    have HS1 := hid hs1
    have HS2 := hid hs2
    have HXL := hid hl
    have HXV := hid ho.sl
    have H0 := hid h0
    obtain ⟨Ax, cx, rfl⟩ := ho.form
    clear hs1 hs2 h0 ho hl hs
    go_wp2_with fail
    refine (Rank_any w3 m 0x1d M n HM3.out).mono ?_
    rintro e w4 ⟨p, rfl, hp, hb⟩
    have HP := hid hp
    have HM4 := hid (HM3.out.below hb)
    have HB4 := hid (below_then HB3.out hb)
    have HR4 := hid (HR3.out.below hb)
    have HXV4 := hid (HXV.out.below hb)
    have hpb : p ≤ 6 := Nat.le_trans hp.le_cols n6
    clear hp hb HM3 HB3 HR3 HXV
    go_wp2_with fail
    refine (solved_any w4 m M n HM4.out HG.out (by omega) _ X HXV4.out HXL.out _ R HR4.out ⟨by rw [HRL.out, HL.out], HS1.out⟩ HS2.out).mono ?_
    rintro e w5 ⟨rfl, hb⟩
    have HM5 := hid (HM4.out.below hb)
    have HB5 := hid (below_then HB4.out hb)
    have HR5 := hid (HR4.out.below hb)
    clear hb HM4 HB4 HR4 HXV4 HS1 HS2
    go_wp2_with fail
    refine (beside_any w5 m M n HM5.out ⟨by omega, by have := HL.out; omega⟩ _ R HR5.out (by rw [HRL.out, HL.out])).mono ?_
    rintro e w6 ⟨m2, T, rfl, hm2, hl2, he2, hb⟩
    have HM6 := hid (HM5.out.below hb)
    have HB6 := hid (below_then HB5.out hb)
    have HT := hid hm2
    have HE2 := hid (And.intro hl2 he2)
    clear hb hm2 hl2 he2 HM5 HB5 HR5
    go_wp2_with fail
    refine (Rank_any w6 m2 0x1d T (n + 1) HT.out).mono ?_
    rintro e w7 ⟨p2, rfl, hp2, hb⟩
    have hpp : p2 = p := by
      rcases beside_rank HG.out HRED.out HE2.out.1 HE2.out.2 HP.out hp2 with ⟨_, h1⟩ | ⟨⟨i, h1, h2, h3⟩, _⟩
      · exact h1
      · exact absurd (H0.out i h1 h2) h3
    subst hpp
    have HMz := hid (HM6.out.below hb)
    have HBz := hid (below_then HB6.out hb)
    obtain ⟨wz, hwz⟩ : ∃ wz, wz = w7 := ⟨_, rfl⟩
    rw [← hwz] at HMz HBz ⊢
    clear hwz hb hp2 HM6 HB6 HT HE2 H0
    go_wp2_with fail
  all_goals
    clear HRED
    refine (column_any wz (.slice A3 C3.length k3) C3 (HX3.out.below HBz.out) n (by omega)).mono ?_
    rintro e w10 ⟨vw, rfl, ho, hb⟩
    obtain ⟨V, hV⟩ : ∃ V, colOf C3 n = V := ⟨_, rfl⟩
    have hVl := colOf_length C3 n
    rw [hV] at ho hVl
    have HV := hid ho.sl
    have HVL := hid hVl
    obtain ⟨Aw, cw, rfl⟩ := ho.form
    have HM10 := hid (HMz.out.below hb)
    have HB10 := hid (below_then HBz.out hb)
    clear ho hb hV hVl HMz HBz
    go_wp2_with fail
    refine (Apply_any w10 m 0x1d M n HM10.out _ V HV.out HVL.out).mono ?_
    rintro e w11 ⟨vi, I, rfl, ho, hl, he, hb⟩
    have HI := hid ho.sl
    have HIL := hid hl
    have HIE := hid he
    obtain ⟨Ai, ci, rfl⟩ := ho.form
    have HM11 := hid (HM10.out.below hb)
    have HB11 := hid (below_then HB10.out hb)
    clear ho hl he hb HM10 HB10 HV
    go_wp2_with fail
    refine (Solve_any w11 m 0x1d M n HM11.out ⟨by omega, by have := HL.out; omega⟩ _ I HI.out HIL.out).mono ?_
    rintro e w12 ⟨hb, B2, piv2, hred, ⟨⟨i, h1, h2, h3⟩, _⟩ | ⟨h0, vy, Y, rfl, ho, hl, hs⟩⟩
    · exact absurd ⟨fun j => V.getD j 0, fun i hi => (HIE.out i hi).symm⟩ (Mx.unsolved_of hred h1 h2 h3)
    obtain ⟨hs1, hs2⟩ := sol_ok hred h0 hs
    have HS1 := hid hs1
    have HS2 := hid hs2
    have HYL := hid hl
    have HYV := hid ho.sl
    have HI12 := hid (HI.out.below hb)
    have HM12 := hid (HM11.out.below hb)
    have HB12 := hid (below_then HB11.out hb)
    obtain ⟨Ay, cy, rfl⟩ := ho.form
    clear hs1 hs2 h0 ho hl hs hred hb HM11 HB11 HI
    go_wp2_with fail
    refine (solved_any w12 m M n HM12.out HG.out (by omega) _ Y HYV.out HYL.out _ I HI12.out ⟨HIL.out, HS1.out⟩ HS2.out).mono ?_
    rintro e w13 ⟨rfl, hb⟩
    have HB13 := hid (below_then HB12.out hb)
    clear hb HM12 HB12 HI12 HYV
    go_wp2_with fail
    refine (taken_any w13).mono ?_
    rintro e w14 ⟨rfl, hb⟩
    have HE := hid (below_then HB13.out hb)
    clear hb
    go_wp2
    go_ret
    exact ⟨rfl, HE.out⟩
end Go.Proofs.Ytkklonldplekcaa
