/- The walk of the law GfField. -/
import Derived.Test.YtgfnfjnjlogpkaaGfL
namespace Go.Proofs.Ytgfnfjnjlogpkaa
open Go.RowKit

set_option maxHeartbeats 1000000 in
theorem inverse_any (g : Nat) (q a : UInt8) (w : World) (h : FieldAt w g q) :
    Calls Try.prog 15 #[.pointer (some ⟨g, 0, none⟩), B a] w fun e w' => e = .returned (.bool true) ∧ ∃ n, w' = w.drewN n := by
  have H := hid h
  by_cases ha : a = 0
  · subst ha
    clear h
    go_enter Try.func15, Try.ntmps15
    go_wp2_with fail
    refine (Inv_zero g w).mono ?_
    rintro e w' ⟨rfl, rfl⟩
    go_wp2
    go_ret
    exact ⟨rfl, 0, rfl⟩
  · obtain ⟨b, hb⟩ := Gf.inv_ex h.gen a ha
    have za := u8_ne0 ha
    have h1b : Gf.mul q 1 b = b := Gf.mul_one' q b
    have HB := hid hb
    clear h ha hb
    go_enter Try.func15, Try.ntmps15
    go_wp2_with fail
    refine (Inv_any g q a b HB.out w H.out).mono ?_
    rintro e w' ⟨rfl, n, rfl⟩
    go_wp2_with fail
    refine (Inv_any g q b a (by rw [Gf.mul_comm]; exact HB.out) _ (H.out.drewN n)).mono ?_
    rintro e w' ⟨rfl, n2, rfl⟩
    go_wp2_with fail
    refine (Div_at (av := 1) g q 1 a b HB.out _ (H.out.drewN _) (by decide)).mono ?_
    rintro e w' ⟨rfl, n3, rfl⟩
    have hab : Gf.mul q a b = 1 := HB.out
    go_wp2_with (first | (go_at_call 13; (with_reducible refine (Mul_any g q _ _ _ (H.out.drewN _)).mono ?_); rintro e w' ⟨rfl, nn, rfl⟩) | (go_at_call 13; (with_reducible refine (Mul_any g q _ _ _ H.out).mono ?_); rintro e w' ⟨rfl, nn, rfl⟩))
    go_ret
    exact ⟨rfl, _, rfl⟩

theorem poly255 (q : UInt8) : bits .and .i64 (256 + (q.toNat : Int)) 255 = (q.toNat : Int) := by
  have := bits_mask .i64 63 (by decide) (fun m h0 h1 => by rw [IntKind.wrap_i64]; omega) 8 (by omega) (256 + (q.toNat : Int)) (by omega) (by have := q.toNat_lt; omega)
  rw [show ((2 : Int) ^ 8 - 1) = 255 from rfl] at this
  rw [this]
  have := q.toNat_lt
  omega
theorem mul_2_128 (q : UInt8) : Gf.mul q 2 128 = q := by
  have h2 : (2 : UInt8) = Gf.it q 1 1 := (Gf.it_one q 1 (by omega)).symm
  rw [h2, Gf.mul_it, Gf.mul_one']
  show Gf.xt q 128 = q
  unfold Gf.xt
  rw [if_pos (by decide)]
  apply UInt8.eq_of_toBitVec_eq
  show (BitVec.ofNat 8 128 <<< 1) ^^^ q.toBitVec = q.toBitVec
  rw [show BitVec.ofNat 8 128 <<< 1 = 0#8 by decide]; simp

theorem zero_or {q : UInt8} (g : Gf.Gen q) (a b : UInt8) : (((Gf.mul q a b).toNat : Int) == 0) = (((a.toNat : Int) == 0) || ((b.toNat : Int) == 0)) := by
  have hz : ∀ c : UInt8, ((c.toNat : Int) == 0) = decide (c = 0) := by
    intro c
    rw [Bool.eq_iff_iff, beq_iff_eq, decide_eq_true_iff]
    exact ⟨fun h => UInt8.toNat_inj.1 (by simpa using h), fun h => by rw [h]; rfl⟩
  rw [hz, hz, hz]
  have := Gf.mul_eq_zero g a b
  by_cases h1 : a = 0 <;> by_cases h2 : b = 0 <;> simp [h1, h2] at this ⊢ <;> exact this

set_option maxHeartbeats 4000000 in
theorem GfField_walk (n : Int) (a b c : UInt8) (h0 : -9223372036854775808 ≤ n) (h1 : n ≤ 9223372036854775807) (w : World) :
    Calls Try.prog 4 #[.int .i64 n, .agg #[B a, B b, B c]] w fun e w' => e = .returned (.bool true) ∧ Below w.heap.size w w' := by
  go_enter Try.func4, Try.ntmps4
  go_wp2_with fail
  refine (field_any n h0 h1 _).mono ?_
  rintro e w1 ⟨g, q, rfl, hf, hg, hb⟩
  have c0 := (hb.cell (p := ⟨w.heap.size, 0, none⟩) (by simp)).trans (show _ = some (B a) by go_simp)
  have c1 := (hb.cell (p := ⟨w.heap.size, 1, none⟩) (by simp)).trans (show _ = some (B b) by go_simp)
  have c2 := (hb.cell (p := ⟨w.heap.size, 2, none⟩) (by simp)).trans (show _ = some (B c) by go_simp)
  have H := hid hf
  have HB := hid (((Below.refl w.heap.size w).alloc (Nat.le_refl _) _).trans (hb.mono (by simp)))
  have hgen := hf.gen
  clear hf hb hg
  have f1 : b ^^^ a = a ^^^ b := UInt8.xor_comm b a
  have f2 : a ^^^ (b ^^^ c) = a ^^^ b ^^^ c := (UInt8.xor_assoc a b c).symm
  have m1 : Gf.mul q b a = Gf.mul q a b := Gf.mul_comm q b a
  have m2 : Gf.mul q a (Gf.mul q b c) = Gf.mul q (Gf.mul q a b) c := (Gf.mul_assoc q a b c).symm
  have m3 : Gf.mul q a 1 = a := Gf.mul_one q a
  have m4 : Gf.mul q a 0 = 0 := Gf.mul_zero q a
  have m5 : Gf.mul q a (b ^^^ c) = Gf.mul q a b ^^^ Gf.mul q a c := Gf.mul_xor q a b c
  go_upto_region 9 with (first | (go_at_call 11; (with_reducible refine (Add_any _ _ _).mono ?_); rintro e w' ⟨rfl, rfl⟩) | (go_at_call 11; refine Calls.mono (Add_at _ 0 (by with_reducible rfl) (by decide) _) ?_; rintro e w' ⟨rfl, rfl⟩))
  clear f1 f2
  go_upto_region 11 with (first | (first | (go_at_call 13; (with_reducible refine (Mul_any g q _ _ _ (H.out.drewN _)).mono ?_); rintro e w' ⟨rfl, nn, rfl⟩) | (go_at_call 13; (with_reducible refine (Mul_any g q _ _ _ H.out).mono ?_); rintro e w' ⟨rfl, nn, rfl⟩)) | (first | (go_at_call 13; refine Calls.mono (Mul_at g q _ 1 (by with_reducible rfl) (by decide) _ (H.out.drewN _)) ?_; rintro e w' ⟨rfl, nn, rfl⟩) | (go_at_call 13; refine Calls.mono (Mul_at g q _ 1 (by with_reducible rfl) (by decide) _ H.out) ?_; rintro e w' ⟨rfl, nn, rfl⟩)) | (first | (go_at_call 13; refine Calls.mono (Mul_at g q _ 0 (by with_reducible rfl) (by decide) _ (H.out.drewN _)) ?_; rintro e w' ⟨rfl, nn, rfl⟩) | (go_at_call 13; refine Calls.mono (Mul_at g q _ 0 (by with_reducible rfl) (by decide) _ H.out) ?_; rintro e w' ⟨rfl, nn, rfl⟩)))
  have HG := hid hgen
  clear hgen m1 m2 m3 m4
  obtain ⟨za, hza⟩ : ∃ z, ((a.toNat : Int) == 0) = z := ⟨_, rfl⟩
  obtain ⟨zb, hzb⟩ : ∃ z, ((b.toNat : Int) == 0) = z := ⟨_, rfl⟩
  have hzm : (((Gf.mul q a b).toNat : Int) == 0) = (za || zb) := by rw [← hza, ← hzb]; exact zero_or HG.out a b
  have hbn : zb = false → b ≠ 0 := fun h e => by rw [e] at hzb; rw [← hzb] at h; exact absurd h (by decide)
  have HBN := hid hbn
  have hb0 : zb = true → b = 0 := fun h => by rw [h] at hzb; exact UInt8.toNat_inj.1 (by simpa using hzb)
  have HB0 := hid hb0
  clear hbn hb0
  have m7 := mul_2_128 q
  have m8 := poly255 q
  have hnb : ((b.toNat : Int) != 0) = !zb := by rw [← hzb]; rfl
  cases zb
  case' false =>
    obtain ⟨c', hc'⟩ := Gf.inv_ex HG.out b (HBN.out rfl)
    have HC := hid hc'
    have m6 : Gf.mul q (Gf.mul q a b) c' = a := by rw [Gf.mul_assoc, hc', Gf.mul_one]
    clear hc'
    cases za
    all_goals
      simp only [Bool.or_false, Bool.or_true, Bool.true_or, Bool.false_or] at hzm
      go_upto_region 13 with (first | (go_at_call 11; (with_reducible refine (Add_any _ _ _).mono ?_); rintro e w' ⟨rfl, rfl⟩) | (first | (go_at_call 13; (with_reducible refine (Mul_any g q _ _ _ (H.out.drewN _)).mono ?_); rintro e w' ⟨rfl, nn, rfl⟩) | (go_at_call 13; (with_reducible refine (Mul_any g q _ _ _ H.out).mono ?_); rintro e w' ⟨rfl, nn, rfl⟩)))
      clear m5
      go_wp2_with (first | (first | (go_at_call 13; (with_reducible refine (Mul_any g q _ _ _ (H.out.drewN _)).mono ?_); rintro e w' ⟨rfl, nn, rfl⟩) | (go_at_call 13; (with_reducible refine (Mul_any g q _ _ _ H.out).mono ?_); rintro e w' ⟨rfl, nn, rfl⟩)) | fail)
      refine (Div_any g q (Gf.mul q a b) b c' HC.out _ (H.out.drewN _)).mono ?_
      rintro e w' ⟨rfl, n3, rfl⟩
  case' true =>
    cases za
    all_goals
      simp only [Bool.or_false, Bool.or_true, Bool.true_or, Bool.false_or] at hzm
      go_upto_region 13 with (first | (go_at_call 11; (with_reducible refine (Add_any _ _ _).mono ?_); rintro e w' ⟨rfl, rfl⟩) | (first | (go_at_call 13; (with_reducible refine (Mul_any g q _ _ _ (H.out.drewN _)).mono ?_); rintro e w' ⟨rfl, nn, rfl⟩) | (go_at_call 13; (with_reducible refine (Mul_any g q _ _ _ H.out).mono ?_); rintro e w' ⟨rfl, nn, rfl⟩)))
      clear m5
      go_wp2_with (first | (first | (go_at_call 13; (with_reducible refine (Mul_any g q _ _ _ (H.out.drewN _)).mono ?_); rintro e w' ⟨rfl, nn, rfl⟩) | (go_at_call 13; (with_reducible refine (Mul_any g q _ _ _ H.out).mono ?_); rintro e w' ⟨rfl, nn, rfl⟩)) | fail)
      rw [HB0.out (by simp)]
      refine (Div_zero g (Gf.mul q a 0) _).mono ?_
      rintro e w' ⟨rfl, rfl⟩
  all_goals
    go_wp2_with (first | (go_at_call 15; (with_reducible refine (inverse_any g q _ _ (H.out.drewN _)).mono ?_); rintro e w' ⟨rfl, nn, rfl⟩) | (go_at_call 13; refine Calls.mono (Mul_at g q 2 128 (by decide) (by decide) _ (H.out.drewN _)) ?_; rintro e w' ⟨rfl, nn, rfl⟩) | (go_at_call 16; (with_reducible refine (Poly_any g q _ (H.out.drewN _)).mono ?_); rintro e w' ⟨rfl, rfl⟩))
    go_ret
    refine ⟨?_, below_drewN HB.out _⟩
    have hq := q.toNat_lt
    have hq1 : ((q.toNat : Int) % 256) = (q.toNat : Int) := by omega
    go_simp
    first | done | exact hq1.symm | simp [hq1]
end Go.Proofs.Ytgfnfjnjlogpkaa
