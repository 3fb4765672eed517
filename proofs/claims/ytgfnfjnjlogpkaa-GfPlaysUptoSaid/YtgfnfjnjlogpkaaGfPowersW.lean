/- The walk of the law GfPowers. -/
import Derived.Test.YtgfnfjnjlogpkaaGfFieldW
namespace Go.Proofs.Ytgfnfjnjlogpkaa
open Go.RowKit
namespace Gf
def pwi (q : UInt8) (n : Int) : UInt8 := pw q (n % 255).toNat
def powi (q : UInt8) (i : Nat) (n : Int) : UInt8 := pw q (i * (n % 255).toNat)
section
variable {q : UInt8} (g : Gen q)
include g
theorem pw_cong {m n : Nat} (h : m % 255 = n % 255) : pw q m = pw q n := by rw [← pw_mod g m, h, pw_mod g n]
theorem pwi_add (e d : Int) : pwi q (e + d) = mul q (pwi q e) (pwi q d) := by
  unfold pwi; rw [pw_add]; apply pw_cong g; omega
omit g in
theorem pwi_255 (e : Int) : pwi q (e + 255) = pwi q e := by unfold pwi; congr 2; omega
omit g in
theorem pwi_nat (i : Nat) (hi : i < 255) : pwi q (i : Int) = pw q i := by unfold pwi; congr 1; omega
theorem powi_add (i : Nat) (e d : Int) : powi q i (e + d) = mul q (powi q i e) (powi q i d) := by
  unfold powi; rw [pw_add]; apply pw_cong g; rw [← Nat.mul_add, Nat.mul_mod, Nat.mul_mod i (_ + _)]; congr 2; omega
end
theorem pwi_0 (q : UInt8) : pwi q 0 = 1 := rfl
theorem pwi_1 (q : UInt8) : pwi q 1 = 2 := it_one q 1 (by omega)
theorem powi_255 (q : UInt8) (i : Nat) : powi q i 255 = 1 := by
  unfold powi; rw [show i * ((255 : Int) % 255).toNat = 0 by simp]; rfl
end Gf
theorem Exp_int (g : Nat) (q : UInt8) (n : Int) (w : World) (h : FieldAt w g q) (h0 : -9223372036854775808 ≤ n) (h1 : n ≤ 9223372036854775807) :
    Calls Try.prog 19 #[.pointer (some ⟨g, 0, none⟩), .int .i64 n] w fun e w' => e = .returned (B (Gf.pwi q n)) ∧ ∃ n, w' = w.drewN n :=
  Exp_any g q n _ (by omega) w h h0 h1
def Ix (q a : UInt8) (i : Nat) : Prop := Hid (a = Gf.pw q i ∧ i < 255)
theorem Pow_int (g : Nat) (q a : UInt8) (i : Nat) (n : Int) (w : World) (h : FieldAt w g q) (ha : Ix q a i) (h0 : -9223372036854775808 ≤ n) (h1 : n ≤ 9223372036854775807) :
    Calls Try.prog 21 #[.pointer (some ⟨g, 0, none⟩), B a, .int .i64 n] w fun e w' => e = .returned (.tuple #[B (Gf.powi q i n), .int .i64 0]) ∧ ∃ n, w' = w.drewN n := by
  obtain ⟨rfl, hi⟩ := ha.out
  exact Pow_any g q i hi n _ (by omega) w h h0 h1
theorem Log_ix (g : Nat) (q a : UInt8) (i : Nat) (w : World) (h : FieldAt w g q) (ha : Ix q a i) :
    Calls Try.prog 20 #[.pointer (some ⟨g, 0, none⟩), B a] w fun e w' => e = .returned (.tuple #[.int .i64 i, .int .i64 0]) ∧ w' = w := by
  obtain ⟨rfl, hi⟩ := ha.out
  exact Log_any g q i hi w h
theorem Pow_00 (g : Nat) (w : World) : Calls Try.prog 21 #[.pointer (some ⟨g, 0, none⟩), .int .u8 0, .int .i64 0] w fun e w' => e = .returned (.tuple #[.int .u8 1, .int .i64 0]) ∧ w' = w := Pow_zero0 g 0 w
theorem Log_0 (g : Nat) (w : World) : Calls Try.prog 20 #[.pointer (some ⟨g, 0, none⟩), .int .u8 0] w fun e w' => e = .returned (.tuple #[.int .i64 0, .int .i64 10]) ∧ w' = w := Log_zero g w
set_option maxRecDepth 100000 in
set_option maxHeartbeats 4000000 in
theorem GfPowers_walk (n : Int) (a b c : UInt8) (x y : Int) (h0 : -9223372036854775808 ≤ n) (h1 : n ≤ 9223372036854775807) (w : World) :
    Calls Try.prog 6 #[.int .i64 n, .agg #[B a, B b, B c], .int .i64 x, .int .i64 y] w fun e w' => e = .returned (.bool true) ∧ Below w.heap.size w w' := by
  have x1 := Int.tmod_lt_of_pos x (show (0 : Int) < 100000 by decide)
  have x2 := Int.lt_tmod_of_pos x (show (0 : Int) < 100000 by decide)
  have y1 := Int.tmod_lt_of_pos y (show (0 : Int) < 100000 by decide)
  have y2 := Int.lt_tmod_of_pos y (show (0 : Int) < 100000 by decide)
  obtain ⟨x', hx⟩ : ∃ x', x.tmod 100000 = x' := ⟨_, rfl⟩
  obtain ⟨y', hy⟩ : ∃ y', y.tmod 100000 = y' := ⟨_, rfl⟩
  rw [hx] at x1 x2
  rw [hy] at y1 y2
  have XB : Hid (x' < 100000 ∧ -100000 < x' ∧ y' < 100000 ∧ -100000 < y') := hid ⟨x1, x2, y1, y2⟩
  have wx : wrap64 (x' + y') = x' + y' := (by unfold wrap64; omega)
  have wy : wrap64 (x' + 255) = x' + 255 := (by unfold wrap64; omega)
  clear x1 x2 y1 y2
  go_enter Try.func6, Try.ntmps6
  go_wp2_with fail
  refine (field_any n h0 h1 _).mono ?_
  rintro e w1 ⟨g, q, rfl, hf, hg, hb⟩
  have c0 := (hb.cell (p := ⟨w.heap.size, 0, none⟩) (by simp)).trans (show _ = some (B a) by go_simp)
  have c1 := (hb.cell (p := ⟨w.heap.size, 1, none⟩) (by simp)).trans (show _ = some (B b) by go_simp)
  have H := hid hf
  have HB := hid (((Below.refl w.heap.size w).alloc (Nat.le_refl _) _).trans (hb.mono (by simp)))
  have hgen := hf.gen
  clear hf hb hg
  have f1 : Gf.mul q (a ^^^ b) (a ^^^ b) = Gf.mul q a a ^^^ Gf.mul q b b := by
    rw [Gf.mul_xor, Gf.xor_mul, Gf.xor_mul, Gf.mul_comm q b a, UInt8.xor_assoc, ← UInt8.xor_assoc (Gf.mul q a b), UInt8.xor_self, UInt8.zero_xor]
  have f2 := Gf.pwi_0 q
  have f3 := Gf.pwi_1 q
  go_upto_region 9 with (first | (go_at_call 11; (with_reducible refine (Add_any _ _ _).mono ?_); rintro e w' ⟨rfl, rfl⟩) | (first | (go_at_call 13; (with_reducible refine (Mul_any g q _ _ _ (H.out.drewN _)).mono ?_); rintro e w' ⟨rfl, nn, rfl⟩) | (go_at_call 13; (with_reducible refine (Mul_any g q _ _ _ H.out).mono ?_); rintro e w' ⟨rfl, nn, rfl⟩)) | (first | (go_at_call 19; refine Calls.mono (Exp_int g q _ _ (H.out.drewN _) (by first | omega | (have := XB.out; first | omega | (unfold wrap64; omega))) (by first | omega | (have := XB.out; first | omega | (unfold wrap64; omega)))) ?_; rintro e w' ⟨rfl, nn, rfl⟩) | (go_at_call 19; refine Calls.mono (Exp_int g q _ _ H.out (by first | omega | (have := XB.out; first | omega | (unfold wrap64; omega))) (by first | omega | (have := XB.out; first | omega | (unfold wrap64; omega)))) ?_; rintro e w' ⟨rfl, nn, rfl⟩)))
  clear f1 f2 f3
  have f1 := Gf.pwi_add hgen x' y'
  have f2 := Gf.pwi_255 (q := q) x'
  go_upto_region 13 with (first | (first | (go_at_call 13; (with_reducible refine (Mul_any g q _ _ _ (H.out.drewN _)).mono ?_); rintro e w' ⟨rfl, nn, rfl⟩) | (go_at_call 13; (with_reducible refine (Mul_any g q _ _ _ H.out).mono ?_); rintro e w' ⟨rfl, nn, rfl⟩)) | (first | (go_at_call 19; refine Calls.mono (Exp_int g q _ _ (H.out.drewN _) (by first | omega | (have := XB.out; first | omega | (unfold wrap64; omega))) (by first | omega | (have := XB.out; first | omega | (unfold wrap64; omega)))) ?_; rintro e w' ⟨rfl, nn, rfl⟩) | (go_at_call 19; refine Calls.mono (Exp_int g q _ _ H.out (by first | omega | (have := XB.out; first | omega | (unfold wrap64; omega))) (by first | omega | (have := XB.out; first | omega | (unfold wrap64; omega)))) ?_; rintro e w' ⟨rfl, nn, rfl⟩)))
  clear f1 f2
  have HG := hid hgen
  clear hgen
  by_cases ha : a = 0
  case' pos =>
    have za : ((a.toNat : Int) == 0) = true := by rw [ha]; rfl
    go_upto_region 15 with (go_at_call 20; refine Calls.mono (Log_0 g _) ?_; rintro e w' ⟨rfl, rfl⟩)
  case' neg =>
    have za := u8_ne0 ha
    by_cases hb : b = 0
    case' pos =>
      have zb : ((b.toNat : Int) == 0) = true := by rw [hb]; rfl
      go_upto_region 15 with (go_at_call 20; refine Calls.mono (Log_0 g _) ?_; rintro e w' ⟨rfl, rfl⟩)
    case' neg =>
      have zb := u8_ne0 hb
      obtain ⟨i, hi, ei⟩ := Gf.pw_surj HG.out a ha
      obtain ⟨j, hj, ej⟩ := Gf.pw_surj HG.out b hb
      have IA : Ix q a i := hid ⟨ei.symm, hi⟩
      have IB : Ix q b j := hid ⟨ej.symm, hj⟩
      have IM : Ix q (Gf.mul q a b) ((i + j) % 255) := hid ⟨by rw [Gf.pw_mod HG.out, ← ei, ← ej, Gf.pw_add], by omega⟩
      have f1 := Gf.powi_add HG.out i x' y'
      have f2 := Gf.powi_255 q i
      have f3 : Gf.pwi q (i : Int) = a := (Gf.pwi_nat i hi).trans ei
      have f4 : Gf.pwi q (j : Int) = b := (Gf.pwi_nat j hj).trans ej
      have f5 : ((i : Int) + (j : Int)).tmod 255 = (((i + j) % 255 : Nat) : Int) := by rw [Int.tmod_eq_emod_of_nonneg (by omega)]; omega
      generalize (i + j) % 255 = k at *
      clear ei ej ha hb
      go_upto_region 23 with (first | (first | (go_at_call 13; (with_reducible refine (Mul_any g q _ _ _ (H.out.drewN _)).mono ?_); rintro e w' ⟨rfl, nn, rfl⟩) | (go_at_call 13; (with_reducible refine (Mul_any g q _ _ _ H.out).mono ?_); rintro e w' ⟨rfl, nn, rfl⟩)) | (go_at_call 21; refine Calls.mono (Pow_int g q _ i _ _ (H.out.drewN _) IA (by first | omega | (have := XB.out; omega)) (by first | omega | (have := XB.out; omega))) ?_; rintro e w' ⟨rfl, nn, rfl⟩))
      clear f1 f2
      go_wp2_with (first | (go_at_call 20; (with_reducible refine (Log_ix g q _ i _ (H.out.drewN _) IA).mono ?_); rintro e w' ⟨rfl, rfl⟩) | (go_at_call 20; (with_reducible refine (Log_ix g q _ j _ (H.out.drewN _) IB).mono ?_); rintro e w' ⟨rfl, rfl⟩) | (go_at_call 20; (with_reducible refine (Log_ix g q _ k _ (H.out.drewN _) IM).mono ?_); rintro e w' ⟨rfl, rfl⟩) | (first | (go_at_call 13; (with_reducible refine (Mul_any g q _ _ _ (H.out.drewN _)).mono ?_); rintro e w' ⟨rfl, nn, rfl⟩) | (go_at_call 13; (with_reducible refine (Mul_any g q _ _ _ H.out).mono ?_); rintro e w' ⟨rfl, nn, rfl⟩)) | (first | (go_at_call 19; refine Calls.mono (Exp_int g q _ _ (H.out.drewN _) (by first | omega | (have := XB.out; first | omega | (unfold wrap64; omega))) (by first | omega | (have := XB.out; first | omega | (unfold wrap64; omega)))) ?_; rintro e w' ⟨rfl, nn, rfl⟩) | (go_at_call 19; refine Calls.mono (Exp_int g q _ _ H.out (by first | omega | (have := XB.out; first | omega | (unfold wrap64; omega))) (by first | omega | (have := XB.out; first | omega | (unfold wrap64; omega)))) ?_; rintro e w' ⟨rfl, nn, rfl⟩)))
      go_ret
      exact ⟨rfl, below_drewN HB.out _⟩
  all_goals
    go_wp2_with (go_at_call 21; go_loud (refine Calls.mono (Pow_00 g _) ?_; rintro e w2 ⟨rfl, rfl⟩))
    go_ret
    exact ⟨rfl, below_drewN HB.out _⟩
end Go.Proofs.Ytgfnfjnjlogpkaa
