/- The two fields' answers under one name each. -/
import Derived.Test.YtgfnfjnjlogpkaaGfP3
namespace Go.Proofs.Ytgfnfjnjlogpkaa
open Go.RowKit
open Classical in
/-- the inverse, 0 of 0 -/
noncomputable def iv (q b : UInt8) : UInt8 := if h : ∃ c, Gf.mul q b c = 1 then h.choose else 0
theorem iv_mul {q : UInt8} (hg : Gf.Gen q) {b : UInt8} (hb : b ≠ 0) : Gf.mul q b (iv q b) = 1 := by
  unfold iv
  rw [dif_pos (Gf.inv_ex hg b hb)]
  exact (Gf.inv_ex hg b hb).choose_spec
theorem iv_zero (q : UInt8) : iv q 0 = 0 := by
  unfold iv
  rw [dif_neg]
  rintro ⟨c, hc⟩
  rw [Gf.zero_mul] at hc
  exact absurd hc (by decide)
def zE (b : UInt8) : Int := if b = 0 then 10 else 0
theorem zE_0 : zE 0 = 10 := rfl
theorem zE_ne {b : UInt8} (h : b ≠ 0) : zE b = 0 := if_neg h
open Classical in
noncomputable def lgR (q a : UInt8) : Nat := if h : ∃ i, a = Gf.pw q i ∧ i < 255 then h.choose else 0
theorem lgR_ix {q : UInt8} (hg : Gf.Gen q) {a : UInt8} (ha : a ≠ 0) : Ix q a (lgR q a) := by
  obtain ⟨i, hi, e⟩ := Gf.pw_surj hg a ha
  have h : ∃ i, a = Gf.pw q i ∧ i < 255 := ⟨i, e.symm, hi⟩
  unfold lgR
  rw [dif_pos h]
  exact h.choose_spec
theorem lgR_zero {q : UInt8} (hg : Gf.Gen q) : lgR q 0 = 0 := by
  unfold lgR
  rw [dif_neg]
  rintro ⟨i, h, _⟩
  exact Gf.pw_ne hg i h.symm
noncomputable def pwR (q a : UInt8) (n : Int) : UInt8 := if n = 0 then 1 else if a = 0 then 0 else Gf.powi q (lgR q a) n
def pwE (a : UInt8) (n : Int) : Int := if a = 0 ∧ n < 0 then 10 else 0
section
variable (g : Nat) (q a b : UInt8) (w : World)
theorem Inv_u (h : FieldAt w g q) : Calls Try.prog 23 #[.pointer (some ⟨g, 0, none⟩), B a] w fun e w' => e = .returned (.tuple #[B (iv q a), .int .i64 (zE a)]) ∧ ∃ n, w' = w.drewN n := by
  by_cases ha : a = 0
  · subst ha
    rw [iv_zero, zE_0]
    refine (Inv_zero g w).mono ?_
    rintro e w' ⟨rfl, rfl⟩
    exact ⟨rfl, 0, rfl⟩
  · rw [zE_ne ha]
    exact Inv_any g q a _ (iv_mul h.gen ha) w h
theorem rInv_u (hg : Gf.Gen q) (h : RF w g q) : Calls Try.prog 38 #[.pointer (some ⟨g, 0, none⟩), B a] w fun e w' => e = .returned (.tuple #[B (iv q a), .int .i64 (zE a)]) ∧ w' = w := by
  by_cases ha : a = 0
  · subst ha
    rw [iv_zero, zE_0]
    exact rInv_zero g q w h
  · rw [zE_ne ha]
    exact rInv_any g q a _ (iv_mul hg ha) w h
theorem Div_u (h : FieldAt w g q) : Calls Try.prog 14 #[.pointer (some ⟨g, 0, none⟩), B a, B b] w fun e w' => e = .returned (.tuple #[B (Gf.mul q a (iv q b)), .int .i64 (zE b)]) ∧ ∃ n, w' = w.drewN n := by
  by_cases hb : b = 0
  · subst hb
    rw [iv_zero, zE_0, Gf.mul_zero]
    refine (Div_zero g a w).mono ?_
    rintro e w' ⟨rfl, rfl⟩
    exact ⟨rfl, 0, rfl⟩
  · rw [zE_ne hb]
    exact Div_any g q a b _ (iv_mul h.gen hb) w h
theorem rDiv_u (hg : Gf.Gen q) (h : RF w g q) : Calls Try.prog 37 #[.pointer (some ⟨g, 0, none⟩), B a, B b] w fun e w' => e = .returned (.tuple #[B (Gf.mul q a (iv q b)), .int .i64 (zE b)]) ∧ w' = w := by
  by_cases hb : b = 0
  · subst hb
    rw [iv_zero, zE_0, Gf.mul_zero]
    exact rDiv_zero g q a w h
  · rw [zE_ne hb]
    exact rDiv_any g q a b _ (iv_mul hg hb) w h
theorem Log_u (h : FieldAt w g q) : Calls Try.prog 20 #[.pointer (some ⟨g, 0, none⟩), B a] w fun e w' => e = .returned (.tuple #[.int .i64 (lgR q a), .int .i64 (zE a)]) ∧ w' = w := by
  by_cases ha : a = 0
  · subst ha
    rw [lgR_zero h.gen, zE_0]
    exact Log_zero g w
  · rw [zE_ne ha]
    exact Log_ix g q a _ w h (lgR_ix h.gen ha)
theorem rLog_u (hg : Gf.Gen q) (h : RF w g q) : Calls Try.prog 41 #[.pointer (some ⟨g, 0, none⟩), B a] w fun e w' => e = .returned (.tuple #[.int .i64 (lgR q a), .int .i64 (zE a)]) ∧ w' = w := by
  by_cases ha : a = 0
  · subst ha
    rw [lgR_zero hg, zE_0]
    exact rLog_zero g q hg w h
  · rw [zE_ne ha]
    exact rLog_ix g q a _ hg w h (lgR_ix hg ha)
theorem Pow_u (n : Int) (h : FieldAt w g q) (h0 : -9223372036854775808 ≤ n) (h1 : n ≤ 9223372036854775807) : Calls Try.prog 21 #[.pointer (some ⟨g, 0, none⟩), B a, .int .i64 n] w fun e w' => e = .returned (.tuple #[B (pwR q a n), .int .i64 (pwE a n)]) ∧ ∃ n, w' = w.drewN n := by
  by_cases hn : n = 0
  · subst hn
    rw [show pwR q a 0 = 1 from if_pos rfl, show pwE a 0 = 0 from if_neg (by omega)]
    refine (Pow_zero0 g a w).mono ?_
    rintro e w' ⟨rfl, rfl⟩
    exact ⟨rfl, 0, rfl⟩
  by_cases ha : a = 0
  · subst ha
    rw [show pwR q 0 n = 0 by unfold pwR; rw [if_neg hn, if_pos rfl]]
    rcases Int.lt_or_le n 0 with h2 | h2
    · rw [show pwE 0 n = 10 from if_pos ⟨rfl, h2⟩]
      refine (Pow_neg g n h2 w).mono ?_
      rintro e w' ⟨rfl, rfl⟩
      exact ⟨rfl, 0, rfl⟩
    · rw [show pwE 0 n = 0 from if_neg (by omega)]
      refine (Pow_pos g n (by omega) w).mono ?_
      rintro e w' ⟨rfl, rfl⟩
      exact ⟨rfl, 0, rfl⟩
  · rw [show pwR q a n = Gf.powi q (lgR q a) n by unfold pwR; rw [if_neg hn, if_neg ha], show pwE a n = 0 from if_neg (fun h => ha h.1)]
    exact Pow_int g q a _ n w h (lgR_ix h.gen ha) h0 h1
theorem rPow_u (n : Int) (hg : Gf.Gen q) (h : RF w g q) (h0 : -9223372036854775808 ≤ n) (h1 : n ≤ 9223372036854775807) : Calls Try.prog 39 #[.pointer (some ⟨g, 0, none⟩), B a, .int .i64 n] w fun e w' => e = .returned (.tuple #[B (pwR q a n), .int .i64 (pwE a n)]) ∧ w' = w := by
  by_cases ha : a = 0
  · subst ha
    by_cases hn : n = 0
    · subst hn
      rw [show pwR q 0 0 = 1 from if_pos rfl, show pwE 0 0 = 0 from if_neg (by omega)]
      exact rPow_00 g q w h
    · rw [show pwR q 0 n = 0 by unfold pwR; rw [if_neg hn, if_pos rfl]]
      rcases Int.lt_or_le n 0 with h2 | h2
      · rw [show pwE 0 n = 10 from if_pos ⟨rfl, h2⟩]
        exact rPow_neg g n h2 w
      · rw [show pwE 0 n = 0 from if_neg (by omega)]
        exact rPow_pos g n (by omega) w
  · have e : rpw q a (n % 255).toNat = pwR q a n := by
      have hi := lgR_ix hg ha
      unfold pwR
      by_cases hn : n = 0
      · subst hn; rw [if_pos rfl]; rfl
      · rw [if_neg hn, if_neg ha]
        unfold Gf.powi
        conv => lhs; rw [hi.out.1]
        rw [rpw_ix]
    rw [← e, show pwE a n = 0 from if_neg (fun h => ha h.1)]
    exact rPow_any g q a ha n w h h0 h1
end
end Go.Proofs.Ytgfnfjnjlogpkaa
