/- The walks of the document's fields (sherdref01): every call. -/
import Derived.Test.YtgfnfjnjlogpkaaGfP
import Derived.Test.YtgfnfjnjlogpkaaGfPowersW
import Derived.Test.YtgfnfjnjlogpkaaGfA
namespace Go.Proofs.Ytgfnfjnjlogpkaa
open Go.RowKit
theorem RF.drewN {w : World} {g : Nat} {q : UInt8} (h : RF w g q) (n : Nat) : RF (w.drewN n) g q := h.below (below_drewN (Below.refl _ _) n)
theorem rAdd_any (a b : UInt8) (w : World) :
    Calls Try.prog 35 #[B a, B b] w fun e w' => e = .returned (B (a ^^^ b)) ∧ w' = w := by
  have hx := xor8 a b
  go_enter Try.func35, Try.ntmps35
  go_wp2
  go_ret
  exact ⟨rfl, rfl⟩
theorem rMul_any (g : Nat) (q a b : UInt8) (w : World) (h : RF w g q) :
    Calls Try.prog 36 #[.pointer (some ⟨g, 0, none⟩), B a, B b] w fun e w' => e = .returned (B (Gf.mul q a b)) ∧ w' = w := by
  have hc := h.c0
  clear h
  have ha := a.toNat_lt
  have hb := b.toNat_lt
  have hm := (Gf.mul q a b).toNat_lt
  go_enter Try.func36, Try.ntmps36
  go_wp2_with (go_at_call 34; refine (rtimes_any q a b _).mono ?_; rintro e w' ⟨rfl, rfl⟩)
  go_ret
  exact ⟨rfl, rfl⟩
theorem rMul_at {av bv : Int} (g : Nat) (q a b : UInt8) (ha : av = (a.toNat : Int)) (hb : bv = (b.toNat : Int)) (w : World) (h : RF w g q) :
    Calls Try.prog 36 #[.pointer (some ⟨g, 0, none⟩), .int .u8 av, .int .u8 bv] w fun e w' => e = .returned (B (Gf.mul q a b)) ∧ w' = w := by
  subst ha hb; exact rMul_any g q a b w h
theorem u8_mk (k : Nat) (h : k < 256) : (UInt8.ofNat k).toNat = k := by rw [UInt8.toNat_ofNat']; omega
set_option maxRecDepth 100000 in
theorem rInv_any (g : Nat) (q a c : UInt8) (hc : Gf.mul q a c = 1) (w : World) (h : RF w g q) :
    Calls Try.prog 38 #[.pointer (some ⟨g, 0, none⟩), B a] w fun e w' => e = .returned (.tuple #[B c, .int .i64 0]) ∧ w' = w := by
  have H := hid h
  have HC := hid hc
  have hc0 : 1 ≤ c.toNat := by
    rcases Nat.eq_zero_or_pos c.toNat with e | e
    · have : c = 0 := UInt8.toNat_inj.1 (by simpa using e)
      rw [this, Gf.mul_zero] at hc; exact absurd hc (by decide)
    · exact e
  have hlt := c.toNat_lt
  clear h hc
  go_enter Try.func38, Try.ntmps38
  go_wp2
  go_loop [6] (fun i => ∃ k : Nat, 1 ≤ k ∧ k ≤ c.toNat ∧ i = .int .i64 k) (fun i => 256 - (intOf i).toNat)
  case atStart => exact ⟨1, Nat.le_refl _, hc0, rfl⟩
  case round =>
    obtain ⟨k, hk1, hk, rfl⟩ := hrel
    by_cases he : k = c.toNat
    · have HE := hid he
      clear he
      go_wp2_with (go_at_call 36; refine (rMul_at g q a c rfl (by rw [HE.out]) _ H.out).mono ?_; rw [HC.out]; rintro e w' ⟨rfl, rfl⟩)
      go_ret2
      obtain rfl := HE.out
      exact ⟨rfl, rfl⟩
    · have hn : Gf.mul q a (UInt8.ofNat k) ≠ 1 := fun h => he (by rw [← Gf.inv_unique h HC.out, u8_mk k (by omega)])
      have d1 : (((Gf.mul q a (UInt8.ofNat k)).toNat : Int) == 1) = false := by
        rw [beq_eq_false_iff_ne]; intro h; exact hn (UInt8.toNat_inj.1 (by simp at h ⊢; omega))
      clear hn
      go_wp2_with (go_at_call 36; refine (rMul_at g q a (UInt8.ofNat k) rfl (by rw [u8_mk k (by omega)]) _ H.out).mono ?_; rintro e w' ⟨rfl, rfl⟩)
      go_round
      case rel => exact ⟨k + 1, by omega, by omega, by go_num⟩
      case measure => simp [intOf]; omega
set_option maxRecDepth 100000 in
theorem rInv_zero (g : Nat) (q : UInt8) (w : World) (h : RF w g q) :
    Calls Try.prog 38 #[.pointer (some ⟨g, 0, none⟩), B 0] w fun e w' => e = .returned (.tuple #[.int .u8 0, .int .i64 10]) ∧ w' = w := by
  have H := hid h
  clear h
  go_enter Try.func38, Try.ntmps38
  go_wp2
  go_loop [6] (fun i => ∃ k : Nat, 1 ≤ k ∧ k ≤ 256 ∧ i = .int .i64 k) (fun i => 256 - (intOf i).toNat)
  case atStart => exact ⟨1, Nat.le_refl _, by omega, rfl⟩
  case round =>
    obtain ⟨k, hk1, hk, rfl⟩ := hrel
    by_cases hlt : k < 256
    · go_wp2_with (go_at_call 36; refine (rMul_at g q 0 (UInt8.ofNat k) rfl (by rw [u8_mk k (by omega)]) _ H.out).mono ?_; rw [Gf.zero_mul]; rintro e w' ⟨rfl, rfl⟩)
      go_round
      case rel => exact ⟨k + 1, by omega, by omega, by go_num⟩
      case measure => simp [intOf]; omega
    · go_wp2
      go_ret2
      exact ⟨rfl, rfl⟩
theorem rDiv_any (g : Nat) (q a b c : UInt8) (hbc : Gf.mul q b c = 1) (w : World) (h : RF w g q) :
    Calls Try.prog 37 #[.pointer (some ⟨g, 0, none⟩), B a, B b] w fun e w' => e = .returned (.tuple #[B (Gf.mul q a c), .int .i64 0]) ∧ w' = w := by
  have H := hid h
  clear h
  go_enter Try.func37, Try.ntmps37
  go_wp2_with fail
  refine (rInv_any g q b c hbc w H.out).mono ?_
  rintro e w' ⟨rfl, rfl⟩
  go_wp2_with fail
  refine (rMul_any g q a c _ H.out).mono ?_
  rintro e w' ⟨rfl, rfl⟩
  go_wp2
  go_ret2
  exact ⟨rfl, rfl⟩
theorem rDiv_zero (g : Nat) (q a : UInt8) (w : World) (h : RF w g q) :
    Calls Try.prog 37 #[.pointer (some ⟨g, 0, none⟩), B a, B 0] w fun e w' => e = .returned (.tuple #[.int .u8 0, .int .i64 10]) ∧ w' = w := by
  have H := hid h
  clear h
  go_enter Try.func37, Try.ntmps37
  go_wp2_with fail
  refine (rInv_zero g q w H.out).mono ?_
  rintro e w' ⟨rfl, rfl⟩
  go_wp2
  go_ret2
  exact ⟨rfl, rfl⟩
/-- a to a power, one by one -/
def rpw (q a : UInt8) : Nat → UInt8
  | 0 => 1
  | k + 1 => Gf.mul q (rpw q a k) a
theorem rpw_ix (q : UInt8) (i : Nat) : ∀ k, rpw q (Gf.pw q i) k = Gf.pw q (i * k)
  | 0 => rfl
  | k + 1 => by rw [rpw, rpw_ix q i k, Gf.pw_add, Nat.mul_succ]
theorem rpower_any (g : Nat) (q a : UInt8) (n : Nat) (hn : n ≤ 508) (w : World) (h : RF w g q) :
    Calls Try.prog 43 #[.pointer (some ⟨g, 0, none⟩), B a, .int .i64 n] w fun e w' => e = .returned (B (rpw q a n)) ∧ w' = w := by
  have H := hid h
  clear h
  go_enter Try.func43, Try.ntmps43
  go_wp2
  go_loop [7, 8] (fun x i => ∃ k : Nat, k ≤ n ∧ i = .int .i64 k ∧ x = B (rpw q a k)) (fun _ i => n - (intOf i).toNat)
  case atStart => exact ⟨0, Nat.zero_le _, rfl, rfl⟩
  case round =>
    obtain ⟨k, hk, rfl, rfl⟩ := hrel
    by_cases hlt : k < n
    · have HS : Hid (rpw q a (k + 1) = Gf.mul q (rpw q a k) a) := rfl
      generalize rpw q a k = x at *
      go_wp2_with (go_at_call 36; refine (rMul_any g q x a _ H.out).mono ?_; rintro e w' ⟨rfl, rfl⟩)
      go_round
      case rel => exact ⟨k + 1, by omega, by go_num, by rw [HS.out]⟩
      case measure => simp [intOf]; omega
    · obtain rfl : k = n := by omega
      go_wp2
      go_ret
      exact ⟨rfl, rfl⟩
theorem rPow_neg (g : Nat) (n : Int) (hn : n < 0) (w : World) :
    Calls Try.prog 39 #[.pointer (some ⟨g, 0, none⟩), B 0, .int .i64 n] w fun e w' => e = .returned (.tuple #[.int .u8 0, .int .i64 10]) ∧ w' = w := by
  go_enter Try.func39, Try.ntmps39
  go_wp2
  go_ret2
  exact ⟨rfl, rfl⟩
theorem rPow_pos (g : Nat) (n : Int) (hn : 0 < n) (w : World) :
    Calls Try.prog 39 #[.pointer (some ⟨g, 0, none⟩), B 0, .int .i64 n] w fun e w' => e = .returned (.tuple #[.int .u8 0, .int .i64 0]) ∧ w' = w := by
  go_enter Try.func39, Try.ntmps39
  go_wp2
  go_ret2
  exact ⟨rfl, rfl⟩
theorem rPow_00 (g : Nat) (q : UInt8) (w : World) (h : RF w g q) :
    Calls Try.prog 39 #[.pointer (some ⟨g, 0, none⟩), B 0, .int .i64 0] w fun e w' => e = .returned (.tuple #[.int .u8 1, .int .i64 0]) ∧ w' = w := by
  have H := hid h
  clear h
  go_enter Try.func39, Try.ntmps39
  go_wp2_with fail
  refine (rpower_any g q 0 0 (by omega) _ H.out).mono ?_
  rintro e w' ⟨rfl, rfl⟩
  go_wp2
  go_ret2
  exact ⟨rfl, rfl⟩
set_option maxRecDepth 100000 in
theorem rPow_any (g : Nat) (q a : UInt8) (ha : a ≠ 0) (n : Int) (w : World) (h : RF w g q) (h0 : -9223372036854775808 ≤ n) (h1 : n ≤ 9223372036854775807) :
    Calls Try.prog 39 #[.pointer (some ⟨g, 0, none⟩), B a, .int .i64 n] w fun e w' => e = .returned (.tuple #[B (rpw q a (n % 255).toNat), .int .i64 0]) ∧ w' = w := by
  have za := u8_ne0 ha
  have H := hid h
  clear h ha
  have t1 := Int.tmod_lt_of_pos n (show (0 : Int) < 255 by decide)
  have t2 := Int.lt_tmod_of_pos n (show (0 : Int) < 255 by decide)
  obtain ⟨k, hk⟩ : ∃ k : Nat, n % 255 = (k : Int) := ⟨(n % 255).toNat, by omega⟩
  have hk1 : k ≤ 508 := by omega
  rw [hk, Int.toNat_natCast]
  rcases Int.lt_or_le (n.tmod 255) 0 with hneg | hneg
  case' inl =>
    have hr : n.tmod 255 + 255 = (k : Int) := by
      rw [← hk]
      have e : n.tmod 255 = n % 255 - (if 0 ≤ n ∨ (255 : Int) ∣ n then 0 else (255 : Int).natAbs) := Int.tmod_eq_emod
      split at e <;> omega
  case' inr =>
    have hr : n.tmod 255 = (k : Int) := by
      rw [← hk]
      have e : n.tmod 255 = n % 255 - (if 0 ≤ n ∨ (255 : Int) ∣ n then 0 else (255 : Int).natAbs) := Int.tmod_eq_emod
      split at e <;> omega
  all_goals
    clear hk
    go_enter Try.func39, Try.ntmps39
    go_wp2_with fail
    refine (rpower_any g q a k hk1 _ H.out).mono ?_
    rintro e w' ⟨rfl, rfl⟩
    clear hr t1 t2
    go_wp2
    go_ret2
    exact ⟨rfl, rfl⟩
end Go.Proofs.Ytgfnfjnjlogpkaa
