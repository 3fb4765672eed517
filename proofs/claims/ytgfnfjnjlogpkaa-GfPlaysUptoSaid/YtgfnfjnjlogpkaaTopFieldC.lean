/- The top statement's own helpers: times, power, makes. -/
import Derived.Test.YtgfnfjnjlogpkaaGfN
namespace Go.Proofs.Ytgfnfjnjlogpkaa
open Go.RowKit
theorem bit_test8 (b : UInt8) (j : Nat) (hj : j < 8) : (bits .and .u8 ((b.toNat : Int) / 2 ^ j) 1 == 1) = b.toBitVec.getLsbD j := by
  have h : (b.toNat : Int) / 2 ^ j = ((b.toNat / 2 ^ j : Nat) : Int) := by push_cast; rfl
  have hb := b.toNat_lt
  have hl : b.toNat / 2 ^ j ≤ b.toNat := Nat.div_le_self _ _
  rw [h, show (1 : Int) = ((1 : Nat) : Int) from rfl, u8_and_nat _ _ (by omega) (by omega), Nat.and_one_is_mod]
  simp only [BitVec.getLsbD, Nat.testBit_eq_decide_div_mod_eq]
  have : ((((b.toNat / 2 ^ j % 2 : Nat) : Int)) == ((1 : Nat) : Int)) = decide (b.toNat / 2 ^ j % 2 = 1) := by
    rw [Bool.eq_iff_iff, beq_iff_eq, decide_eq_true_iff]; omega
  exact this
theorem xor_i64b (a b : UInt8) : bits .xor .i64 (a.toNat : Int) (b.toNat : Int) = ((a ^^^ b).toNat : Int) := by
  rw [xor_i64 _ _ (by have := a.toNat_lt; omega) (by have := b.toNat_lt; omega), UInt8.toNat_xor]
set_option maxRecDepth 100000 in
set_option maxHeartbeats 1000000 in
theorem times_any (q a b : UInt8) (w : World) :
    Calls Try.prog 31 #[.int .i64 (256 + (q.toNat : Int)), B a, B b] w fun e w' => e = .returned (B (Gf.mul q a b)) ∧ w' = w := by
  have hb := q.toNat_lt
  have ha := a.toNat_lt
  go_enter Try.func31, Try.ntmps31
  go_wp2
  go_loopw [7, 8, 9] (fun p x i wr => ∃ k : Nat, k ≤ 8 ∧ i = .int .i64 k ∧ p = .int .i64 ((Gf.lin (fun i => Gf.it q i a) b k).toNat : Int) ∧ x = .int .i64 ((Gf.it q k a).toNat : Int) ∧ wr = w) (fun _ _ i _ => 8 - (intOf i).toNat)
  case atStart => exact ⟨0, Nat.zero_le _, rfl, rfl, rfl, rfl⟩
  case round =>
    obtain ⟨k, hk, rfl, rfl, rfl, rfl⟩ := hrel
    by_cases hlt : k < 8
    · have ht := bit_test8 b k hlt
      have HL : Hid (Gf.lin (fun i => Gf.it q i a) b (k + 1) = Gf.lin (fun i => Gf.it q i a) b k ^^^ (if b.toBitVec.getLsbD k then Gf.it q k a else 0)) := rfl
      have HI : Hid (Gf.it q (k + 1) a = Gf.xt q (Gf.it q k a)) := Gf.it_succ q k a
      generalize Gf.lin (fun i => Gf.it q i a) b k = p at *
      generalize Gf.it q k a = x at *
      have xlt := x.toNat_lt
      have plt := p.toNat_lt
      have hx3 := xor_i64b p x
      generalize b.toBitVec.getLsbD k = bt at *
      by_cases hs : 2 * x.toNat < 256
      case' pos => have hx := nx_small q x hs
      case' neg => have hx := nx_big q x hs
      all_goals
        cases bt
        all_goals
          go_wp2
          go_roundw
          case rel => exact ⟨k + 1, by omega, by go_num, by rw [HL.out]; simp, by rw [HI.out], by simp⟩
          case measure => simp [intOf]; omega
    · obtain rfl : k = 8 := by omega
      have HM : Hid (Gf.mul q a b = Gf.lin (fun i => Gf.it q i a) b 8) := rfl
      generalize Gf.lin (fun i => Gf.it q i a) b 8 = p at *
      have plt := p.toNat_lt
      go_wp2
      go_ret
      rw [HM.out]
      exact ⟨rfl, rfl⟩
theorem times_at {pv av bv : Int} (q a b : UInt8) (hp : pv = 256 + (q.toNat : Int)) (ha : av = (a.toNat : Int)) (hb : bv = (b.toNat : Int)) (w : World) :
    Calls Try.prog 31 #[.int .i64 pv, .int .u8 av, .int .u8 bv] w fun e w' => e = .returned (B (Gf.mul q a b)) ∧ w' = w := by
  subst hp ha hb; exact times_any q a b w
theorem mul_2 (q a : UInt8) : Gf.mul q a 2 = Gf.xt q a := by
  have h2 : (2 : UInt8) = Gf.it q 1 1 := (Gf.it_one q 1 (by omega)).symm
  rw [Gf.mul_comm, h2, Gf.mul_it, Gf.mul_one']; rfl
set_option maxRecDepth 100000 in
set_option maxHeartbeats 1000000 in
theorem power_any (q : UInt8) (i : Nat) (hi : i ≤ 255) (w : World) :
    Calls Try.prog 32 #[.int .i64 (256 + (q.toNat : Int)), .int .i64 i] w fun e w' => e = .returned (B (Gf.pw q i)) ∧ w' = w := by
  have hb := q.toNat_lt
  go_enter Try.func32, Try.ntmps32
  go_wp2
  go_loopw [1, 5] (fun j p wr => ∃ k m : Nat, k + m = i ∧ j = .int .i64 k ∧ p = B (Gf.pw q m) ∧ wr = w) (fun j _ _ => (intOf j).toNat)
  case atStart => exact ⟨i, 0, rfl, rfl, rfl, rfl⟩
  case round =>
    obtain ⟨k, m, hk, rfl, rfl, rfl⟩ := hrel
    have HP : Hid (Gf.pw q (m + 1) = Gf.xt q (Gf.pw q m)) := Gf.it_succ q m 1
    have M2 := mul_2 q (Gf.pw q m)
    by_cases hlt : 0 < k
    · generalize Gf.pw q m = x at *
      go_wp2_with fail
      refine (times_at q x 2 rfl rfl (by decide) _).mono ?_
      rintro e w' ⟨rfl, rfl⟩
      rw [M2]
      go_wp2
      go_roundw
      case rel => exact ⟨k - 1, m + 1, by omega, by go_num, by rw [HP.out], by simp⟩
      case measure => simp [intOf]; omega
    · obtain rfl : k = 0 := by omega
      obtain rfl : m = i := by omega
      go_wp2
      go_ret
      exact ⟨rfl, rfl⟩
theorem u8_one (x : UInt8) : ((x.toNat : Int) == 1) = decide (x = 1) := by
  rw [Bool.eq_iff_iff, beq_iff_eq, decide_eq_true_iff]
  constructor
  · intro h; exact UInt8.toNat_inj.1 (by simp at h ⊢; omega)
  · intro h; rw [h]; rfl
theorem u8_zero (x : UInt8) : ((x.toNat : Int) == 0) = decide (x = 0) := by
  rw [Bool.eq_iff_iff, beq_iff_eq, decide_eq_true_iff]
  constructor
  · intro h; exact UInt8.toNat_inj.1 (by simpa using h)
  · intro h; rw [h]; rfl
theorem makes_out (n : Int) (h : n < 256 ∨ 511 < n) (w : World) :
    Calls Try.prog 30 #[.int .i64 n] w fun e w' => e = .returned (.bool false) ∧ w' = w := by
  rcases Int.lt_or_le n 256 with h1 | h1
  · go_enter Try.func30, Try.ntmps30
    go_wp2
    go_ret
    exact ⟨rfl, rfl⟩
  · have h2 : 511 < n := by omega
    clear h
    go_enter Try.func30, Try.ntmps30
    go_wp2
    go_ret
    exact ⟨rfl, rfl⟩
set_option maxRecDepth 100000 in
set_option maxHeartbeats 1000000 in
theorem makes_any (q : UInt8) (w : World) :
    Calls Try.prog 30 #[.int .i64 (256 + (q.toNat : Int))] w fun e w' => (∃ b, e = .returned (.bool b) ∧ (b = true ↔ Gf.Gen q)) ∧ w' = w := by
  have hb := q.toNat_lt
  go_enter Try.func30, Try.ntmps30
  go_wp2
  go_loopw [3, 4] (fun p i wr => ∃ k : Nat, k ≤ 254 ∧ i = .int .i64 ((k + 1 : Nat) : Int) ∧ p = B (Gf.pw q k) ∧ (∀ i, 0 < i → i ≤ k → Gf.pw q i ≠ 0 ∧ Gf.pw q i ≠ 1) ∧ wr = w) (fun _ i _ => 255 - (intOf i).toNat)
  case atStart => exact ⟨0, by omega, rfl, rfl, fun i h0 h => absurd h (by omega), rfl⟩
  case round =>
    obtain ⟨k, hk, rfl, rfl, hpass, rfl⟩ := hrel
    have HP : Hid (Gf.pw q (k + 1) = Gf.xt q (Gf.pw q k)) := Gf.it_succ q k 1
    have HM := hid (mul_2 q (Gf.pw q k))
    have HPASS := hid hpass
    clear hpass
    by_cases hlt : k < 254
    · have HN : Hid (Gf.pw q (k + 1) ≠ 0 → Gf.pw q (k + 1) ≠ 1 → ∀ i, 0 < i → i ≤ k + 1 → Gf.pw q i ≠ 0 ∧ Gf.pw q i ≠ 1) := hid fun n0 n1 i h0 hi => by
        by_cases e : i = k + 1
        · subst e; exact ⟨n0, n1⟩
        · exact HPASS.out i h0 (by omega)
      have HG : Hid (Gf.Gen q → Gf.pw q (k + 1) ≠ 0 ∧ Gf.pw q (k + 1) ≠ 1) := hid fun g => g.1 (k + 1) (by omega) (by omega)
      rw [← HP.out] at HM
      go_wp2_with fail
      refine (times_at q (Gf.pw q k) 2 rfl rfl (by decide) _).mono ?_
      rintro e w' ⟨rfl, rfl⟩
      rw [HM.out]
      have d1 := u8_one (Gf.pw q (k + 1))
      have d0 := u8_zero (Gf.pw q (k + 1))
      by_cases n1 : Gf.pw q (k + 1) = 1
      · rw [decide_eq_true n1] at d1
        have NG := hid fun g => (HG.out g).2 n1
        generalize Gf.pw q (k + 1) = x at *
        clear n1 d0
        go_wp2
        go_ret
        exact ⟨⟨false, rfl, by simpa using NG.out⟩, rfl⟩
      by_cases n0 : Gf.pw q (k + 1) = 0
      · rw [decide_eq_false n1] at d1
        rw [decide_eq_true n0] at d0
        have NG := hid fun g => (HG.out g).1 n0
        generalize Gf.pw q (k + 1) = x at *
        clear n1 n0
        go_wp2
        go_ret
        exact ⟨⟨false, rfl, by simpa using NG.out⟩, rfl⟩
      · rw [decide_eq_false n1] at d1
        rw [decide_eq_false n0] at d0
        have HNN := hid (HN.out n0 n1)
        clear n1 n0
        obtain ⟨x, hx⟩ : ∃ x, Gf.pw q (k + 1) = x := ⟨_, rfl⟩
        rw [hx] at d1 d0 ⊢
        have HX := hid hx
        clear hx
        go_wp2
        go_roundw
        case rel => exact ⟨k + 1, by omega, by go_num, by rw [HX.out], HNN.out, by simp⟩
        case measure => simp [intOf]; omega
    · have hk4 : k + 1 = 255 := by omega
      have hge : 254 ≤ k := by omega
      rw [← HP.out] at HM
      have HG : Hid (decide (Gf.pw q (k + 1) = 1) = true ↔ Gf.Gen q) := hid ⟨fun h => ⟨fun i h0 hi => HPASS.out i h0 (by omega), by rw [← hk4]; exact of_decide_eq_true h⟩, fun g => decide_eq_true (by rw [hk4]; exact g.2)⟩
      have d1 := u8_one (Gf.pw q (k + 1))
      clear hk4
      go_wp2_with fail
      refine (times_at q (Gf.pw q k) 2 rfl rfl (by decide) _).mono ?_
      rintro e w' ⟨rfl, rfl⟩
      rw [HM.out]
      generalize Gf.pw q (k + 1) = x at *
      generalize decide (x = 1) = bb at *
      go_wp2
      go_ret
      exact ⟨⟨bb, rfl, HG.out⟩, rfl⟩
end Go.Proofs.Ytgfnfjnjlogpkaa
