/- Turning bits one by one. -/
import Derived.Test.YthadfebboagabaaDoorSumB
namespace Go.Proofs.YthadfebboagabaaDoor
open Go.RowKit
theorem tbit_ext {k l : List UInt8} (h : k.length = l.length) (hb : ∀ i, i < 8 * l.length → Crc.tbit k i = Crc.tbit l i) : k = l := by
  apply ext_getD h
  intro i hi
  apply UInt8.eq_of_toBitVec_eq
  apply BitVec.eq_of_getLsbD_eq
  intro j hj
  have := hb (8 * i + j) (by omega)
  unfold Crc.tbit at this
  rwa [show (8 * i + j) / 8 = i by omega, show (8 * i + j) % 8 = j by omega] at this
def low (p : BitVec 32) (i : Nat) : BitVec 32 := p &&& BitVec.ofNat 32 (2 ^ i - 1)
theorem low_get (p : BitVec 32) (i j : Nat) : (low p i).getLsbD j = (decide (j < i) && p.getLsbD j) := by
  unfold low
  rw [BitVec.getLsbD_and, BitVec.getLsbD_ofNat, Nat.testBit_two_pow_sub_one]
  by_cases hj : j < 32
  · simp [hj, Bool.and_comm]
  · rw [BitVec.getLsbD_of_ge p j (by omega)]; simp
theorem low_all (p : BitVec 32) : low p 32 = p := by
  apply BitVec.eq_of_getLsbD_eq
  intro j hj
  rw [low_get]; simp [hj]
def one8 (s : Nat) : UInt8 := ⟨BitVec.twoPow 8 s⟩
theorem one8_nat (s : Nat) : (2 : Int) ^ s % 256 = ((one8 s).toNat : Int) := by
  show _ = ((BitVec.twoPow 8 s).toNat : Int)
  rw [BitVec.toNat_twoPow, Int.natCast_emod, Int.natCast_pow]; rfl
theorem tbit_set (l : List UInt8) (q s k : Nat) (hq : q < l.length) (hs : s < 8) : Crc.tbit (l.set q (l.getD q 0 ^^^ one8 s)) k = (Crc.tbit l k ^^ decide (k = 8 * q + s)) := by
  unfold Crc.tbit
  by_cases h : q = k / 8
  · subst h
    simp only [List.getD_eq_getElem?_getD, List.getElem?_set, hq, if_true, Option.getD_some]
    rw [UInt8.toBitVec_xor, BitVec.getLsbD_xor]
    congr 1
    show (BitVec.twoPow 8 s).getLsbD _ = _
    rw [BitVec.getLsbD_twoPow]
    simp only [hs, decide_true, Bool.true_and]
    rw [Bool.eq_iff_iff, decide_eq_true_iff, decide_eq_true_iff]; omega
  · simp only [List.getD_eq_getElem?_getD, List.getElem?_set, h, if_false]
    have : ¬ k = 8 * q + s := by omega
    simp [this]
theorem turn_low_zero (n : Nat) (p : BitVec 32) (l : List UInt8) : Crc.turn n (low p 0) l = l := by
  apply tbit_ext (Crc.turn_length _ _ _)
  intro k hk
  rw [Crc.tbit_turn _ _ _ _ hk]
  simp [Crc.ebit, low_get]
theorem turn_low_step (n i : Nat) (p : BitVec 32) (l : List UInt8) (hin : n + i < 8 * l.length) (hp : p.getLsbD i = true) :
    (Crc.turn n (low p i) l).set ((n + i) / 8) ((Crc.turn n (low p i) l).getD ((n + i) / 8) 0 ^^^ one8 ((n + i) % 8)) = Crc.turn n (low p (i + 1)) l := by
  apply tbit_ext (by simp [Crc.turn_length])
  intro k hk
  rw [Crc.turn_length] at hk
  rw [tbit_set _ _ _ _ (by rw [Crc.turn_length]; omega) (by omega), Crc.tbit_turn _ _ _ _ hk, Crc.tbit_turn _ _ _ _ hk, Bool.xor_assoc]
  congr 1
  simp only [Crc.ebit, low_get]
  by_cases h1 : n ≤ k
  · by_cases h2 : k - n = i
    · have h3 : k = 8 * ((n + i) / 8) + (n + i) % 8 := by omega
      simp only [h1, decide_true, Bool.true_and, h2, hp]
      rw [← h3]; simp
    · have h3 : ¬ k = 8 * ((n + i) / 8) + (n + i) % 8 := by omega
      simp only [h1, h3, decide_true, decide_false, Bool.true_and, Bool.xor_false]
      congr 1
      rw [Bool.eq_iff_iff, decide_eq_true_iff, decide_eq_true_iff]; omega
  · have h3 : ¬ k = 8 * ((n + i) / 8) + (n + i) % 8 := by omega
    simp [h1, h3]
theorem turn_low_skip (n i : Nat) (p : BitVec 32) (l : List UInt8) (h : 8 * l.length ≤ n + i ∨ p.getLsbD i = false) :
    Crc.turn n (low p (i + 1)) l = Crc.turn n (low p i) l := by
  apply tbit_ext (by simp [Crc.turn_length])
  intro k hk
  rw [Crc.turn_length] at hk
  rw [Crc.tbit_turn _ _ _ _ hk, Crc.tbit_turn _ _ _ _ hk]
  congr 1
  simp only [Crc.ebit, low_get]
  by_cases h1 : n ≤ k
  · simp only [h1, decide_true, Bool.true_and]
    by_cases h2 : k - n = i
    · rw [h2]
      rcases h with h | h
      · omega
      · simp [h]
    · congr 1
      rw [Bool.eq_iff_iff, decide_eq_true_iff, decide_eq_true_iff]; omega
  · simp [h1]
/-- what Turn tells, of any place -/
def turnZ (n : Int) (p : BitVec 32) (l : List UInt8) : List UInt8 := if n < 0 then [] else Crc.turn n.toNat p l
def errZ (n : Int) : Int := if n < 0 then 1 else 0
end Go.Proofs.YthadfebboagabaaDoor
