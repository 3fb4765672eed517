/- Turning bits of bytes: what sum.Turn tells. (Taken over from the texts of the round sum.) -/
import Derived.Test.YtahpkknbejgnkaaDoorCrcM
import Derived.Test.YtahpkknbejgnkaaDoorByX
import Derived.Lib.SliceRun
namespace Go.Proofs.YtahpkknbejgnkaaDoor
open Go.RowKit
set_option maxHeartbeats 1000000 in
theorem clone_any (v : Value) (l : List UInt8) (w : World) (h : SlB w v l) (hl : l.length ≤ 140737488355328) :
    Calls Tryd.prog 66 #[v] w fun e w' => ∃ u, e = .returned u ∧ OwnB w' w.heap.size u l ∧ Below w.heap.size w w' := by
  have H := hid h
  clear h
  obtain ⟨A, c, e1, hc, hnil, _⟩ := H.out
  have hq := fun (a : Option Addr) (n c : Nat) (w : World) => Lib.run_eql_slice_nil (P := Tryd.prog) w 30 5 a n c 0 0 Tryd.underlying30
  cases A with
  | none =>
    obtain rfl := hnil rfl
    obtain rfl : l = [] := List.length_eq_zero_iff.1 (by omega)
    subst e1
    clear hnil hc
    go_enter Tryd.func66, Tryd.ntmps66
    go_wp2
    go_ret
    exact ⟨_, rfl, OwnB.nil _ _, Below.refl _ _⟩
  | some ad =>
    subst e1
    clear hnil
    go_enter Tryd.func66, Tryd.ntmps66
    go_wp2_with (at_builtin; refine wpList_appB rfl (.tmp 5) (.tmp 6) rfl w.heap.size _ _ [] l rfl rfl (by exact lit0 w) (by exact H.out.below ((Below.refl _ _).alloc (Nat.le_refl _) _)) (by simp; omega) (by simp) ?_; intro v1 w1 ho1 hg1; have hb1 := hid (OwnB.grown ((Below.refl w.heap.size w).alloc (Nat.le_refl _) _) (lit0 w) (Nat.le_refl _) (by simp) hg1))
    go_ret
    exact ⟨_, rfl, by simpa using ho1, hb1.out⟩

/-- what is turned behind the first bytes -/
def turnTo (at_ : Nat) (p : BitVec 32) (l : List UInt8) (m : Nat) : List UInt8 := l.mapIdx fun i b => if i < m then b ^^^ Crc.ebyte at_ p i else b
theorem turnTo_length (at_ : Nat) (p : BitVec 32) (l : List UInt8) (m : Nat) : (turnTo at_ p l m).length = l.length := by simp [turnTo]
theorem turnTo_get (at_ : Nat) (p : BitVec 32) (l : List UInt8) (m i : Nat) (hi : i < l.length) : (turnTo at_ p l m).getD i 0 = if i < m then l.getD i 0 ^^^ Crc.ebyte at_ p i else l.getD i 0 := by
  simp [turnTo, List.getElem?_mapIdx, hi]
theorem ext_getD {k l : List UInt8} (h : k.length = l.length) (hg : ∀ i, i < l.length → k.getD i 0 = l.getD i 0) : k = l := by
  apply List.ext_getElem h
  intro i h1 h2
  have := hg i h2
  simpa [h1, h2] using this
theorem turnTo_step (at_ : Nat) (p : BitVec 32) (l : List UInt8) (m : Nat) (hm : m < l.length) : (turnTo at_ p l m).set m (l.getD m 0 ^^^ Crc.ebyte at_ p m) = turnTo at_ p l (m + 1) := by
  apply ext_getD
  · simp [turnTo]
  · intro i hi
    rw [turnTo_length] at hi
    rw [turnTo_get _ _ _ _ _ hi]
    simp only [List.getD_eq_getElem?_getD, List.getElem?_set, turnTo_length]
    by_cases h : m = i
    · subst h; simp [hm]
    · simp only [h, if_false]
      have := turnTo_get at_ p l m i hi
      rw [List.getD_eq_getElem?_getD] at this
      rw [this]
      by_cases h2 : i < m
      · have h3 : i < m + 1 := by omega
        simp [h2, h3]
      · have h3 : ¬ i < m + 1 := by omega
        simp [h2, h3]
theorem ebyte_low (at_ : Nat) (p : BitVec 32) (i : Nat) (h : 8 * i + 8 ≤ at_) : Crc.ebyte at_ p i = 0 := by
  apply UInt8.eq_of_toBitVec_eq
  apply BitVec.eq_of_getLsbD_eq
  intro j hj
  rw [Crc.ebyte_bit _ _ _ _ hj]
  have : ¬ at_ ≤ 8 * i + j := by omega
  simp [Crc.ebit, this]
theorem ebyte_high (at_ : Nat) (p : BitVec 32) (i : Nat) (h : at_ + 32 ≤ 8 * i) : Crc.ebyte at_ p i = 0 := by
  apply UInt8.eq_of_toBitVec_eq
  apply BitVec.eq_of_getLsbD_eq
  intro j hj
  rw [Crc.ebyte_bit _ _ _ _ hj]
  simp [Crc.ebit]
  intro _
  exact BitVec.getLsbD_of_ge _ _ (by omega)
theorem turnTo_start (at_ : Nat) (p : BitVec 32) (l : List UInt8) : turnTo at_ p l (at_ / 8) = l := by
  apply ext_getD (turnTo_length _ _ _ _)
  intro i hi
  rw [turnTo_get _ _ _ _ _ hi]
  split
  · rw [ebyte_low _ _ _ (by omega)]; simp
  · rfl
theorem turnTo_all (at_ : Nat) (p : BitVec 32) (l : List UInt8) (m : Nat) (h : at_ / 8 + 5 ≤ m ∨ l.length ≤ m) : turnTo at_ p l m = Crc.turn at_ p l := by
  apply ext_getD (by rw [turnTo_length, Crc.turn_length])
  intro i hi
  rw [Crc.turn_length] at hi
  rw [turnTo_get _ _ _ _ _ hi, Crc.turn_get _ _ _ _ hi]
  split
  · rfl
  · rw [ebyte_high _ _ _ (by omega)]; simp
theorem ebyte_nat (f s k : Nat) (p : BitVec 32) (hs : s < 8) : (Crc.ebyte (8 * f + s) p (f + k)).toNat = p.toNat * 2 ^ s / 2 ^ (8 * k) % 256 := by
  have e0 : (Crc.ebyte (8 * f + s) p (f + k)).toNat = BitVec.toNat (if 8 * f + s ≤ 8 * (f + k) then (p >>> (8 * (f + k) - (8 * f + s))).setWidth 8 else p.setWidth 8 <<< (8 * f + s - 8 * (f + k))) := rfl
  rw [e0]
  by_cases h : 8 * f + s ≤ 8 * (f + k)
  · rw [if_pos h]
    rw [BitVec.toNat_setWidth, BitVec.toNat_ushiftRight, Nat.shiftRight_eq_div_pow]
    have e : 8 * (f + k) - (8 * f + s) = 8 * k - s := by omega
    have e2 : 2 ^ (8 * k) = 2 ^ s * 2 ^ (8 * k - s) := by rw [← Nat.pow_add]; congr 1; omega
    rw [e, e2, ← Nat.div_div_eq_div_mul, Nat.mul_div_cancel _ (Nat.two_pow_pos s)]
  · rw [if_neg h]
    have hk : k = 0 := by omega
    subst hk
    rw [BitVec.toNat_shiftLeft, BitVec.toNat_setWidth, Nat.shiftLeft_eq]
    have e : 8 * f + s - 8 * (f + 0) = s := by omega
    rw [e]
    simp [Nat.mod_mul_mod]

theorem turn_byte (p : BitVec 32) (b e : UInt8) (s k : Nat) (hs : s < 8) (he : e.toNat = p.toNat * 2 ^ s / 2 ^ (8 * k) % 256) :
    bits .xor .u8 (b.toNat : Int) (IntKind.u64.wrap ((p.toNat : Int) * 2 ^ s) / 2 ^ (8 * k) % 256) = ((b ^^^ e).toNat : Int) := by
  have h1 : (p.toNat : Int) * 2 ^ s = ((p.toNat * 2 ^ s : Nat) : Int) := by rw [Int.natCast_mul, Int.natCast_pow]; rfl
  have h2 : p.toNat * 2 ^ s < 18446744073709551616 := by
    have h3 : p.toNat < 4294967296 := p.isLt
    have h4 : 2 ^ s ≤ 2 ^ 7 := Nat.pow_le_pow_right (by decide) (by omega)
    have := Nat.mul_le_mul (Nat.le_of_lt h3) h4
    omega
  have h5 : IntKind.u64.wrap ((p.toNat * 2 ^ s : Nat) : Int) = ((p.toNat * 2 ^ s : Nat) : Int) := by
    rw [IntKind.wrap_u64]; omega
  have h6 : ((p.toNat * 2 ^ s : Nat) : Int) / 2 ^ (8 * k) % 256 = (e.toNat : Int) := by
    rw [he, show ((2 : Int) ^ (8 * k)) = ((2 ^ (8 * k) : Nat) : Int) by rw [Int.natCast_pow]; rfl]
    rfl
  rw [h1, h5, h6, u8_xor_nat _ _ (UInt8.toNat_lt b) (UInt8.toNat_lt e), UInt8.toNat_xor]
theorem Turn_neg (v : Value) (bit : Int) (p : BitVec 32) (hb : bit < 0) (w : World) (hv : ∃ A n c, v = .slice A n c) :
    Calls Tryd.prog 65 #[v, .int .i64 bit, W32 p] w fun e w' => e = .returned (.tuple #[.slice none 0 0, .int .i64 1]) ∧ w' = w := by
  obtain ⟨A, n, c, rfl⟩ := hv
  go_enter Tryd.func65, Tryd.ntmps65
  go_wp2
  go_ret2
  exact ⟨rfl, rfl⟩

set_option maxHeartbeats 1000000 in
theorem Turn_any (v : Value) (l : List UInt8) (bit : Nat) (p : BitVec 32) (hbit : bit ≤ 9223372036854775807) (w : World) (h : SlB w v l) (hl : l.length ≤ 140737488355328) :
    Calls Tryd.prog 65 #[v, .int .i64 bit, W32 p] w fun e w' => ∃ u, e = .returned (.tuple #[u, .int .i64 0]) ∧ OwnB w' w.heap.size u (Crc.turn bit p l) ∧ Below w.heap.size w w' := by
  have H := hid h
  clear h
  go_enter Tryd.func65, Tryd.ntmps65
  go_wp2_with fail
  refine (clone_any v l w H.out hl).mono ?_
  rintro e w1 ⟨u, rfl, ho, hb⟩
  have hul : ∃ A c, u = .slice A l.length c := by obtain ⟨A, c, rfl, _⟩ := ho.sl; exact ⟨A, c, rfl⟩
  obtain ⟨A, c, rfl⟩ := hul
  have HO := hid ho
  have HB := hid hb
  clear ho hb H
  obtain ⟨f, hf⟩ : ∃ f, f = bit / 8 := ⟨_, rfl⟩
  obtain ⟨s, hs⟩ : ∃ s, s = bit % 8 := ⟨_, rfl⟩
  have q1 : (bit : Int) / 8 = (f : Int) := by omega
  have q2 : (bit : Int) % 8 = (s : Int) := by omega
  have hs8 : s < 8 := by omega
  have hf1 : f ≤ 9223372036854775807 := by omega
  have HF := hid hf
  have HS := hid hs
  clear hf hs
  go_wp2
  go_loopw [20] (fun i wr => ∃ k : Nat, k ≤ 5 ∧ i = .int .i64 k ∧ OwnB wr w.heap.size (.slice A l.length c) (turnTo bit p l (f + k)) ∧ Below w.heap.size w wr) (fun i _ => 5 - (intOf i).toNat)
  case atStart => exact ⟨0, Nat.zero_le _, rfl, by rw [HF.out, Nat.add_zero, turnTo_start]; exact HO.out, HB.out⟩
  case round =>
    obtain ⟨k, hk, rfl, ho, hb⟩ := hrel
    have HO1 := hid ho
    have HB1 := hid hb
    clear ho hb
    by_cases hlt : k < 5
    · by_cases hin : f + k < l.length
      · obtain ⟨g, c1, e1, hg, _, _⟩ := HO1.out.some_ (by rw [turnTo_length]; omega)
        rw [turnTo_length] at e1
        injection e1 with e1 e2 e3
        subst e1; subst e3
        clear e2
        obtain ⟨hc, hfr⟩ := HO1.out.at_ (f + k) (by rw [turnTo_length]; omega)
        rw [turnTo_get _ _ _ _ _ hin, if_neg (by omega)] at hc
        have HT := hid (turnTo_step bit p l (f + k) hin)
        have HE : Hid ((Crc.ebyte bit p (f + k)).toNat = p.toNat * 2 ^ s / 2 ^ (8 * k) % 256) := by
          show _ = _
          rw [← ebyte_nat f s k p hs8, show 8 * f + s = bit by have := HF.out; have := HS.out; omega]
        generalize l.getD (f + k) 0 = b0 at *
        generalize Crc.ebyte bit p (f + k) = eb at *
        have HX := hid (turn_byte p b0 eb s k hs8 HE.out)
        have i0 : (0 : Int) ≤ (f : Int) + (k : Int) := by omega
        have i1 : (f : Int) + (k : Int) < (l.length : Int) := by omega
        have i2 : (f : Int) < (l.length : Int) - (k : Int) := by omega
        go_wp2
        go_region
        rw [HX.out]
        go_wp2
        go_roundw
        case rel => exact ⟨k + 1, by omega, by go_num, by rw [← Nat.add_assoc, ← HT.out]; exact (HO1.out.set_ (f + k) (b0 ^^^ eb)).drew, (below_set HB1.out hg _ _).drew⟩
        case measure => simp [intOf]; omega
      · go_wp2
        go_roundw
        case rel => exact ⟨k + 1, by omega, by go_num, by rw [turnTo_all _ _ _ _ (.inr (by omega))]; rw [turnTo_all _ _ _ _ (.inr (by omega))] at HO1; exact HO1.out, HB1.out⟩
        case measure => simp [intOf]; omega
    · go_wp2
      go_ret2
      rw [turnTo_all _ _ _ _ (.inl (by have := HF.out; omega))] at HO1
      exact ⟨_, rfl, HO1.out, HB1.out⟩

theorem xor8 (a b : UInt8) : bits .xor .u8 (a.toNat : Int) (b.toNat : Int) = ((a ^^^ b).toNat : Int) := by
  rw [u8_xor_nat _ _ (UInt8.toNat_lt a) (UInt8.toNat_lt b), UInt8.toNat_xor]
theorem tbit_ext {k l : List UInt8} (h : k.length = l.length) (hb : ∀ i, i < 8 * l.length → Crc.tbit k i = Crc.tbit l i) : k = l := by
  apply ext_getD h
  intro i hi
  apply UInt8.eq_of_toBitVec_eq
  apply BitVec.eq_of_getLsbD_eq
  intro j hj
  have := hb (8 * i + j) (by omega)
  unfold Crc.tbit at this
  rwa [show (8 * i + j) / 8 = i by omega, show (8 * i + j) % 8 = j by omega] at this
def low (p : BitVec 32) (i : Nat) : BitVec 32 := p &&& BitVec.ofNat 32 (2 ^ i - 1)
theorem low_get (p : BitVec 32) (i j : Nat) : (low p i).getLsbD j = (decide (j < i) && p.getLsbD j) := by
  unfold low
  rw [BitVec.getLsbD_and, BitVec.getLsbD_ofNat, Nat.testBit_two_pow_sub_one]
  by_cases hj : j < 32
  · simp [hj, Bool.and_comm]
  · rw [BitVec.getLsbD_of_ge p j (by omega)]; simp
theorem low_all (p : BitVec 32) : low p 32 = p := by
  apply BitVec.eq_of_getLsbD_eq
  intro j hj
  rw [low_get]; simp [hj]
def one8 (s : Nat) : UInt8 := ⟨BitVec.twoPow 8 s⟩
theorem one8_nat (s : Nat) : (2 : Int) ^ s % 256 = ((one8 s).toNat : Int) := by
  show _ = ((BitVec.twoPow 8 s).toNat : Int)
  rw [BitVec.toNat_twoPow, Int.natCast_emod, Int.natCast_pow]; rfl
theorem tbit_set (l : List UInt8) (q s k : Nat) (hq : q < l.length) (hs : s < 8) : Crc.tbit (l.set q (l.getD q 0 ^^^ one8 s)) k = (Crc.tbit l k ^^ decide (k = 8 * q + s)) := by
  unfold Crc.tbit
  by_cases h : q = k / 8
  · subst h
    simp only [List.getD_eq_getElem?_getD, List.getElem?_set, hq, if_true, Option.getD_some]
    rw [UInt8.toBitVec_xor, BitVec.getLsbD_xor]
    congr 1
    show (BitVec.twoPow 8 s).getLsbD _ = _
    rw [BitVec.getLsbD_twoPow]
    simp only [hs, decide_true, Bool.true_and]
    rw [Bool.eq_iff_iff, decide_eq_true_iff, decide_eq_true_iff]; omega
  · simp only [List.getD_eq_getElem?_getD, List.getElem?_set, h, if_false]
    have : ¬ k = 8 * q + s := by omega
    simp [this]
theorem turn_low_zero (n : Nat) (p : BitVec 32) (l : List UInt8) : Crc.turn n (low p 0) l = l := by
  apply tbit_ext (Crc.turn_length _ _ _)
  intro k hk
  rw [Crc.tbit_turn _ _ _ _ hk]
  simp [Crc.ebit, low_get]
theorem turn_low_step (n i : Nat) (p : BitVec 32) (l : List UInt8) (hin : n + i < 8 * l.length) (hp : p.getLsbD i = true) :
    (Crc.turn n (low p i) l).set ((n + i) / 8) ((Crc.turn n (low p i) l).getD ((n + i) / 8) 0 ^^^ one8 ((n + i) % 8)) = Crc.turn n (low p (i + 1)) l := by
  apply tbit_ext (by simp [Crc.turn_length])
  intro k hk
  rw [Crc.turn_length] at hk
  rw [tbit_set _ _ _ _ (by rw [Crc.turn_length]; omega) (by omega), Crc.tbit_turn _ _ _ _ hk, Crc.tbit_turn _ _ _ _ hk, Bool.xor_assoc]
  congr 1
  simp only [Crc.ebit, low_get]
  by_cases h1 : n ≤ k
  · by_cases h2 : k - n = i
    · have h3 : k = 8 * ((n + i) / 8) + (n + i) % 8 := by omega
      simp only [h1, decide_true, Bool.true_and, h2, hp]
      rw [← h3]; simp
    · have h3 : ¬ k = 8 * ((n + i) / 8) + (n + i) % 8 := by omega
      simp only [h1, h3, decide_true, decide_false, Bool.true_and, Bool.xor_false]
      congr 1
      rw [Bool.eq_iff_iff, decide_eq_true_iff, decide_eq_true_iff]; omega
  · have h3 : ¬ k = 8 * ((n + i) / 8) + (n + i) % 8 := by omega
    simp [h1, h3]
theorem turn_low_skip (n i : Nat) (p : BitVec 32) (l : List UInt8) (h : 8 * l.length ≤ n + i ∨ p.getLsbD i = false) :
    Crc.turn n (low p (i + 1)) l = Crc.turn n (low p i) l := by
  apply tbit_ext (by simp [Crc.turn_length])
  intro k hk
  rw [Crc.turn_length] at hk
  rw [Crc.tbit_turn _ _ _ _ hk, Crc.tbit_turn _ _ _ _ hk]
  congr 1
  simp only [Crc.ebit, low_get]
  by_cases h1 : n ≤ k
  · simp only [h1, decide_true, Bool.true_and]
    by_cases h2 : k - n = i
    · rw [h2]
      rcases h with h | h
      · omega
      · simp [h]
    · congr 1
      rw [Bool.eq_iff_iff, decide_eq_true_iff, decide_eq_true_iff]; omega
  · simp [h1]
theorem bit_test (x : BitVec 32) (k : Nat) : (bits .and .u32 ((x.toNat : Int) / 2 ^ k) 1 == 1) = x.getLsbD k := by
  have h : (x.toNat : Int) / 2 ^ k = ((x >>> k).toNat : Int) := by
    rw [BitVec.toNat_ushiftRight, Nat.shiftRight_eq_div_pow]; push_cast; rfl
  rw [h, show (1 : Int) = ((1 : Nat) : Int) from rfl, u32_and_nat _ _ (x >>> k).isLt (by omega), Nat.and_one_is_mod, BitVec.toNat_ushiftRight, Nat.shiftRight_eq_div_pow]
  simp only [BitVec.getLsbD, Nat.testBit_eq_decide_div_mod_eq]
  have : ((((x.toNat / 2 ^ k % 2 : Nat) : Int)) == ((1 : Nat) : Int)) = decide (x.toNat / 2 ^ k % 2 = 1) := by
    rw [Bool.eq_iff_iff, beq_iff_eq, decide_eq_true_iff]; omega
  exact this

end Go.Proofs.YtahpkknbejgnkaaDoor
