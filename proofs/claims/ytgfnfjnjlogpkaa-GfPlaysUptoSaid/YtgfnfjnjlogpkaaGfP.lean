/- The walks of the document's fields (sherdref01). -/
import Derived.Test.YtgfnfjnjlogpkaaTopFieldC
import Derived.Test.YtgfnfjnjlogpkaaGfN
namespace Go.Proofs.Ytgfnfjnjlogpkaa
open Go.RowKit
theorem shr_bit (b : UInt8) (k : Nat) : (((b.toNat / 2 ^ k : Nat) : Int) % 2 == 1) = b.toBitVec.getLsbD k := by
  simp only [BitVec.getLsbD, Nat.testBit_eq_decide_div_mod_eq]
  rw [Bool.eq_iff_iff, beq_iff_eq, decide_eq_true_iff]
  show ((b.toNat / 2 ^ k : Nat) : Int) % 2 = 1 ↔ b.toNat / 2 ^ k % 2 = 1
  omega
set_option maxRecDepth 100000 in
set_option maxHeartbeats 1000000 in
theorem rtimes_any (q a b : UInt8) (w : World) :
    Calls Try.prog 34 #[.int .i64 (256 + (q.toNat : Int)), .int .i64 a.toNat, .int .i64 b.toNat] w fun e w' => e = .returned (.int .i64 (Gf.mul q a b).toNat) ∧ w' = w := by
  have hq := q.toNat_lt
  have ha := a.toNat_lt
  go_enter Try.func34, Try.ntmps34
  go_wp2
  go_loop [1, 2, 7, 8] (fun x y p i => ∃ k : Nat, k ≤ 8 ∧ i = .int .i64 k ∧ p = .int .i64 ((Gf.lin (fun i => Gf.it q i a) b k).toNat : Int) ∧ x = .int .i64 ((Gf.it q k a).toNat : Int) ∧ y = .int .i64 ((b.toNat / 2 ^ k : Nat) : Int)) (fun _ _ _ i => 8 - (intOf i).toNat)
  case atStart => exact ⟨0, Nat.zero_le _, rfl, rfl, rfl, by simp⟩
  case round =>
    obtain ⟨k, hk, rfl, rfl, rfl, rfl⟩ := hrel
    by_cases hlt : k < 8
    · have ht := shr_bit b k
      have HL : Hid (Gf.lin (fun i => Gf.it q i a) b (k + 1) = Gf.lin (fun i => Gf.it q i a) b k ^^^ (if b.toBitVec.getLsbD k then Gf.it q k a else 0)) := rfl
      have HI : Hid (Gf.it q (k + 1) a = Gf.xt q (Gf.it q k a)) := Gf.it_succ q k a
      have hd : ((b.toNat / 2 ^ k : Nat) : Int) / 2 = ((b.toNat / 2 ^ (k + 1) : Nat) : Int) := by
        rw [Nat.pow_succ, ← Nat.div_div_eq_div_mul]; omega
      have hb255 : b.toNat / 2 ^ k ≤ 255 := by
        have h1 := Nat.div_le_self b.toNat (2 ^ k)
        have h2 := b.toNat_lt
        omega
      obtain ⟨y2, hy2⟩ : ∃ y2, b.toNat / 2 ^ (k + 1) = y2 := ⟨_, rfl⟩
      rw [hy2] at hd
      have HY2 := hid hy2
      clear hy2
      generalize b.toNat / 2 ^ k = y at *
      generalize Gf.lin (fun i => Gf.it q i a) b k = p at *
      generalize Gf.it q k a = x at *
      have xlt := x.toNat_lt
      have plt := p.toNat_lt
      have hx3 := xor_i64b p x
      generalize b.toBitVec.getLsbD k = bt at *
      by_cases hs : 2 * x.toNat < 256
      case' pos => have hx : 2 * (x.toNat : Int) = ((Gf.xt q x).toNat : Int) := by rw [← nx_small q x hs]; omega
      case' neg => have hx : bits .xor .i64 (2 * (x.toNat : Int)) (256 + (q.toNat : Int)) = ((Gf.xt q x).toNat : Int) := by rw [← nx_big q x hs, Int.mul_comm]
      all_goals
        obtain ⟨z, hz⟩ : ∃ z, Gf.xt q x = z := ⟨_, rfl⟩
        rw [hz] at hx
        have HZ := hid hz
        have zlt := z.toNat_lt
        clear hz
        cases bt
        all_goals
          go_wp2
          go_round
          case rel => exact ⟨k + 1, by omega, by go_num, by rw [HL.out]; simp, by rw [HI.out, HZ.out], by rw [HY2.out]⟩
          case measure => simp [intOf]; omega
    · obtain rfl : k = 8 := by omega
      have HM : Hid (Gf.mul q a b = Gf.lin (fun i => Gf.it q i a) b 8) := rfl
      generalize Gf.lin (fun i => Gf.it q i a) b 8 = p at *
      have plt := p.toNat_lt
      go_wp2
      go_ret
      rw [HM.out]
      exact ⟨rfl, rfl⟩
theorem rtimes_at {pv av bv : Int} (q a b : UInt8) (hp : pv = 256 + (q.toNat : Int)) (ha : av = (a.toNat : Int)) (hb : bv = (b.toNat : Int)) (w : World) :
    Calls Try.prog 34 #[.int .i64 pv, .int .i64 av, .int .i64 bv] w fun e w' => e = .returned (.int .i64 (Gf.mul q a b).toNat) ∧ w' = w := by
  subst hp ha hb; exact rtimes_any q a b w
/-- the document's field, as it lies -/
def RF (w : World) (g : Nat) (q : UInt8) : Prop := w.heap[g]? = some (.cells #[.int .i64 (256 + (q.toNat : Int))] 75 (0, 0))
theorem RF.c0 {w : World} {g : Nat} {q : UInt8} (h : RF w g q) : w.cell? ⟨g, 0, none⟩ = some (.int .i64 (256 + (q.toNat : Int))) := by rw [blk_cell h]; rfl
theorem RF.below {w w' : World} {g : Nat} {q : UInt8} (h : RF w g q) (hb : Below w.heap.size w w') : RF w' g q := (hb.block g (blk_lt h)).trans h
theorem RF.lt {w : World} {g : Nat} {q : UInt8} (h : RF w g q) : g < w.heap.size := blk_lt h
theorem rNew_out (n : Int) (h : n < 256 ∨ 511 < n) (w : World) :
    Calls Try.prog 26 #[.int .i64 n] w fun e w' => e = .returned (.tuple #[.pointer none, .int .i64 11]) ∧ w' = w := by
  rcases Int.lt_or_le n 256 with h1 | h1
  · go_enter Try.func26, Try.ntmps26
    go_wp2
    go_ret2
    exact ⟨rfl, rfl⟩
  · have h2 : 511 < n := by omega
    clear h
    go_enter Try.func26, Try.ntmps26
    go_wp2
    go_ret2
    exact ⟨rfl, rfl⟩
set_option maxRecDepth 100000 in
set_option maxHeartbeats 1000000 in
theorem rNew_gen (q : UInt8) (hq : Gf.Gen q) (w : World) :
    Calls Try.prog 26 #[.int .i64 (256 + (q.toNat : Int))] w fun e w' => e = .returned (.tuple #[.pointer (some ⟨w.heap.size, 0, none⟩), .int .i64 0]) ∧ RF w' w.heap.size q ∧ Below w.heap.size w w' := by
  have hb := q.toNat_lt
  have HQ := hid hq
  clear hq
  go_enter Try.func26, Try.ntmps26
  go_wp2
  go_loop [4, 5] (fun x i => ∃ k : Nat, k ≤ 254 ∧ i = .int .i64 ((k + 1 : Nat) : Int) ∧ x = .int .i64 ((Gf.pw q (k + 1)).toNat : Int)) (fun _ i => 255 - (intOf i).toNat)
  case atStart => exact ⟨0, by omega, rfl, by rw [show Gf.pw q 1 = 2 from Gf.it_one q 1 (by omega)]; rfl⟩
  case round =>
    obtain ⟨k, hk, rfl, rfl⟩ := hrel
    have HP : Hid (Gf.pw q (k + 1 + 1) = Gf.xt q (Gf.pw q (k + 1))) := Gf.it_succ q (k + 1) 1
    have HM := hid (mul_2 q (Gf.pw q (k + 1)))
    by_cases hlt : k < 254
    · have h1 : 1 < (Gf.pw q (k + 1)).toNat := by
        obtain ⟨a, b⟩ := HQ.out.1 (k + 1) (by omega) (by omega)
        have a' : (Gf.pw q (k + 1)).toNat ≠ 0 := fun e => a (UInt8.toNat_inj.1 e)
        have b' : (Gf.pw q (k + 1)).toNat ≠ 1 := fun e => b (UInt8.toNat_inj.1 e)
        omega
      generalize Gf.pw q (k + 1) = x at *
      go_wp2_with fail
      refine (rtimes_at q x 2 rfl rfl (by decide) _).mono ?_
      rintro e w' ⟨rfl, hw⟩
      replace hw := hw.symm
      subst hw
      go_wp2
      go_round
      case rel => exact ⟨k + 1, by omega, by go_num, by rw [HP.out, HM.out]⟩
      case measure => simp [intOf]; omega
    · obtain rfl : k = 254 := by omega
      rw [show Gf.pw q (254 + 1) = 1 from HQ.out.2]
      go_wp2
      go_ret2
      exact ⟨rfl, heap_alloc_new _ _, (Below.refl _ _).alloc (Nat.le_refl _) _⟩
set_option maxRecDepth 100000 in
set_option maxHeartbeats 1000000 in
theorem rNew_not (q : UInt8) (hq : ¬ Gf.Gen q) (w : World) :
    Calls Try.prog 26 #[.int .i64 (256 + (q.toNat : Int))] w fun e w' => e = .returned (.tuple #[.pointer none, .int .i64 11]) ∧ w' = w := by
  have hb := q.toNat_lt
  have HQ := hid hq
  clear hq
  go_enter Try.func26, Try.ntmps26
  go_wp2
  go_loop [4, 5] (fun x i => ∃ k : Nat, k ≤ 254 ∧ i = .int .i64 ((k + 1 : Nat) : Int) ∧ x = .int .i64 ((Gf.pw q (k + 1)).toNat : Int) ∧ ∀ j, 0 < j → j ≤ k → Gf.pw q j ≠ 0 ∧ Gf.pw q j ≠ 1) (fun _ i => 255 - (intOf i).toNat)
  case atStart => exact ⟨0, by omega, rfl, by rw [show Gf.pw q 1 = 2 from Gf.it_one q 1 (by omega)]; rfl, fun j h0 h => absurd h (by omega)⟩
  case round =>
    obtain ⟨k, hk, rfl, rfl, hpass⟩ := hrel
    have HPASS := hid hpass
    clear hpass
    have HP : Hid (Gf.pw q (k + 1 + 1) = Gf.xt q (Gf.pw q (k + 1))) := Gf.it_succ q (k + 1) 1
    have HM := hid (mul_2 q (Gf.pw q (k + 1)))
    by_cases hlt : k < 254
    · by_cases h1 : 1 < (Gf.pw q (k + 1)).toNat
      · have HN : Hid (∀ j, 0 < j → j ≤ k + 1 → Gf.pw q j ≠ 0 ∧ Gf.pw q j ≠ 1) := hid fun j h0 hj => by
          by_cases e : j = k + 1
          · subst e
            exact ⟨fun e => by rw [e] at h1; exact absurd h1 (by decide), fun e => by rw [e] at h1; exact absurd h1 (by decide)⟩
          · exact HPASS.out j h0 (by omega)
        generalize Gf.pw q (k + 1) = x at *
        go_wp2_with fail
        refine (rtimes_at q x 2 rfl rfl (by decide) _).mono ?_
        rintro e w' ⟨rfl, hw⟩
        replace hw := hw.symm
        subst hw
        go_wp2
        go_round
        case rel => exact ⟨k + 1, by omega, by go_num, by rw [HP.out, HM.out], HN.out⟩
        case measure => simp [intOf]; omega
      · have h2 : (Gf.pw q (k + 1)).toNat ≤ 1 := by omega
        generalize Gf.pw q (k + 1) = x at *
        clear h1
        go_wp2
        go_ret2
        exact ⟨rfl, rfl⟩
    · obtain rfl : k = 254 := by omega
      have h1 : (((Gf.pw q (254 + 1)).toNat : Int) != 1) = true := by
        rw [bne_iff_ne]
        intro h
        have e : Gf.pw q 255 = 1 := UInt8.toNat_inj.1 (by simp at h ⊢; omega)
        exact HQ.out ⟨fun j h0 h1 => HPASS.out j h0 (by omega), e⟩
      generalize Gf.pw q (254 + 1) = x at *
      go_wp2
      go_ret2
      exact ⟨rfl, rfl⟩
theorem rStd_any (w : World) : Calls Try.prog 27 #[] w fun e w' => e = .returned (.pointer (some ⟨w.heap.size, 0, none⟩)) ∧ RF w' w.heap.size 0x1d ∧ Below w.heap.size w w' := by
  go_enter Try.func27, Try.ntmps27
  go_wp2
  go_ret
  exact ⟨rfl, heap_alloc_new _ _, (Below.refl _ _).alloc (Nat.le_refl _) _⟩
end Go.Proofs.Ytgfnfjnjlogpkaa
