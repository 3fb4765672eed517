/- The walks of the document's fields (sherdref01): logarithms, sums over lists. -/
import Derived.Test.YtgfnfjnjlogpkaaGfP2
import Derived.StillTailTactics
namespace Go.Proofs.Ytgfnfjnjlogpkaa
open Go.RowKit
theorem rExp_any (g : Nat) (q : UInt8) (n : Int) (w : World) (h : RF w g q) (h0 : -9223372036854775808 ≤ n) (h1 : n ≤ 9223372036854775807) :
    Calls Try.prog 40 #[.pointer (some ⟨g, 0, none⟩), .int .i64 n] w fun e w' => e = .returned (B (Gf.pwi q n)) ∧ w' = w := by
  have hr : rpw q 2 (n % 255).toNat = Gf.pwi q n := by
    have h2 : (2 : UInt8) = Gf.pw q 1 := (Gf.it_one q 1 (by omega)).symm
    rw [h2, rpw_ix, Nat.one_mul]; rfl
  have HR := hid hr
  have H := hid h
  clear h hr
  go_enter Try.func40, Try.ntmps40
  go_wp2_with fail
  refine (rPow_any g q 2 (by decide) n _ H.out h0 h1).mono ?_
  rw [HR.out]
  rintro e w' ⟨rfl, rfl⟩
  go_wp2
  go_ret
  exact ⟨rfl, rfl⟩
theorem u8_dec (x y : UInt8) : ((x.toNat : Int) == (y.toNat : Int)) = decide (x = y) := by
  rw [Bool.eq_iff_iff, beq_iff_eq, decide_eq_true_iff]
  constructor
  · intro h; exact UInt8.toNat_inj.1 (by omega)
  · intro h; rw [h]
set_option maxRecDepth 100000 in
theorem rLog_ix (g : Nat) (q a : UInt8) (i : Nat) (hg : Gf.Gen q) (w : World) (h : RF w g q) (ha : Ix q a i) :
    Calls Try.prog 41 #[.pointer (some ⟨g, 0, none⟩), B a] w fun e w' => e = .returned (.tuple #[.int .i64 i, .int .i64 0]) ∧ w' = w := by
  have hi := ha.out.2
  have HG := hid hg
  have H := hid h
  clear h hg
  go_enter Try.func41, Try.ntmps41
  go_wp2
  go_loop [6, 7] (fun x i' => ∃ k : Nat, k ≤ i ∧ i' = .int .i64 k ∧ x = B (Gf.pw q k)) (fun _ i => 255 - (intOf i).toNat)
  case atStart => exact ⟨0, Nat.zero_le _, rfl, rfl⟩
  case round =>
    obtain ⟨k, hk, rfl, rfl⟩ := hrel
    have HP : Hid (Gf.pw q (k + 1) = Gf.mul q (Gf.pw q k) 2) := hid (by rw [mul_2]; exact Gf.it_succ q k 1)
    have hd := u8_dec (Gf.pw q k) a
    by_cases he : k = i
    · have e2 : Gf.pw q k = a := by rw [he]; exact ha.out.1.symm
      rw [decide_eq_true e2] at hd
      subst he
      clear e2
      generalize Gf.pw q k = x at *
      go_wp2
      go_ret2
      exact ⟨rfl, rfl⟩
    · have e2 : ¬ Gf.pw q k = a := fun e => he (Gf.pw_inj HG.out (by omega) hi (e.trans ha.out.1))
      rw [decide_eq_false e2] at hd
      clear e2
      generalize Gf.pw q k = x at *
      go_wp2_with (go_at_call 36; refine (rMul_at g q x 2 rfl (by decide) _ H.out).mono ?_; rintro e w' ⟨rfl, rfl⟩)
      go_round
      case rel => exact ⟨k + 1, by omega, by go_num, by rw [HP.out]⟩
      case measure => simp [intOf]; omega
set_option maxRecDepth 100000 in
theorem rLog_zero (g : Nat) (q : UInt8) (hg : Gf.Gen q) (w : World) (h : RF w g q) :
    Calls Try.prog 41 #[.pointer (some ⟨g, 0, none⟩), B 0] w fun e w' => e = .returned (.tuple #[.int .i64 0, .int .i64 10]) ∧ w' = w := by
  have HG := hid hg
  have H := hid h
  clear h hg
  go_enter Try.func41, Try.ntmps41
  go_wp2
  go_loop [6, 7] (fun x i' => ∃ k : Nat, k ≤ 255 ∧ i' = .int .i64 k ∧ x = B (Gf.pw q k)) (fun _ i => 255 - (intOf i).toNat)
  case atStart => exact ⟨0, Nat.zero_le _, rfl, rfl⟩
  case round =>
    obtain ⟨k, hk, rfl, rfl⟩ := hrel
    have HP : Hid (Gf.pw q (k + 1) = Gf.mul q (Gf.pw q k) 2) := hid (by rw [mul_2]; exact Gf.it_succ q k 1)
    have hd := u8_ne0 (Gf.pw_ne HG.out k)
    generalize Gf.pw q k = x at *
    by_cases hlt : k < 255
    · go_wp2_with (go_at_call 36; refine (rMul_at g q x 2 rfl (by decide) _ H.out).mono ?_; rintro e w' ⟨rfl, rfl⟩)
      go_round
      case rel => exact ⟨k + 1, by omega, by go_num, by rw [HP.out]⟩
      case measure => simp [intOf]; omega
    · go_wp2
      go_ret2
      exact ⟨rfl, rfl⟩
theorem rDot_any (g : Nat) (q : UInt8) (u v : Value) (l m : List UInt8) (w : World) (h : RF w g q) (hu : SlB w u l) (hv : SlB w v m) (hlm : l.length = m.length) (hlen : l.length ≤ 281474976710656) :
    Calls Try.prog 45 #[.pointer (some ⟨g, 0, none⟩), u, v] w fun e w' => e = .returned (.tuple #[B (dotN q l m l.length), .int .i64 0]) ∧ ∃ n, w' = w.drewN n := by
  obtain ⟨A, c, rfl, hc, _, hA⟩ := hu
  obtain ⟨A1, c1, rfl, hc1, _, hA1⟩ := hv
  rw [← hlm] at hA1 hc1 ⊢
  have H := hid h
  have HA := hid hA
  have HA1 := hid hA1
  have HLM := hid hlm
  clear h hA hA1 hlm
  go_enter Try.func45, Try.ntmps45
  go_wp2
  go_loopw [8, 9] (fun x i wr => ∃ (k : Nat) (n : Nat), k ≤ l.length ∧ i = .int .i64 k ∧ x = B (dotN q l m k) ∧ wr = w.drewN n) (fun _ i _ => l.length - (intOf i).toNat)
  case atStart => exact ⟨0, 0, Nat.zero_le _, rfl, rfl, rfl⟩
  case round =>
    obtain ⟨k, n, hk, rfl, rfl, hwr⟩ := hrel
    have HW := hid hwr
    clear hwr
    by_cases hlt : k < l.length
    · have HS : Hid (dotN q l m (k + 1) = dotN q l m k ^^^ Gf.mul q (l.getD k 0) (m.getD k 0)) := rfl
      generalize dotN q l m k = x at *
      obtain ⟨b, o, rfl, h1⟩ := HA.out (by omega)
      obtain ⟨b1, o1, rfl, h2⟩ := HA1.out (by omega)
      replace h1 : wr.cell? ⟨b, o + k, none⟩ = some (B (l.getD k 0)) := by rw [HW.out]; exact h1 k hlt
      replace h2 : wr.cell? ⟨b1, o1 + k, none⟩ = some (B (m.getD k 0)) := by rw [HW.out]; exact h2 k hlt
      have HF : Hid (RF wr g q) := by show RF wr g q; rw [HW.out]; exact H.out.drewN n
      generalize l.getD k 0 = y at *
      generalize m.getD k 0 = z at *
      go_wp2
      go_quiet ((go_at_call 36; exact Calls.quiet_of_same (rMul_any g q y z _ HF.out)))
      go_wp2
      go_roundw
      case rel => exact ⟨k + 1, n + nq, by omega, by go_num, by rw [HS.out, xor8], by rw [HW.out]; simp⟩
      case measure => simp [intOf]; omega
    · obtain rfl : k = l.length := by omega
      go_wp2
      go_ret2
      exact ⟨rfl, n, HW.out⟩
theorem rDot_shape (g : Nat) (A A1 : Option Addr) (n n1 c c1 : Nat) (hn : n ≠ n1) (h0 : n ≤ 281474976710656) (h1 : n1 ≤ 281474976710656) (w : World) :
    Calls Try.prog 45 #[.pointer (some ⟨g, 0, none⟩), .slice A n c, .slice A1 n1 c1] w fun e w' => e = .returned (.tuple #[.int .u8 0, .int .i64 12]) ∧ w' = w := by
  have hb : ((n : Int) != (n1 : Int)) = true := by rw [bne_iff_ne]; omega
  clear hn
  go_enter Try.func45, Try.ntmps45
  go_wp2
  go_ret2
  exact ⟨rfl, rfl⟩
theorem rEval_any (g : Nat) (q x : UInt8) (u : Value) (l : List UInt8) (w : World) (h : RF w g q) (hu : SlB w u l) (hlen : l.length ≤ 281474976710656) :
    Calls Try.prog 49 #[.pointer (some ⟨g, 0, none⟩), u, B x] w fun e w' => e = .returned (B (evalFrom q x l)) ∧ ∃ n, w' = w.drewN n := by
  obtain ⟨A, c, rfl, hc, _, hA⟩ := hu
  have H := hid h
  have HA := hid hA
  clear h hA
  go_enter Try.func49, Try.ntmps49
  go_wp2
  go_loopw [7, 8] (fun y i wr => ∃ (k : Nat) (n : Nat), k ≤ l.length ∧ i = .int .i64 ((k : Int) - 1) ∧ y = B (evalFrom q x (l.drop k)) ∧ wr = w.drewN n) (fun _ i _ => (intOf i + 1).toNat)
  case atStart => exact ⟨l.length, 0, Nat.le_refl _, rfl, by simp [evalFrom], rfl⟩
  case round =>
    obtain ⟨k, n, hk, rfl, rfl, hwr⟩ := hrel
    have HW := hid hwr
    clear hwr
    by_cases hlt : 0 < k
    · obtain ⟨j, rfl⟩ : ∃ j, k = j + 1 := ⟨k - 1, by omega⟩
      have HS : Hid (evalFrom q x (l.drop j) = Gf.mul q (evalFrom q x (l.drop (j + 1))) x ^^^ l.getD j 0) := by
        show _ = _
        rw [List.drop_eq_getElem_cons (by omega)]
        simp [evalFrom, show j < l.length by omega]
      generalize evalFrom q x (l.drop (j + 1)) = y at *
      obtain ⟨b, o, rfl, h1⟩ := HA.out (by omega)
      replace h1 := h1 j (by omega)
      have h2 : wr.cell? ⟨b, o + j, none⟩ = some (B (l.getD j 0)) := by rw [HW.out]; exact h1
      have HF : Hid (RF wr g q) := by show RF wr g q; rw [HW.out]; exact H.out.drewN n
      clear h1
      generalize l.getD j 0 = z at *
      go_wp2
      go_quiet ((go_at_call 36; exact Calls.quiet_of_same (rMul_any g q y x _ HF.out)))
      go_wp2
      go_roundw
      case rel => exact ⟨j, n + nq, by omega, (by first | rfl | go_num), by rw [HS.out, xor8], by rw [HW.out]; simp⟩
      case measure => simp [intOf]
    · obtain rfl : k = 0 := by omega
      go_wp2
      go_ret
      exact ⟨rfl, n, HW.out⟩
end Go.Proofs.Ytgfnfjnjlogpkaa
