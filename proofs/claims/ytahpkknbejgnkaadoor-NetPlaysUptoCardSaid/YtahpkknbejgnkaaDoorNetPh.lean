/- The document's network: Drop, Double, Lose, Cut, Burst, Copy. -/
import Derived.Test.YtahpkknbejgnkaaDoorNetPg
namespace Go.Proofs.YtahpkknbejgnkaaDoor
open Go.RowKit
theorem shr_bit32 (p : BitVec 32) (k : Nat) : (((p.toNat / 2 ^ k : Nat) : Int) % 2 == 1) = p.getLsbD k := by
  rw [BitVec.getLsbD, Nat.testBit_eq_decide_div_mod_eq, Bool.eq_iff_iff, beq_iff_eq, decide_eq_true_iff]
  omega
set_option maxRecDepth 100000 in
set_option maxHeartbeats 2000000 in
theorem Turned_any (v : Value) (l : List UInt8) (n : Nat) (p : BitVec 32) (hn : n ≤ 9223372036854775807) (w : World) (h : SlB w v l) (hl : l.length ≤ 140737488355328) :
    Calls Tryd.prog 42 #[v, .int .i64 (n : Int), W32 p] w fun e w' => ∃ u, e = .returned u ∧ OwnB w' w.heap.size u (Crc.turn n p l) ∧ Below w.heap.size w w' := by
  have H := hid h
  obtain ⟨A, c, rfl⟩ := h.form
  clear h
  go_enter Tryd.func42, Tryd.ntmps42
  go_upto_region 3 with (at_builtin; refine wpList_appBX rfl (.tmp 10) (.tmp 11) rfl w.heap.size (.slice none 0 0) (.slice A l.length c) [] l rfl rfl (OwnB.nil _ _) H.out (by simp only [List.length_nil]; omega) (Nat.le_refl _) ?_; intro v2 w2 ho2 hg2 hat2; rw [List.nil_append] at ho2; obtain ⟨A1, c1, rfl⟩ := ho2.form; have HO := hid ho2; have HB := hid (OwnB.grown (Below.refl w.heap.size w) (OwnB.nil _ _) (Nat.le_refl _) (Nat.le_refl _) hg2); clear ho2 hg2 hat2)
  go_wp2
  go_loopw [8] (fun i wr => ∃ k : Nat, k ≤ 32 ∧ i = .int .i64 k ∧ OwnB wr w.heap.size (.slice A1 l.length c1) (Crc.turn n (low p k) l) ∧ Below w.heap.size w wr) (fun i _ => 32 - (intOf i).toNat)
  case atStart => exact ⟨0, Nat.zero_le _, rfl, by rw [turn_low_zero]; exact HO.out, HB.out⟩
  case round =>
    clear HO HB
    obtain ⟨k, hk, rfl, ho, hb⟩ := hrel
    have HO := hid ho
    have HB := hid hb
    clear ho hb
    by_cases hlt : k < 32
    · obtain ⟨q, hq⟩ : ∃ q, q = (n + k) / 8 := ⟨_, rfl⟩
      obtain ⟨s, hs⟩ : ∃ s, s = (n + k) % 8 := ⟨_, rfl⟩
      have q1 : (n : Int) / 8 + ((n : Int) % 8 + (k : Int)) / 8 = (q : Int) := by omega
      have q2 : ((n : Int) % 8 + (k : Int)) % 8 = (s : Int) := by omega
      have hql : q ≤ 1152921504606846980 := by omega
      have hs8 : s < 8 := by omega
      have ht0 : ((p.toNat : Int) / 2 ^ k).tmod 2 = if p.getLsbD k then 1 else 0 := by
        have e : ((p.toNat : Int) / 2 ^ k) = ((p.toNat / 2 ^ k : Nat) : Int) := by push_cast; rfl
        rw [e, Int.tmod_eq_emod_of_nonneg (Int.natCast_nonneg _), ← shr_bit32 p k]
        generalize p.toNat / 2 ^ k = z
        split <;> simp at * <;> omega
      cases hp : p.getLsbD k
      · have ht : ((p.toNat : Int) / 2 ^ k).tmod 2 = 0 := by rw [ht0, hp]; rfl
        clear ht0
        have HS := hid (turn_low_skip n k p l (.inr hp))
        clear hp hq hs
        go_wp2
        go_roundw
        case rel => exact ⟨k + 1, by omega, by go_num, by rw [HS.out]; exact HO.out, HB.out⟩
        case measure => simp [intOf]; omega
      · have ht : ((p.toNat : Int) / 2 ^ k).tmod 2 = 1 := by rw [ht0, hp]; rfl
        clear ht0
        by_cases hin : n + k < 8 * l.length
        · have HS := hid (turn_low_step n k p l hin hp)
          rw [← hq, ← hs] at HS
          have ql : q < l.length := by omega
          have e5 := one8_nat s
          have qi : (q : Int) < (l.length : Int) := by omega
          obtain ⟨g, c2, eA, hg, _, _⟩ := HO.out.some_ (by rw [Crc.turn_length]; omega)
          rw [Crc.turn_length] at eA
          injection eA with eA e6 e7
          subst eA; subst e7
          clear e6 hp hin hq hs
          obtain ⟨hc, hfr⟩ := HO.out.at_ q (by rw [Crc.turn_length]; omega)
          generalize (Crc.turn n (low p k) l).getD q 0 = b0 at *
          have ex := xor8 b0 (one8 s)
          generalize one8 s = t1 at *
          go_upto_region 8 with (fail)
          go_region
          all_goals
            rw [← UInt8.toNat_xor]
            go_wp2
            go_roundw
            case rel => exact ⟨k + 1, by omega, by go_num, by rw [← HS.out]; exact (HO.out.set_ q (b0 ^^^ t1)).drew, (below_set HB.out hg _ _).drew⟩
            case measure => simp [intOf]; omega
        · have HS := hid (turn_low_skip n k p l (.inl (by omega)))
          have qi : ¬ (q : Int) < (l.length : Int) := by omega
          clear hp hq hs hin
          go_wp2
          go_roundw
          case rel => exact ⟨k + 1, by omega, by go_num, by rw [HS.out]; exact HO.out, HB.out⟩
          case measure => simp [intOf]; omega
    · obtain rfl : k = 32 := by omega
      rw [low_all] at HO
      go_wp2
      go_ret
      exact ⟨_, rfl, HO.out, HB.out⟩
theorem rDrop_ok (w : World) (S : Nat → Prop) (d : Nat) (P : List Pkt) (i : Nat) (h : RAt w S d P) (hi : i < P.length) (hl : ∀ p ∈ P, p.data.length ≤ 140737488355328) (hP : P.length ≤ 1099511627776) :
    Calls Tryd.prog 29 #[.pointer (some ⟨d, 0, none⟩), .int .i64 (i : Int)] w fun e w' => e = .returned (.int .i64 0) ∧ RAtt w w' S d (P.eraseIdx i) := by
  have H := hid (rTake_ok w S d P i h hi hl hP)
  clear h hl
  go_enter Tryd.func29, Tryd.ntmps29
  go_wp2_with fail
  refine H.out.mono ?_
  rintro e w1 ⟨u, rfl, hu, h1⟩
  have H1 := hid h1
  obtain ⟨A, c, rfl⟩ := hu.form
  unfold Pkt.val
  clear h1 hu H
  go_wp2
  go_ret
  exact ⟨rfl, H1.out.then_ ((Below.refl _ _).alloc (Nat.le_refl _) _)⟩
theorem rDrop_no (w : World) (S : Nat → Prop) (d : Nat) (P : List Pkt) (i : Int) (h : RAt w S d P) (hi : i < 0 ∨ (P.length : Int) ≤ i) :
    Calls Tryd.prog 29 #[.pointer (some ⟨d, 0, none⟩), .int .i64 i] w fun e w' => e = .returned (.int .i64 50) ∧ Below w.heap.size w w' := by
  have H := hid (rTake_no w S d P i h hi)
  clear h hi
  go_enter Tryd.func29, Tryd.ntmps29
  go_wp2_with fail
  refine H.out.mono ?_
  rintro e w1 ⟨rfl, h1⟩
  have H1 := hid h1
  unfold pkt0
  clear h1 H
  go_wp2
  go_ret
  exact ⟨rfl, H1.out.alloc H1.out.size _⟩
theorem rDrop_nil (i : Int) (w : World) :
    Calls Tryd.prog 29 #[.pointer none, .int .i64 i] w fun e w' => e = .returned (.int .i64 0) ∧ Below w.heap.size w w' := by
  go_enter Tryd.func29, Tryd.ntmps29
  go_wp2_with fail
  refine (rTake_nil i w).mono ?_
  rintro e w1 ⟨rfl, h1⟩
  have H1 := hid h1
  unfold pkt0
  clear h1
  go_wp2
  go_ret
  exact ⟨rfl, H1.out.alloc H1.out.size _⟩
theorem rDouble_nil (i : Int) (w : World) : Calls Tryd.prog 30 #[.pointer none, .int .i64 i] w fun e w' => e = .returned (.int .i64 0) ∧ w' = w := by
  go_enter Tryd.func30, Tryd.ntmps30
  go_wp2
  go_ret
  exact ⟨rfl, rfl⟩
theorem rDouble_no (w : World) (S : Nat → Prop) (d : Nat) (P : List Pkt) (i : Int) (h : RAt w S d P) (hi : i < 0 ∨ (P.length : Int) ≤ i) :
    Calls Tryd.prog 30 #[.pointer (some ⟨d, 0, none⟩), .int .i64 i] w fun e w' => e = .returned (.int .i64 50) ∧ w' = w := by
  have H := hid (there_no w S d P i h hi)
  clear h hi
  go_enter Tryd.func30, Tryd.ntmps30
  go_wp2_with fail
  refine H.out.mono ?_
  rintro e w' ⟨rfl, hw⟩
  replace hw := hw.symm
  subst hw
  go_wp2
  go_ret
  exact ⟨rfl, rfl⟩
theorem rLose_nil (i : Int) (w : World) : Calls Tryd.prog 35 #[.pointer none, .int .i64 i] w fun e w' => e = .returned (.int .i64 0) ∧ w' = w := by
  go_enter Tryd.func35, Tryd.ntmps35
  go_wp2
  go_ret
  exact ⟨rfl, rfl⟩
theorem rLose_no (w : World) (S : Nat → Prop) (d : Nat) (P : List Pkt) (i : Int) (h : RAt w S d P) (hi : i < 0 ∨ (P.length : Int) ≤ i) :
    Calls Tryd.prog 35 #[.pointer (some ⟨d, 0, none⟩), .int .i64 i] w fun e w' => e = .returned (.int .i64 50) ∧ w' = w := by
  have H := hid (there_no w S d P i h hi)
  clear h hi
  go_enter Tryd.func35, Tryd.ntmps35
  go_wp2_with fail
  refine H.out.mono ?_
  rintro e w' ⟨rfl, hw⟩
  replace hw := hw.symm
  subst hw
  go_wp2
  go_ret
  exact ⟨rfl, rfl⟩
theorem rCut_nil (i : Int) (n : Int) (w : World) : Calls Tryd.prog 33 #[.pointer none, .int .i64 i, .int .i64 n] w fun e w' => e = .returned (.int .i64 0) ∧ w' = w := by
  go_enter Tryd.func33, Tryd.ntmps33
  go_wp2
  go_ret
  exact ⟨rfl, rfl⟩
theorem rCut_no (w : World) (S : Nat → Prop) (d : Nat) (P : List Pkt) (i : Int) (n : Int) (h : RAt w S d P) (hi : i < 0 ∨ (P.length : Int) ≤ i) :
    Calls Tryd.prog 33 #[.pointer (some ⟨d, 0, none⟩), .int .i64 i, .int .i64 n] w fun e w' => e = .returned (.int .i64 50) ∧ w' = w := by
  have H := hid (there_no w S d P i h hi)
  clear h hi
  go_enter Tryd.func33, Tryd.ntmps33
  go_wp2_with fail
  refine H.out.mono ?_
  rintro e w' ⟨rfl, hw⟩
  replace hw := hw.symm
  subst hw
  go_wp2
  go_ret
  exact ⟨rfl, rfl⟩
theorem rBurst_nil (i : Int) (n : Int) (pat : BitVec 32) (w : World) : Calls Tryd.prog 31 #[.pointer none, .int .i64 i, .int .i64 n, W32 pat] w fun e w' => e = .returned (.int .i64 0) ∧ w' = w := by
  go_enter Tryd.func31, Tryd.ntmps31
  go_wp2
  go_ret
  exact ⟨rfl, rfl⟩
theorem rBurst_no (w : World) (S : Nat → Prop) (d : Nat) (P : List Pkt) (i : Int) (n : Int) (pat : BitVec 32) (h : RAt w S d P) (hi : i < 0 ∨ (P.length : Int) ≤ i) :
    Calls Tryd.prog 31 #[.pointer (some ⟨d, 0, none⟩), .int .i64 i, .int .i64 n, W32 pat] w fun e w' => e = .returned (.int .i64 50) ∧ w' = w := by
  have H := hid (there_no w S d P i h hi)
  clear h hi
  go_enter Tryd.func31, Tryd.ntmps31
  go_wp2_with fail
  refine H.out.mono ?_
  rintro e w' ⟨rfl, hw⟩
  replace hw := hw.symm
  subst hw
  go_wp2
  go_ret
  exact ⟨rfl, rfl⟩
theorem rCut_neg (w : World) (S : Nat → Prop) (d : Nat) (P : List Pkt) (i : Nat) (n : Int) (h : RAt w S d P) (hi : i < P.length) (hn : n < 0) :
    Calls Tryd.prog 33 #[.pointer (some ⟨d, 0, none⟩), .int .i64 (i : Int), .int .i64 n] w fun e w' => e = .returned (.int .i64 1) ∧ w' = w := by
  have H := hid (there_yes w S d P i h hi)
  clear h hi
  go_enter Tryd.func33, Tryd.ntmps33
  go_wp2_with fail
  refine H.out.mono ?_
  rintro e w' ⟨rfl, hw⟩
  replace hw := hw.symm
  subst hw
  go_wp2
  go_ret
  exact ⟨rfl, rfl⟩
theorem rBurst_neg (w : World) (S : Nat → Prop) (d : Nat) (P : List Pkt) (i : Nat) (n : Int) (pat : BitVec 32) (h : RAt w S d P) (hi : i < P.length) (hn : n < 0) :
    Calls Tryd.prog 31 #[.pointer (some ⟨d, 0, none⟩), .int .i64 (i : Int), .int .i64 n, W32 pat] w fun e w' => e = .returned (.int .i64 1) ∧ w' = w := by
  have H := hid (there_yes w S d P i h hi)
  clear h hi
  go_enter Tryd.func31, Tryd.ntmps31
  go_wp2_with fail
  refine H.out.mono ?_
  rintro e w' ⟨rfl, hw⟩
  replace hw := hw.symm
  subst hw
  go_wp2
  go_ret
  exact ⟨rfl, rfl⟩
end Go.Proofs.YtahpkknbejgnkaaDoor
