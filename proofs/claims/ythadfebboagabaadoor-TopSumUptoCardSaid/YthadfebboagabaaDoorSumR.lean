/- The walks of the document's answer for sums (sherdref06). -/
import Derived.Test.YthadfebboagabaaDoorCrcT
import Derived.Deep.RegionHeld3
namespace Go.Proofs.YthadfebboagabaaDoor
open Go.RowKit
theorem stp_odd (y : BitVec 32) (h : y.getLsbD 0 = true) : bits .xor .u32 ((y.toNat : Int) / 2) 3988292384 = ((Crc.stp y).toNat : Int) := by
  have e : (y.toNat : Int) / (2 : Int) = (((y >>> 1).toNat : Nat) : Int) := by rw [BitVec.toNat_ushiftRight, Nat.shiftRight_eq_div_pow]; omega
  rw [e, show (3988292384 : Int) = ((Crc.poly).toNat : Int) by decide, xor32]
  unfold Crc.stp; rw [h]; rfl
theorem stp_even (y : BitVec 32) (h : y.getLsbD 0 = false) : (y.toNat : Int) / 2 = ((Crc.stp y).toNat : Int) := by
  have e : (y.toNat : Int) / (2 : Int) = (((y >>> 1).toNat : Nat) : Int) := by rw [BitVec.toNat_ushiftRight, Nat.shiftRight_eq_div_pow]; omega
  rw [e]; unfold Crc.stp; rw [h]; simp
set_option maxHeartbeats 1000000 in
theorem bitwise_any (x : BitVec 32) (w : World) :
    Calls Tryd.prog 31 #[W32 x] w fun e w' => e = .returned (W32 (Crc.Z x)) ∧ w = w' := by
  go_enter Tryd.func31, Tryd.ntmps31
  go_wp2
  go_loopw [0, 3] (fun y i wr => ∃ k : Nat, k ≤ 8 ∧ i = .int .i64 k ∧ y = W32 (Crc.rounds Crc.stp k x) ∧ w = wr) (fun _ i _ => 8 - (intOf i).toNat)
  case atStart => exact ⟨0, Nat.zero_le _, rfl, rfl, rfl⟩
  case round =>
    obtain ⟨k, hk, rfl, rfl, rfl⟩ := hrel
    by_cases hlt : k < 8
    · have HN := hid (Crc.rounds_succ' Crc.stp k x)
      generalize Crc.rounds Crc.stp k x = y at *
      have ht := bit_test y 0
      simp only [Int.pow_zero, Int.ediv_one] at ht
      cases hy : y.getLsbD 0
      · rw [hy] at ht
        have HE := hid (stp_even y hy)
        clear hy
        go_wp2
        go_roundw
        case rel => exact ⟨k + 1, by omega, by go_num, by rw [HN.out, HE.out], (by trivial)⟩
        case measure => simp [intOf]; omega
      · rw [hy] at ht
        have HE := hid (stp_odd y hy)
        clear hy
        go_wp2
        go_roundw
        case rel => exact ⟨k + 1, by omega, by go_num, by rw [HN.out, HE.out], (by trivial)⟩
        case measure => simp [intOf]; omega
    · obtain rfl : k = 8 := by omega
      go_wp2
      go_ret
      exact ⟨rfl, rfl⟩
theorem bitwise_at {xv : Int} (x : BitVec 32) (w : World) (hx : xv = (x.toNat : Int)) :
    Calls Tryd.prog 31 #[.int .u32 xv] w fun e w' => e = .returned (W32 (Crc.Z x)) ∧ w = w' := by subst hx; exact bitwise_any x w
theorem xor_zx (x : BitVec 32) (b : UInt8) : bits .xor .u32 (x.toNat : Int) (b.toNat : Int) = ((x ^^^ Crc.zx b).toNat : Int) := by
  have e : ((b.toNat : Nat) : Int) = ((Crc.zx b).toNat : Int) := by
    have := b.toNat_lt
    simp only [Crc.zx, BitVec.toNat_setWidth, UInt8.toNat_toBitVec]; omega
  rw [e, xor32]

set_option maxHeartbeats 1000000 in
theorem refOf_any (v : Value) (ll : List (List UInt8)) (w : World) (h : SlBB w v ll) (hsz : ll.length ≤ 140737488351232) (hsz2 : ∀ i, (ll.getD i []).length ≤ 281474976710656) :
    Calls Tryd.prog 17 #[v] w fun e w' => e = .returned (W32 (Crc.sumOf ll.flatten)) ∧ w = w' := by
  obtain ⟨f, ⟨A, c, rfl, hc, _, hA⟩, hf⟩ := h
  have HA := hid hA
  have HF := hid hf
  clear hA hf
  go_enter Tryd.func17, Tryd.ntmps17
  go_wp2
  go_loop [3, 4] (fun x i => ∃ k : Nat, k ≤ ll.length ∧ i = .int .i64 k ∧ x = W32 (Crc.crc c0 (ll.take k).flatten)) (fun _ i => ll.length - (intOf i).toNat)
  case atStart => exact ⟨0, Nat.zero_le _, rfl, rfl⟩
  case round =>
    obtain ⟨k, hk, rfl, rfl⟩ := hrel
    by_cases hlt : k < ll.length
    · obtain ⟨b, off, rfl, hcell⟩ := HA.out (by omega)
      replace hcell := hcell k hlt
      obtain ⟨A1, c1, e1, hc1, _, h1⟩ := HF.out k hlt
      rw [e1] at hcell
      have hs := hsz2 k
      have HN : Hid (Crc.crc c0 (ll.take (k + 1)).flatten = Crc.crc (Crc.crc c0 (ll.take k).flatten) (ll.getD k [])) := by
        show _ = _; rw [← Crc.crc_append, List.take_succ_eq_append_getElem hlt]; simp [hlt, -List.take_append_getElem]
      generalize ll.getD k [] = l at *
      have H1 := hid h1
      clear e1 h1
      generalize Crc.crc c0 (ll.take k).flatten = x0 at *
      go_wp2
      go_loop [3, 5] (fun x i => ∃ j : Nat, j ≤ l.length ∧ i = .int .i64 j ∧ x = W32 (Crc.crc x0 (l.take j))) (fun _ i => l.length - (intOf i).toNat)
      case atStart => exact ⟨0, Nat.zero_le _, rfl, rfl⟩
      case round =>
        obtain ⟨j, hj, rfl, rfl⟩ := hrel
        by_cases hjl : j < l.length
        · obtain ⟨b1, off1, rfl, hc2⟩ := H1.out (by omega)
          replace hc2 := hc2 j hjl
          have HS := hid (Crc.crc_snoc x0 l j hjl)
          generalize Crc.crc x0 (l.take j) = x1 at *
          generalize l.getD j 0 = b2 at *
          have hb2 := b2.toNat_lt
          go_wp2_with fail
          refine Calls.mono (bitwise_at (x1 ^^^ Crc.zx b2) w (xor_zx x1 b2)) ?_
          rintro e w' ⟨rfl, rfl⟩
          go_wp2
          go_round
          case rel => exact ⟨j+1, by omega, by go_num, by rw [HS.out]; rfl⟩
          case measure => simp [intOf]; omega
        · obtain rfl : j = l.length := by omega
          rw [List.take_length]
          go_wp2
          go_round
          case rel => exact ⟨k + 1, by omega, by go_num, by rw [HN.out]⟩
          case measure => simp [intOf]; omega
    · obtain rfl : k = ll.length := by omega
      rw [List.take_length]
      generalize hx : Crc.crc c0 ll.flatten = x
      have HX : Hid (Crc.sumOf ll.flatten = ~~~x) := by rw [← hx]; rfl
      clear hx
      go_wp2
      go_ret
      exact ⟨by rw [HX.out]; exact congrArg (fun n => Ending.returned (.int .u32 n)) (by rw [show (4294967295 : Int) = ((Crc.ones).toNat : Int) from by decide, xor32, show Crc.ones = BitVec.allOnes 32 from by decide, BitVec.xor_allOnes]), rfl⟩

set_option maxHeartbeats 1000000 in
theorem refTurn_any (v : Value) (l : List UInt8) (n : Nat) (p : BitVec 32) (hn : n ≤ 9223372036854775807) (w : World) (h : SlB w v l) (hl : l.length ≤ 140737488355328) :
    Calls Tryd.prog 22 #[v, .int .i64 n, W32 p] w fun e w' => ∃ u, e = .returned (.tuple #[u, .int .i64 0]) ∧ OwnB w' w.heap.size u (Crc.turn n p l) ∧ Below w.heap.size w w' := by
  have H := hid h
  obtain ⟨A, c, rfl⟩ := h.form
  clear h
  go_enter Tryd.func22, Tryd.ntmps22
  go_wp2
  go_loopw [8, 9] (fun u i wr => ∃ k : Nat, k ≤ l.length ∧ i = .int .i64 k ∧ OwnB wr w.heap.size u (l.take k) ∧ Below w.heap.size w wr) (fun _ i _ => l.length - (intOf i).toNat)
  case atStart => exact ⟨0, Nat.zero_le _, rfl, OwnB.nil _ _, Below.refl _ _⟩
  case round =>
    obtain ⟨k, hk, rfl, ho, hb⟩ := hrel
    have HO := hid ho
    have HB := hid hb
    clear ho hb
    by_cases hlt : k < l.length
    · obtain ⟨b, off, rfl, hc⟩ := (H.out.below HB.out).cells (by omega)
      replace hc := hc k hlt
      have HS : Hid (l.take (k + 1) = l.take k ++ [l.getD k 0]) := by
        show _ = _; rw [List.take_succ_eq_append_getElem hlt]; simp [hlt]
      generalize l.getD k 0 = b0 at *
      have hlk : (l.take k).length ≤ 140737488355327 := by rw [List.length_take]; omega
      generalize l.take k = lk at *
      obtain ⟨A1, c1, rfl⟩ := HO.out.form
      go_wp2_with (at_builtin; refine wpList_appB rfl (.tmp 20) (.tmp 25) rfl w.heap.size _ _ lk [b0] rfl rfl (HO.out.alloc _) (by exact lit_sl wr [b0] (by simp)) (by simp only [List.length_cons, List.length_nil]; omega) (by exact Nat.le_trans HB.out.size (by simp)) ?_; intro v2 w2 ho2 hg2; have hb2 := hid (OwnB.grown (HB.out.alloc HB.out.size _) (HO.out.alloc _) (Nat.le_refl _) (Nat.le_trans HB.out.size (by simp)) hg2))
      go_roundw
      case rel => exact ⟨k + 1, by omega, by go_num, by rw [HS.out]; exact ho2, hb2.out⟩
      case measure => simp [intOf]; omega
    · obtain rfl : k = l.length := by omega
      rw [List.take_length] at HO
      obtain ⟨A1, c1, rfl⟩ := HO.out.form
      clear hlt hk
      go_wp2
      go_loopw [10] (fun i wr => ∃ k : Nat, k ≤ 32 ∧ i = .int .i64 k ∧ OwnB wr w.heap.size (.slice A1 l.length c1) (Crc.turn n (low p k) l) ∧ Below w.heap.size w wr) (fun i _ => 32 - (intOf i).toNat)
      case atStart => exact ⟨0, Nat.zero_le _, rfl, by rw [turn_low_zero]; exact HO.out, HB.out⟩
      case round =>
        clear HO HB
        obtain ⟨k, hk, rfl, ho, hb⟩ := hrel
        have HO := hid ho
        have HB := hid hb
        clear ho hb
        by_cases hlt : k < 32
        · have ht := bit_test p k
          cases hp : p.getLsbD k
          · rw [hp] at ht
            have HS := hid (turn_low_skip n k p l (.inr hp))
            clear hp
            go_wp2
            go_roundw
            case rel => exact ⟨k + 1, by omega, by go_num, by rw [HS.out]; exact HO.out, HB.out⟩
            case measure => simp [intOf]; omega
          · rw [hp] at ht
            by_cases hin : n + k < 8 * l.length
            · have HS := hid (turn_low_step n k p l hin hp)
              obtain ⟨m, hm⟩ : ∃ m, m = n + k := ⟨_, rfl⟩
              rw [← hm] at HS
              obtain ⟨q, hq⟩ : ∃ q, q = m / 8 := ⟨_, rfl⟩
              obtain ⟨s, hs⟩ : ∃ s, s = m % 8 := ⟨_, rfl⟩
              rw [← hq, ← hs] at HS
              have HM := hid hm
              have e1 : (n : Int) + (k : Int) = (m : Int) := by omega
              have e2 : (m : Int) / 8 = (q : Int) := by omega
              have e3 : (m : Int) % 8 = (s : Int) := by omega
              have e4 : (n : Int) ≤ 8 * (l.length : Int) - 1 - (k : Int) := by omega
              have s8 : s < 8 := by omega
              have ql : q < l.length := by omega
              have e5 := one8_nat s
              have HN : Hid (k ≤ 31) := hid (by omega)
              have ml : m < 8 * l.length := by omega
              clear hp hin hm hq hs
              obtain ⟨g, c2, eA, hg, _, _⟩ := HO.out.some_ (by rw [Crc.turn_length]; omega)
              rw [Crc.turn_length] at eA
              injection eA with eA e6 e7
              subst eA; subst e7
              clear e6
              obtain ⟨hc, hfr⟩ := HO.out.at_ q (by rw [Crc.turn_length]; omega)
              generalize (Crc.turn n (low p k) l).getD q 0 = b0 at *
              have ex := xor8 b0 (one8 s)
              generalize one8 s = t1 at *
              go_wp2
              go_roundw
              case rel => exact ⟨k + 1, by omega, by go_num, by rw [← HS.out]; exact HO.out.set_ q (b0 ^^^ t1), below_set HB.out hg _ _⟩
              case measure => simp [intOf]; omega
            · have HS := hid (turn_low_skip n k p l (.inl (by omega)))
              have e4 : ¬ (n : Int) ≤ 8 * (l.length : Int) - 1 - (k : Int) := by omega
              clear hp
              go_wp2
              go_roundw
              case rel => exact ⟨k + 1, by omega, by go_num, by rw [HS.out]; exact HO.out, HB.out⟩
              case measure => simp [intOf]; omega
        · obtain rfl : k = 32 := by omega
          rw [low_all] at HO
          go_wp2
          go_ret2
          exact ⟨_, rfl, HO.out, HB.out⟩
end Go.Proofs.YthadfebboagabaaDoor
