/- The helpers of the law TopSum. -/
import Derived.Test.YthadfebboagabaaDoorSumGrowsC
import Derived.Laws.IdiomStrings
import Derived.StillTactics
namespace Go.Proofs.YthadfebboagabaaDoor
open Go.RowKit
set_option maxHeartbeats 1000000 in
theorem own_any (v : Value) (l : List UInt8) (w : World) (h : SlB w v l) (hl : l.length ≤ 140737488355328) :
    Calls Tryd.prog 23 #[v] w fun e w' => ∃ A c, e = .returned (.slice A l.length c) ∧ OwnB w' w.heap.size (.slice A l.length c) l ∧ Below w.heap.size w w' := by
  have H := hid h
  obtain ⟨A, c, rfl⟩ := h.form
  clear h
  go_enter Tryd.func23, Tryd.ntmps23
  go_wp2_with (at_builtin; refine wpList_appB rfl (.const (.slice none 0 0)) (.tmp 3) rfl w.heap.size _ _ [] l rfl rfl (OwnB.nil _ _) H.out (by simp only [List.length_nil]; omega) (Nat.le_refl _) ?_; intro v1 w1 ho1 hg1; rw [List.nil_append] at ho1; have HB := hid (OwnB.grown (Below.refl w.heap.size w) (OwnB.nil w w.heap.size) (Nat.le_refl _) (Nat.le_refl _) hg1); obtain ⟨A1, c1, rfl⟩ := ho1.form; have HO := hid ho1; clear ho1 hg1)
  go_ret
  exact ⟨_, _, rfl, HO.out, HB.out⟩
set_option maxHeartbeats 1000000 in
theorem sumBytes_any (x : BitVec 32) (w : World) :
    Calls Tryd.prog 25 #[W32 x] w fun e w' => e = .returned (.slice (some ⟨w.heap.size, 0, none⟩) 4 4) ∧ w' = w.alloc (.cells ((Crc.four x).map B).toArray 5) := by
  have k0 := byte_of0 x
  have k1 := byte_of x 8 (q := 256) (by decide)
  have k2 := byte_of x 16 (q := 65536) (by decide)
  have k3 : (x.toNat : Int) / (16777216 : Int) = (((⟨(x >>> 24).setWidth 8⟩ : UInt8).toNat : Nat) : Int) := by have h := byte_of x 24 (q := 16777216) (by decide); have := x.isLt; rw [← h]; omega
  unfold Crc.four
  generalize (⟨x.setWidth 8⟩ : UInt8) = b0 at *
  generalize (⟨(x >>> 8).setWidth 8⟩ : UInt8) = b1 at *
  generalize (⟨(x >>> 16).setWidth 8⟩ : UInt8) = b2 at *
  generalize (⟨(x >>> 24).setWidth 8⟩ : UInt8) = b3 at *
  go_enter Tryd.func25, Tryd.ntmps25
  go_wp2
  go_ret
  exact ⟨rfl, rfl⟩
set_option maxHeartbeats 1000000 in
theorem pick_any (n k : Int) (hn : 0 < n) (hn1 : n ≤ 9223372036854775807) (k0 : -9223372036854775808 ≤ k) (k1 : k ≤ 9223372036854775807) (w : World) :
    Calls Tryd.prog 26 #[.int .i64 n, .int .i64 k] w fun e w' => ∃ a : Nat, e = .returned (.int .i64 a) ∧ (a : Int) < n ∧ w' = w := by
  have t1 := Int.tmod_lt_of_pos k hn
  have t2 : -n < k.tmod n := by have := Int.lt_tmod_of_pos k hn; omega
  have hz : (n == 0) = false := by rw [beq_eq_false_iff_ne]; omega
  rcases Int.lt_or_le (k.tmod n) 0 with hneg | hneg
  · obtain ⟨a, ha⟩ := Int.eq_ofNat_of_zero_le (show 0 ≤ k.tmod n + n by omega)
    have hal : (a : Int) < n := by omega
    go_enter Tryd.func26, Tryd.ntmps26
    go_wp2
    go_ret
    exact ⟨a, rfl, hal, rfl⟩
  · obtain ⟨a, ha⟩ := Int.eq_ofNat_of_zero_le hneg
    have hal : (a : Int) < n := by omega
    go_enter Tryd.func26, Tryd.ntmps26
    go_wp2
    go_ret
    exact ⟨a, rfl, hal, rfl⟩
set_option maxHeartbeats 1000000 in
theorem check32_any (v : Value) (l : List UInt8) (w : World) (h : SlB w v l) (hl : l.length ≤ 140737488355328) :
    Calls Tryd.prog 24 #[v] w fun e w' => e = .returned (W32 (Crc.sumOf l)) ∧ w' = w := by
  have H := hid h
  obtain ⟨A, c, rfl⟩ := h.form
  clear h
  go_enter Tryd.func24, Tryd.ntmps24
  go_wp2
  go_loop [3, 10] (fun z i => ∃ j : Nat, j ≤ l.length ∧ i = .int .i64 j ∧ z = W32 (Crc.crc c0 (l.take j))) (fun _ i => l.length - (intOf i).toNat)
  case atStart => exact ⟨0, Nat.zero_le _, rfl, rfl⟩
  case round =>
    obtain ⟨j, hj, rfl, rfl⟩ := hrel
    by_cases hlt : j < l.length
    · obtain ⟨b1, off1, rfl, hc2⟩ := H.out.cells (by omega)
      replace hc2 := hc2 j hlt
      have HS := hid (Crc.crc_snoc c0 l j hlt)
      generalize Crc.crc c0 (l.take j) = x1 at *
      generalize l.getD j 0 = b2 at *
      have hb2 := b2.toNat_lt
      have hx := xor_zx x1 b2
      obtain ⟨y0, hy0⟩ : ∃ y, y = x1 ^^^ Crc.zx b2 := ⟨_, rfl⟩
      have HY := hid hy0
      rw [← hy0] at hx
      clear hy0
      go_wp2
      go_loop [3, 6] (fun z i => ∃ q : Nat, q ≤ 8 ∧ i = .int .i64 q ∧ z = W32 (Crc.rounds Crc.stp q y0)) (fun _ i => 8 - (intOf i).toNat)
      case atStart => exact ⟨0, Nat.zero_le _, rfl, rfl⟩
      case round =>
        obtain ⟨q, hq, rfl, rfl⟩ := hrel
        clear hx
        by_cases hql : q < 8
        · have HN := hid (Crc.rounds_succ' Crc.stp q y0)
          generalize Crc.rounds Crc.stp q y0 = y at *
          have ht := bit_test y 0
          simp only [Int.pow_zero, Int.ediv_one] at ht
          cases hy : y.getLsbD 0
          · rw [hy] at ht
            have HE := hid (stp_even y hy)
            clear hy
            go_wp2
            go_round
            case rel => exact ⟨q + 1, by omega, by go_num, by rw [HN.out, HE.out]⟩
            case measure => simp [intOf]; omega
          · rw [hy] at ht
            have HE := hid (stp_odd y hy)
            clear hy
            go_wp2
            go_round
            case rel => exact ⟨q + 1, by omega, by go_num, by rw [HN.out, HE.out]⟩
            case measure => simp [intOf]; omega
        · obtain rfl : q = 8 := by omega
          have HZ : Hid (Crc.rounds Crc.stp 8 y0 = Crc.stepB x1 b2) := hid (by rw [HY.out]; rfl)
          generalize Crc.rounds Crc.stp 8 y0 = y at *
          go_wp2
          go_round
          case rel => exact ⟨j + 1, by omega, by go_num, by rw [HS.out, HZ.out]⟩
          case measure => simp [intOf]; omega
    · obtain rfl : j = l.length := by omega
      rw [List.take_length]
      obtain ⟨z, hz⟩ : ∃ z, z = Crc.crc c0 l := ⟨_, rfl⟩
      rw [← hz]
      obtain ⟨r, hr⟩ : ∃ r, r = ~~~z := ⟨_, rfl⟩
      have hn : bits .xor .u32 IntKind.u32.max (z.toNat : Int) = (r.toNat : Int) := by rw [not32 z, hr]
      have HR : Hid (r = Crc.sumOf l) := hid (by rw [hr, hz]; rfl)
      clear hz hr hlt
      go_wp2
      go_ret
      exact ⟨by rw [← HR.out]; rfl, rfl⟩
set_option maxHeartbeats 1000000 in
theorem turned_any (v : Value) (l : List UInt8) (n : Nat) (p : BitVec 32) (hn : n ≤ 4611686018427387904) (w : World) (h : SlB w v l) (hl : l.length ≤ 140737488355328) :
    Calls Tryd.prog 28 #[v, .int .i64 n, W32 p] w fun e w' => ∃ A c, e = .returned (.slice A l.length c) ∧ OwnB w' w.heap.size (.slice A l.length c) (Crc.turn n p l) ∧ Below w.heap.size w w' := by
  have H := hid h
  clear h
  go_enter Tryd.func28, Tryd.ntmps28
  go_wp2_with fail
  refine (own_any v l w H.out hl).mono ?_
  rintro e w1 ⟨A1, c1, rfl, ho, hb⟩
  have HO := hid ho
  have HB := hid hb
  clear ho hb
  go_wp2
  go_loopw [8] (fun i wr => ∃ k : Nat, k ≤ 32 ∧ i = .int .i64 k ∧ OwnB wr w.heap.size (.slice A1 l.length c1) (Crc.turn n (low p k) l) ∧ Below w.heap.size w wr) (fun i _ => 32 - (intOf i).toNat)
  case atStart => exact ⟨0, Nat.zero_le _, rfl, by rw [turn_low_zero]; exact HO.out, HB.out⟩
  case round =>
    clear HO HB
    obtain ⟨k, hk, rfl, ho, hb⟩ := hrel
    have HO := hid ho
    have HB := hid hb
    clear ho hb
    by_cases hlt : k < 32
    · have ht := bit_test p k
      cases hp : p.getLsbD k
      · rw [hp] at ht
        have HS := hid (turn_low_skip n k p l (.inr hp))
        clear hp
        go_wp2
        go_roundw
        case rel => exact ⟨k + 1, by omega, by go_num, by rw [HS.out]; exact HO.out, HB.out⟩
        case measure => simp [intOf]; omega
      · rw [hp] at ht
        obtain ⟨m, hm⟩ : ∃ m, m = n + k := ⟨_, rfl⟩
        have e1 : (n : Int) + (k : Int) = (m : Int) := by omega
        have e0 : (0 : Int) ≤ (m : Int) := by omega
        by_cases hin : n + k < 8 * l.length
        · have HS := hid (turn_low_step n k p l hin hp)
          rw [← hm] at HS
          obtain ⟨q, hq⟩ : ∃ q, q = m / 8 := ⟨_, rfl⟩
          obtain ⟨s, hs⟩ : ∃ s, s = m % 8 := ⟨_, rfl⟩
          rw [← hq, ← hs] at HS
          have e2 : (m : Int) / 8 = (q : Int) := by omega
          have e3 : (m : Int) % 8 = (s : Int) := by omega
          have e4 : (m : Int) < 8 * (l.length : Int) := by omega
          have s8 : s < 8 := by omega
          have ql : q < l.length := by omega
          have e5 := one8_nat s
          clear hp hin hm hq hs
          obtain ⟨g, c2, eA, hg, _, _⟩ := HO.out.some_ (by rw [Crc.turn_length]; omega)
          rw [Crc.turn_length] at eA
          injection eA with eA e6 e7
          subst eA; subst e7
          clear e6
          obtain ⟨hc, hfr⟩ := HO.out.at_ q (by rw [Crc.turn_length]; omega)
          generalize (Crc.turn n (low p k) l).getD q 0 = b0 at *
          have ex := xor8 b0 (one8 s)
          generalize one8 s = t1 at *
          go_wp2
          go_roundw
          case rel => exact ⟨k + 1, by omega, by go_num, by rw [← HS.out]; exact HO.out.set_ q (b0 ^^^ t1), below_set HB.out hg _ _⟩
          case measure => simp [intOf]; omega
        · have HS := hid (turn_low_skip n k p l (.inl (by omega)))
          have e4 : ¬ (m : Int) < 8 * (l.length : Int) := by omega
          clear hp hm hin
          go_wp2
          go_roundw
          case rel => exact ⟨k + 1, by omega, by go_num, by rw [HS.out]; exact HO.out, HB.out⟩
          case measure => simp [intOf]; omega
    · obtain rfl : k = 32 := by omega
      rw [low_all] at HO
      go_wp2
      go_ret
      exact ⟨_, _, rfl, HO.out, HB.out⟩
theorem take_next {k l : List UInt8} {j : Nat} (h : k.take j = l.take j) (hk : j < k.length) (hl : j < l.length) (hb : k.getD j 0 = l.getD j 0) : k.take (j + 1) = l.take (j + 1) := by
  rw [List.take_succ_eq_append_getElem hk, List.take_succ_eq_append_getElem hl, h]
  simp [hk, hl] at hb
  rw [hb]
theorem u8_beq (a b : UInt8) : ((a.toNat : Int) != (b.toNat : Int)) = decide (a ≠ b) := by
  rw [Bool.eq_iff_iff, bne_iff_ne, decide_eq_true_iff]
  exact ⟨fun h e => h (by rw [e]), fun h e => h (UInt8.toNat_inj.1 (by omega))⟩
set_option maxHeartbeats 1000000 in
theorem sameBytes_any (u v : Value) (k l : List UInt8) (w : World) (hu : SlB w u k) (hv : SlB w v l) (hl : k.length ≤ 140737488355328) :
    Calls Tryd.prog 27 #[u, v] w fun e w' => e = .returned (.bool (decide (k = l))) ∧ ∃ m, w' = w.drewN m := by
  have HU := hid hu
  have HV := hid hv
  obtain ⟨A, c, rfl⟩ := hu.form
  obtain ⟨A2, c2, rfl⟩ := hv.form
  clear hu hv
  by_cases hlen : k.length = l.length
  · have HLEN := hid hlen
    rw [← hlen]
    clear hlen
    go_enter Tryd.func27, Tryd.ntmps27
    go_wp2
    go_loopw [13] (fun i wr => ∃ (j n : Nat), j ≤ k.length ∧ i = .int .i64 j ∧ k.take j = l.take j ∧ w.drewN n = wr) (fun i _ => k.length - (intOf i).toNat)
    case atStart => exact ⟨0, 0, Nat.zero_le _, rfl, by simp, rfl⟩
    case round =>
      obtain ⟨j, n, hj, rfl, ht, rfl⟩ := hrel
      have HT := hid ht
      clear ht
      by_cases hlt : j < k.length
      · have hll : j < l.length := by rw [← HLEN.out]; exact hlt
        obtain ⟨b1, o1, rfl, hc1⟩ := HU.out.cells (by omega)
        obtain ⟨b2, o2, e2, hc2⟩ := HV.out.cells (by omega)
        subst e2
        have d1 : ∀ n, (w.drewN n).cell? ⟨b1, o1 + j, none⟩ = some (B (k.getD j 0)) := fun n => by
          obtain ⟨b, o, e, h⟩ := (HU.out.drewN n).cells (by omega)
          injection e with e; injection e with ea eb; subst ea eb
          exact h j hlt
        have d2 : ∀ n, (w.drewN n).cell? ⟨b2, o2 + j, none⟩ = some (B (l.getD j 0)) := fun n => by
          obtain ⟨b, o, e, h⟩ := (HV.out.drewN n).cells (by omega)
          injection e with e; injection e with ea eb; subst ea eb
          exact h j hll
        have HNX := hid (fun h => take_next HT.out hlt hll h)
        have HNE : Hid (k.getD j 0 ≠ l.getD j 0 → k ≠ l) := hid fun h e => h (by rw [e])
        generalize k.getD j 0 = x at *
        generalize l.getD j 0 = y at *
        have hxy := u8_beq x y
        clear hc1 hc2
        by_cases he : x = y
        · have hb : ((x.toNat : Int) != (y.toNat : Int)) = false := by rw [hxy]; simp [he]
          have HE := hid he
          clear hxy he
          go_wp2
          go_quiet (fail)
          go_wp2
          go_roundw
          case rel => exact ⟨j + 1, _, by omega, by go_num, HNX.out HE.out, rfl⟩
          case measure => simp [intOf]; omega
        · have hb : ((x.toNat : Int) != (y.toNat : Int)) = true := by rw [hxy]; simp [he]
          have HE := hid (HNE.out he)
          clear hxy he
          go_wp2
          go_quiet (fail)
          go_wp2
          go_ret
          exact ⟨by simp [HE.out], _, World.drewN_drewN _ _ _⟩
      · obtain rfl : j = k.length := by omega
        have he : k = l := by have := HT.out; rw [List.take_length, HLEN.out, List.take_length] at this; exact this
        have HE := hid he
        clear he
        go_wp2
        go_ret
        exact ⟨by simp [HE.out], _, rfl⟩
  · have hne : k ≠ l := fun e => hlen (by rw [e])
    have hl2 : ((k.length : Int) != (l.length : Int)) = true := by rw [bne_iff_ne]; omega
    have HE := hid hne
    clear hne hlen
    go_enter Tryd.func27, Tryd.ntmps27
    go_wp2
    go_ret
    exact ⟨by simp [HE.out], 0, rfl⟩
end Go.Proofs.YthadfebboagabaaDoor
