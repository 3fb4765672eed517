/- The walk of the law SumBursts. -/
import Derived.Test.YthadfebboagabaaDoorSumB
import Derived.Deep.RegionHeld3
namespace Go.Proofs.YthadfebboagabaaDoor
open Go.RowKit

theorem burst_bool {sp wh : List UInt8} (h : Crc.sumOf sp = 558161692#32 ↔ sp = wh) : ((((Crc.sumOf sp).toNat : Int) == 558161692) == ((str sp).toList == (str wh).toList)) = true := by
  rw [str_toList, str_toList, beq_iff_eq, Bool.eq_iff_iff, beq_iff_eq, beq_iff_eq, ← h]
  constructor
  · intro h; exact BitVec.eq_of_toNat_eq (by simp; omega)
  · intro h; rw [h]; rfl

abbrev Two (w0 : World) (v u : Value) (wh sp : List UInt8) (W : World) : Prop :=
  ((convert 33 9 v).run Tryd.prog W = .ok (.string (str wh)) W) ∧ ((convert 33 9 u).run Tryd.prog W = .ok (.string (str sp)) W) ∧ En w0 W ∧ SlB W v wh ∧ SlB W u sp
theorem keep2 {w0 W : World} {v u : Value} {wh sp : List UInt8} (h : En w0 W ∧ SlB W v wh ∧ SlB W u sp) : Two w0 v u wh sp W := ⟨conv_str h.2.1, conv_str h.2.2, h⟩
theorem keep2_alloc {w0 W : World} {v u : Value} {wh sp : List UInt8} (h : Two w0 v u wh sp W) (o : Obj) : Two w0 v u wh sp (W.alloc o) := keep2 ⟨h.2.2.1.alloc o, h.2.2.2.1.alloc o, h.2.2.2.2.alloc o⟩
theorem keep2_allocD {w0 W : World} {v u : Value} {wh sp : List UInt8} (h : Two w0 v u wh sp W.drew) (o : Obj) : Two w0 v u wh sp (W.alloc o).drew := keep2_alloc (W := W.drew) h o
/-- the sum of one part, which lies in a list of its own -/
theorem Of_one {w0 W : World} {v u : Value} {wh sp : List UInt8} (h : Two w0 v u wh sp W) (hl : sp.length ≤ 281474976710656) :
    Calls Tryd.prog 19 #[.slice (some ⟨W.heap.size, 0, none⟩) 1 1] (W.alloc (.cells #[u] 33)) fun e w' => e = .returned (W32 (Crc.sumOf sp)) ∧ W.alloc (.cells #[u] 33) = w' := by
  have := Of_any _ [sp] _ (h.2.2.1.alloc _).t (lit_bb (w := W) [u] [sp] rfl (fun i hi => by obtain rfl : i = 0 := (by simpa using hi); exact h.2.2.2.2)) (by simp) (fun i => by cases i <;> simp; omega)
  simpa using this
theorem Of_oneD {w0 W : World} {v u : Value} {wh sp : List UInt8} (h : Two w0 v u wh sp W.drew) (hl : sp.length ≤ 281474976710656) :
    Calls Tryd.prog 19 #[.slice (some ⟨W.heap.size, 0, none⟩) 1 1] (W.alloc (.cells #[u] 33)).drew fun e w' => e = .returned (W32 (Crc.sumOf sp)) ∧ (W.alloc (.cells #[u] 33)).drew = w' := Of_one (W := W.drew) h hl

set_option maxHeartbeats 4000000 in
theorem SumBursts_walk (v : Value) (l : List UInt8) (bit : Int) (p : BitVec 32) (b0 : -9223372036854775808 ≤ bit) (b1 : bit ≤ 9223372036854775807) (hl : l.length ≤ 140737488351232) (w : World) (h : SlB w v l) (hT : TabAt w) :
    Calls Tryd.prog 5 #[v, .int .i64 bit, W32 p] w fun e w' => e = .returned (.bool true) ∧ Below w.heap.size w w' := by
  have H := hid h
  have E0 := hid (En.refl hT)
  clear h hT
  obtain ⟨A, c, hv⟩ : ∃ A c, v = .slice A l.length c := by obtain ⟨A, c, rfl, _⟩ := H.out; exact ⟨A, c, rfl⟩
  subst hv
  go_enter Tryd.func5, Tryd.ntmps5
  go_wp2_with (first | (at_builtin; refine wpList_appB rfl (.tmp 16) (.tmp 17) rfl w.heap.size _ _ [] l rfl rfl (OwnB.nil _ _) H.out (by simp; omega) (Nat.le_refl _) ?_; intro v1 w1 ho1 hg1; have E1 := hid (E0.out.grown (OwnB.nil w w.heap.size) (Nat.le_refl _) hg1)) | fail)
  refine Calls.seen (fun w2 => En w w2 ∧ OwnB w2 w.heap.size v1 l ∧ SlBB w2 (.slice (some ⟨w1.heap.size, 0, none⟩) 1 1) [l]) ⟨E1.out.alloc _, ho1.alloc _, lit_bb [_] [l] rfl (fun i hi => by obtain rfl : i = 0 := (by simpa using hi); exact H.out.below E1.out.b)⟩ fun w2 F2 => ?_
  refine (Of_any _ [l] w2 F2.out.1.t F2.out.2.2 (by simp) (fun i => by cases i <;> simp; omega)).mono ?_
  rintro e w' ⟨rfl, rfl⟩
  rw [show ([l] : List (List UInt8)).flatten = l by simp]
  generalize hx : Crc.sumOf l = x
  have HX := hid hx
  clear hx
  go_wp2_with fail
  refine (four_any x w2).mono ?_
  rintro e w3 ⟨rfl, hw3⟩
  have F3 : Hid (En w w3 ∧ OwnB w3 w.heap.size v1 l ∧ SlB w3 (.slice (some ⟨w2.heap.size, 0, none⟩) 4 4) (Crc.four x)) := by
    rw [hw3]; exact ⟨F2.out.1.alloc _, F2.out.2.1.alloc _, lit_sl w2 (Crc.four x) (by simp [Crc.four])⟩
  clear hw3 F2 ho1 hg1 E1
  go_wp2_with (first | (at_builtin; refine wpList_appB rfl (.tmp 19) (.tmp 23) rfl w.heap.size _ _ l (Crc.four x) rfl rfl F3.out.2.1 F3.out.2.2 (by simp [Crc.four]; omega) F3.out.1.b.size ?_; intro v2 w4 ho2 hg2; have E4 := hid (F3.out.1.grown F3.out.2.1 (Nat.le_refl _) hg2); obtain ⟨wh, hwh⟩ : ∃ wh, wh = l ++ Crc.four x := ⟨_, rfl⟩; rw [← hwh] at ho2; have HW := hid hwh; obtain ⟨g, cap, rfl, hgb, hcap, hmax⟩ := ho2.some_ (by rw [hwh]; simp [Crc.four]); clear F3 hwh) | fail)
  have hwh := HW.out
  have hlen : wh.length = l.length + 4 := by rw [hwh]; simp [Crc.four]
  have hres : Crc.sumOf wh = 0x2144DF1C#32 := by rw [hwh, ← HX.out]; exact Crc.residue l
  have HR := hid hres
  have HN := hid hlen
  have hwl : 4 ≤ wh.length := by omega
  have hwu : wh.length ≤ 140737488351236 := by omega
  clear hwh HW hres hlen hg2 HX
  refine Calls.seen (fun w5 => En w w5 ∧ OwnB w5 w.heap.size (.slice (some ⟨g, 0, none⟩) wh.length cap) wh ∧ SlBB w5 (.slice (some ⟨w4.heap.size, 0, none⟩) 1 1) [wh]) ⟨E4.out.alloc _, ho2.alloc _, lit_bb [_] [wh] rfl (fun i hi => by obtain rfl : i = 0 := (by simpa using hi); exact ho2.sl)⟩ fun w5 F5 => ?_
  refine (Of_any _ [wh] w5 F5.out.1.t F5.out.2.2 (by simp) (fun i => by cases i <;> simp; omega)).mono ?_
  rintro e w' ⟨rfl, rfl⟩
  rw [show ([wh] : List (List UInt8)).flatten = wh by simp, HR.out]
  clear ho2 E4
  have hpos : (0 : Int) < 8 * (wh.length : Int) := by omega
  have t1 := Int.tmod_lt_of_pos bit hpos
  have t2 : -(8 * (wh.length : Int)) < bit.tmod (8 * (wh.length : Int)) := by have := Int.lt_tmod_of_pos bit hpos; omega
  rcases Int.lt_or_le (bit.tmod (8 * (wh.length : Int))) 0 with hneg | hneg
  case' inl =>
    go_wp2_with fail
    obtain ⟨a, ha⟩ := Int.eq_ofNat_of_zero_le (show 0 ≤ bit.tmod (8 * (wh.length : Int)) + 8 * (wh.length : Int) by omega)
    have hal : a < 8 * wh.length := by omega
    rw [ha]
    clear t1 t2 hneg ha
  case' inr =>
    go_wp2_with fail
    obtain ⟨a, ha⟩ := Int.eq_ofNat_of_zero_le hneg
    have hal : a < 8 * wh.length := by omega
    rw [ha]
    clear t1 t2 hneg ha
  all_goals
    refine (Turn_any _ wh a p (by omega) w5 F5.out.2.1.sl (by omega)).mono ?_
    rintro e w6 ⟨u1, rfl, hu1, hb⟩
    have hlu1 : ∃ A c, u1 = .slice A wh.length c := by obtain ⟨A, c, rfl, _⟩ := hu1.sl; rw [Crc.turn_length]; exact ⟨A, c, rfl⟩
    obtain ⟨A1, c1, rfl⟩ := hlu1
    have F6 : Hid (En w w6 ∧ OwnB w6 w.heap.size (.slice (some ⟨g, 0, none⟩) wh.length cap) wh ∧ SlB w6 (.slice A1 wh.length c1) (Crc.turn a p wh)) := ⟨F5.out.1.next hb, F5.out.2.1.below hb, hu1.sl⟩
    clear hu1 hb F5
    go_wp2_with fail
    refine (Turn_any _ (Crc.turn a p wh) a p (by omega) w6 F6.out.2.2 (by rw [Crc.turn_length]; omega)).mono ?_
    rintro e w7 ⟨u2, rfl, hu2, hb⟩
    rw [turn_turn] at hu2
    have hlu2 : ∃ A c, u2 = .slice A wh.length c := by obtain ⟨A, c, rfl, _⟩ := hu2.sl; exact ⟨A, c, rfl⟩
    obtain ⟨A2, c2, rfl⟩ := hlu2
    have F7 : Hid (En w w7 ∧ SlB w7 (.slice (some ⟨g, 0, none⟩) wh.length cap) wh ∧ SlB w7 (.slice A1 wh.length c1) (Crc.turn a p wh)) := ⟨F6.out.1.next hb, (F6.out.2.1.below hb).sl, F6.out.2.2.below hb⟩
    have k1 := conv_str hu2.sl
    have k2 := conv_str F7.out.2.1
    clear hu2 hb F6
    go_wp2
    clear k1 k2
    have hN : wh.length ≤ 140737488355328 := by omega
    go_loopw [14] (fun i wr => ∃ k : Nat, k ≤ 8 * wh.length ∧ i = .int .i64 k ∧ En w wr ∧ SlB wr (.slice (some ⟨g, 0, none⟩) wh.length cap) wh ∧ SlB wr (.slice A1 wh.length c1) (Crc.turn a p wh)) (fun i _ => 8 * wh.length - (intOf i).toNat)
    case atStart => exact ⟨0, Nat.zero_le _, rfl, F7.out⟩
    case round =>
      obtain ⟨k, hk, rfl, e0, s1, s2⟩ := hrel
      have F := hid (And.intro e0 (And.intro s1 s2))
      clear e0 s1 s2
      by_cases hlt : k < 8 * wh.length
      · obtain ⟨b1, o1, e1, h1⟩ := F.out.2.1.cells (by omega)
        injection e1 with e1; injection e1 with e1 e2; subst e1; subst e2
        have q1 := h1 (k / 8) (by omega)
        obtain ⟨b2, o2, e2, h2⟩ := F.out.2.2.cells (by rw [Crc.turn_length]; omega)
        subst e2
        have q2 := h2 (k / 8) (by rw [Crc.turn_length]; omega)
        rw [Nat.zero_add] at q1
        rw [Crc.turn_get _ _ _ _ (by omega)] at q2
        have ht := bit_test8 (Crc.ebyte a p (k / 8)) (k % 8) (by omega)
        rw [Crc.ebyte_bit _ _ _ _ (by omega), show 8 * (k / 8) + k % 8 = k by omega] at ht
        have hx : bits .xor .u8 ((wh.getD (k / 8) 0 ^^^ Crc.ebyte a p (k / 8)).toNat : Int) ((wh.getD (k / 8) 0).toNat : Int) = ((Crc.ebyte a p (k / 8)).toNat : Int) := by
          rw [xor8, UInt8.xor_comm, ← UInt8.xor_assoc, UInt8.xor_self, UInt8.zero_xor]
        generalize wh.getD (k / 8) 0 ^^^ Crc.ebyte a p (k / 8) = sb at *
        generalize wh.getD (k / 8) 0 = wb at *
        generalize Crc.ebyte a p (k / 8) = eb at *
        clear h1 h2
        have i0 : (0 : Int) ≤ (k : Int) / 8 := by omega
        have i1 : (k : Int) / 8 < (wh.length : Int) := by omega
        by_cases hka : k < a
        · have hb : Crc.ebit a p k = false := by unfold Crc.ebit; simp; omega
          rw [hb] at ht
          clear hb
          go_wp2
          go_quiet (fail)
          go_wp2
          go_roundw
          case rel => exact ⟨k + 1, by omega, by go_num, F.out.1.drewN _, F.out.2.1.drewN _, F.out.2.2.drewN _⟩
          case measure => simp [intOf]; omega
        · by_cases hka2 : k < a + 32
          · have hb : (bits .and .u32 ((p.toNat : Int) / 2 ^ (k - a)) 1 == 1) = Crc.ebit a p k := by rw [bit_test]; unfold Crc.ebit; simp; omega
            generalize Crc.ebit a p k = tb at *
            go_wp2
            go_quiet (fail)
            go_wp2
            go_roundw
            case rel => exact ⟨k + 1, by omega, by go_num, F.out.1.drewN _, F.out.2.1.drewN _, F.out.2.2.drewN _⟩
            case measure => simp [intOf]; omega
          · have hb : Crc.ebit a p k = false := by unfold Crc.ebit; rw [BitVec.getLsbD_of_ge _ _ (by omega)]; simp
            rw [hb] at ht
            clear hb
            go_wp2
            go_quiet (fail)
            go_wp2
            go_roundw
            case rel => exact ⟨k + 1, by omega, by go_num, F.out.1.drewN _, F.out.2.1.drewN _, F.out.2.2.drewN _⟩
            case measure => simp [intOf]; omega
      · have hbur := hid (Crc.residue_burst a p wh HR.out)
        have hls := Crc.turn_length a p wh
        generalize Crc.turn a p wh = sp at *

        go_wp2
        go_region_held3 (fun W => ((convert 33 9 (.slice (some ⟨g, 0, none⟩) wh.length cap)).run Tryd.prog W = .ok (.string (str wh)) W) ∧ ((convert 33 9 (.slice A1 wh.length c1)).run Tryd.prog W = .ok (.string (str sp)) W) ∧ En w W ∧ SlB W (.slice (some ⟨g, 0, none⟩) wh.length cap) wh ∧ SlB W (.slice A1 wh.length c1) sp)
          (first | assumption | exact keep2 ⟨F.out.1.drew, F.out.2.1.drew, F.out.2.2.drew⟩ | (refine keep2_allocD ?_ _; assumption))
          (first | (go_at_call 19; refine (Of_oneD (w0 := w) (v := .slice (some ⟨g, 0, none⟩) wh.length cap) (wh := wh) (sp := sp) (keep2 ⟨F.out.1.drew, F.out.2.1.drew, F.out.2.2.drew⟩) (by omega)).mono ?_; rintro e w' ⟨rfl, rfl⟩))
        go_wp2
        go_ret
        exact ⟨congrArg (fun b => Ending.returned (.bool b)) (burst_bool hbur.out), (F.out.1.alloc _).drew.b⟩
end Go.Proofs.YthadfebboagabaaDoor
