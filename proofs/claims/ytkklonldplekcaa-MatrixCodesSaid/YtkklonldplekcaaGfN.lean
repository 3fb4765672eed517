
/- New where the polynomial makes no field; Std. -/
import Derived.Test.YtkklonldplekcaaGfL
namespace Go.Proofs.Ytkklonldplekcaa
open Go.RowKit
theorem New_out (n : Int) (h : n < 256 ∨ 511 < n) (w : World) :
    Calls Try.prog 68 #[.int .i64 n] w fun e w' => e = .returned (.tuple #[.pointer none, .int .i64 11]) ∧ w' = w := by
  rcases Int.lt_or_le n 256 with h1 | h1
  · go_enter Try.func68, Try.ntmps68
    go_wp2
    go_ret2
    exact ⟨rfl, rfl⟩
  · have h2 : 511 < n := by omega
    clear h
    go_enter Try.func68, Try.ntmps68
    go_wp2
    go_ret2
    exact ⟨rfl, rfl⟩
set_option maxRecDepth 100000 in
set_option maxHeartbeats 1000000 in
theorem New_not (q : UInt8) (hq : ¬ Gf.Gen q) (w : World) :
    Calls Try.prog 68 #[.int .i64 (256 + (q.toNat : Int))] w fun e w' => e = .returned (.tuple #[.pointer none, .int .i64 11]) ∧ Below w.heap.size w w' := by
  have hb := q.toNat_lt
  have HQ := hid hq
  clear hq
  go_enter Try.func68, Try.ntmps68
  go_wp2_with (refine wpList_field rfl (.tmp 13) rfl _ rfl ?_)
  obtain ⟨g, hgw⟩ : ∃ g, g = w.heap.size := ⟨_, rfl⟩
  simp only [← hgw]
  go_loopw [5, 16] (fun x i wr => ∃ k : Nat, k ≤ 255 ∧ i = .int .i64 k ∧ x = .int .i64 ((Gf.pw q k).toNat : Int) ∧ NewSt q g w k k k wr ∧ (∀ i, 0 < i → i < k → Gf.pw q i ≠ 0 ∧ Gf.pw q i ≠ 1)) (fun _ i _ => 255 - (intOf i).toNat)
  case atStart => exact ⟨0, Nat.zero_le _, rfl, rfl, ⟨_, _, by rw [hgw]; exact heap_alloc_new _ _, fun j h => absurd h (by omega), fun j h => absurd h (by omega), fun j h => absurd h (by omega), (Below.refl _ _).alloc (Nat.le_refl _) _, by omega⟩, fun i _ h => absurd h (by omega)⟩
  case round =>
    obtain ⟨k, hk, rfl, rfl, hst, hpass⟩ := hrel
    have HST := hid hst
    have HG := hid hgw
    have HPASS := hid hpass
    clear hst hgw hpass
    have HBW := hid (show Below w.heap.size w wr by obtain ⟨_, _, _, _, _, _, hb, _⟩ := HST.out; exact hb)
    by_cases hlt : k < 255
    · by_cases hx0 : Gf.pw q k = 0
      · have z0 : (((Gf.pw q k).toNat : Int) == 0) = true := by rw [hx0]; rfl
        generalize Gf.pw q k = x at *
        clear hx0 HST
        go_wp2
        go_ret2
        exact ⟨rfl, HBW.out⟩
      by_cases hx1 : 0 < k ∧ Gf.pw q k = 1
      · have z0 := u8_ne0 hx0
        have z1 : (((Gf.pw q k).toNat : Int) == 1) = true := by rw [hx1.2]; rfl
        have h0 := hx1.1
        generalize Gf.pw q k = x at *
        clear hx0 HST hx1
        go_wp2
        go_ret2
        exact ⟨rfl, HBW.out⟩
      have z0 := u8_ne0 hx0
      have z1 : 0 < k → (((Gf.pw q k).toNat : Int) == 1) = false := fun h0 => by
        rw [beq_eq_false_iff_ne]; intro h
        exact hx1 ⟨h0, UInt8.toNat_inj.1 (by simp at h ⊢; omega)⟩
      have S1 := hid (HST.out.exp hlt)
      have S0 := hid HST.out.cells
      have HP : Hid (Gf.pw q (k + 1) = Gf.xt q (Gf.pw q k)) := Gf.it_succ q k 1
      have S2 := hid (fun w1 => NewSt.exp2 (q := q) (g := g) (w0 := w) (wr := w1) (k := k))
      have S3 := hid (fun w1 => NewSt.log (q := q) (g := g) (w0 := w) (wr := w1) (k := k))
      have HPN : Hid (∀ i, 0 < i → i < k + 1 → Gf.pw q i ≠ 0 ∧ Gf.pw q i ≠ 1) := hid fun i h0 hi => by
        by_cases e : i = k
        · subst e; exact ⟨hx0, fun h => hx1 ⟨h0, h⟩⟩
        · exact HPASS.out i h0 (by omega)
      clear HPASS hx0 hx1 HBW
      generalize Gf.pw q k = x at *
      have xlt := x.toNat_lt
      clear HST
      rcases Nat.eq_zero_or_pos k with h0 | h0
      case' inl =>
        have hk0 : k < 1 := by omega
        clear h0
      case' inr => replace z1 := z1 h0
      all_goals
        obtain ⟨⟨v0, hc⟩, hf⟩ := S0.out (1 + k) (by omega)
        go_upto_region 11 with (fail)
        refine Code.seen (NewSt q g w (k + 1) k k) S1.out fun w1 T1 => ?_
        clear hc hf S1
        obtain ⟨⟨v1, hc⟩, hf⟩ := T1.out.cells (1 + (k + 255)) (by omega)
        go_upto_region 12 with (fail)
        refine Code.seen (NewSt q g w (k + 1) (k + 1) k) (S2.out _ T1.out hlt) fun w2 T2 => ?_
        clear hc hf S2 T1
        obtain ⟨⟨v2, hc⟩, hf⟩ := T2.out.cells (511 + x.toNat) (by omega)
        go_upto_region 13 with (fail)
        refine Code.seen (NewSt q g w (k + 1) (k + 1) (k + 1)) (S3.out _ T2.out) fun w3 T3 => ?_
        clear hc hf S3 T2 S0
        by_cases hs : 2 * x.toNat < 256
        · have hx := nx_small q x hs
          go_wp2
          go_roundw
          case rel => exact ⟨k + 1, by omega, by go_num, by rw [HP.out], T3.out, HPN.out⟩
          case measure => simp [intOf]; omega
        · have hx := nx_big q x hs
          go_wp2
          go_roundw
          case rel => exact ⟨k + 1, by omega, by go_num, by rw [HP.out], T3.out, HPN.out⟩
          case measure => simp [intOf]; omega
    · obtain rfl : k = 255 := by omega
      have hx : Gf.pw q 255 ≠ 1 := fun h => HQ.out ⟨fun i h0 hi => HPASS.out i h0 hi, h⟩
      have hz : (((Gf.pw q 255).toNat : Int) != 1) = true := by
        rw [bne_iff_ne]; intro h
        exact hx (UInt8.toNat_inj.1 (by simp at h ⊢; omega))
      clear hx HST hlt
      generalize Gf.pw q 255 = x at *
      go_wp2
      go_ret2
      exact ⟨rfl, HBW.out⟩
theorem Std_any (w : World) :
    Calls Try.prog 18 #[] w fun e w' => ∃ g, e = .returned (.pointer (some ⟨g, 0, none⟩)) ∧ g = w.heap.size ∧ FieldAt w' g 0x1d ∧ Below w.heap.size w w' := by
  go_enter Try.func18, Try.ntmps18
  go_wp2_with fail
  refine (New_at 0x1d (Gf.gen_sixteen _ (by decide)) rfl w).mono ?_
  rintro e w2 ⟨g, rfl, rfl, hf, hb⟩
  have H := hid hf
  have HB := hid hb
  clear hf hb
  go_wp2
  go_ret
  exact ⟨_, rfl, rfl, H.out, HB.out⟩
end Go.Proofs.Ytkklonldplekcaa
