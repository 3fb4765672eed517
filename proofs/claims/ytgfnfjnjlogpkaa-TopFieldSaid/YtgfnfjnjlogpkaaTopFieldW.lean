/- The walk of the law TopField. -/
import Derived.Test.YtgfnfjnjlogpkaaTopFieldC
import Derived.Test.YtgfnfjnjlogpkaaGfPowersW
import Derived.Test.YtgfnfjnjlogpkaaGfA
namespace Go.Proofs.Ytgfnfjnjlogpkaa
open Go.RowKit
theorem u8_of (n : Int) : ∃ a : UInt8, n % 256 = (a.toNat : Int) := ⟨UInt8.ofNat (n % 256).toNat, by simp; omega⟩
theorem Std_mul (g : Nat) (w : World) (h : FieldAt w g 0x1d) :
    Calls Try.prog 13 #[.pointer (some ⟨g, 0, none⟩), .int .u8 7, .int .u8 9] w fun e w' => e = .returned (.int .u8 63) ∧ ∃ n, w' = w.drewN n := Mul_at g 0x1d 7 9 rfl rfl w h
def pwr (q a : UInt8) : Nat → UInt8
  | 0 => 1
  | k + 1 => Gf.mul q (pwr q a k) a
def psum (q a : UInt8) (l : List UInt8) : Nat → UInt8
  | 0 => 0
  | k + 1 => psum q a l k ^^^ Gf.mul q (l.getD k 0) (pwr q a k)
theorem psum_drop (q a : UInt8) (l : List UInt8) : ∀ k, k ≤ l.length → psum q a l k ^^^ Gf.mul q (evalFrom q a (l.drop k)) (pwr q a k) = evalFrom q a l
  | 0, _ => by simp [psum, pwr, Gf.mul_one]
  | k + 1, hk => by
    rw [← psum_drop q a l k (by omega)]
    have e : l.drop k = l.getD k 0 :: l.drop (k + 1) := by rw [List.drop_eq_getElem_cons (by omega)]; simp [show k < l.length by omega]
    rw [e]
    simp only [psum, pwr, evalFrom]
    rw [Gf.xor_mul, UInt8.xor_assoc, UInt8.xor_comm (Gf.mul q (l.getD k 0) _), Gf.mul_assoc, Gf.mul_comm q a]
theorem psum_all (q a : UInt8) (l : List UInt8) : psum q a l l.length = evalFrom q a l := by
  rw [← psum_drop q a l l.length (Nat.le_refl _)]
  simp [evalFrom, Gf.zero_mul]
set_option maxRecDepth 100000 in
set_option maxHeartbeats 4000000 in
theorem TopField_walk (n kk a0 b0 : Int) (vd vo vr : Value) (l : List UInt8) (hn0 : -9223372036854775808 ≤ n) (hn1 : n ≤ 9223372036854775807) (hk0 : -9223372036854775808 ≤ kk) (hk1 : kk ≤ 9223372036854775807) (w : World) (hl : SlB w vd l) (hlen : l.length ≤ 140737488355328) :
    Calls Try.prog 9 #[.agg #[.int .i64 n, .int .i64 kk, .int .i64 a0, .int .i64 b0, vd, vo, vr]] w fun e w' => e = .returned (.bool true) ∧ Below w.heap.size w w' := by
  obtain ⟨a, ha⟩ := u8_of a0
  obtain ⟨b, hb⟩ := u8_of b0
  obtain ⟨A, cl, rfl⟩ := hl.form
  have HL := hid hl
  clear hl
  go_enter Try.func9, Try.ntmps9
  go_wp2
  go_quiet (fail)
  go_wp2_with fail
  rw [ha, hb]
  clear ha hb
  refine Calls.seen (Below w.heap.size w) (below_drewN ((Below.refl w.heap.size w).alloc (Nat.le_refl _) _) nq) fun w1 HB1 => ?_
  by_cases hr : n < 256 ∨ 511 < n
  · refine (New_out n hr _).mono ?_
    rintro e w2 ⟨rfl, rfl⟩
    go_wp2_with fail
    refine (makes_out n hr _).mono ?_
    rintro e w2 ⟨rfl, rfl⟩
    clear hr
    (go_wp2_with fail; refine Calls.mono (Std_any _) ?_; rintro e w3 ⟨g, rfl, hg, hf, hb⟩; have HF := hid hf; have HB := hid (below_then HB1.out hb); clear hf hb hg; go_wp2_with (go_at_call 13; refine Calls.mono (Std_mul g _ HF.out) ?_; rintro e w' ⟨rfl, nn, rfl⟩); go_ret; exact ⟨rfl, below_drewN HB.out _⟩)
  obtain ⟨q, hq⟩ : ∃ q : UInt8, n = 256 + (q.toNat : Int) := ⟨UInt8.ofNat (n - 256).toNat, by simp; omega⟩
  subst hq
  clear hr hn0 hn1
  by_cases hg : Gf.Gen q
  case neg =>
    refine (New_not q hg _).mono ?_
    rintro e w2 ⟨rfl, hb2⟩
    have HB2 := hid (below_then HB1.out hb2)
    have HG := hid hg
    clear hg hb2
    go_wp2_with fail
    refine (makes_any q _).mono ?_
    rintro e w3 ⟨⟨b, rfl, hb⟩, rfl⟩
    obtain rfl : b = false := by
      cases b
      · rfl
      · exact absurd (hb.1 rfl) HG.out
    clear hb
    (go_wp2_with fail; refine Calls.mono (Std_any _) ?_; rintro e w3 ⟨g, rfl, hg, hf, hb⟩; have HF := hid hf; have HB := hid (below_then HB2.out hb); clear hf hb hg; go_wp2_with (go_at_call 13; refine Calls.mono (Std_mul g _ HF.out) ?_; rintro e w' ⟨rfl, nn, rfl⟩); go_ret; exact ⟨rfl, below_drewN HB.out _⟩)
  case pos =>
    refine (New_gen q hg _).mono ?_
    rintro e w2 ⟨g, rfl, hgs, hf, hb2⟩
    have HB2 := hid (below_then HB1.out hb2)
    have HG := hid hg
    have HF := hid hf
    clear hg hb2 hf hgs
    go_wp2_with fail
    refine (makes_any q _).mono ?_
    rintro e w3 ⟨⟨b', rfl, hb⟩, rfl⟩
    obtain rfl : b' = true := hb.2 HG.out
    clear hb
    have HF3 : Hid (FieldAt w3 g q) := HF
    have t1 := Int.tmod_lt_of_pos kk (show (0 : Int) < 255 by decide)
    have t2 := Int.lt_tmod_of_pos kk (show (0 : Int) < 255 by decide)
    obtain ⟨ii, hii⟩ : ∃ ii : Nat, kk % 255 = (ii : Int) := ⟨(kk % 255).toNat, by omega⟩
    have hi255 : ii < 255 := by omega
    have r1 : (kk.tmod 255 + 255) % 255 = (ii : Int) := by rw [← hii, Int.tmod_eq_emod]; split <;> omega
    have r2 : (kk.tmod 255 + 255).tmod 255 = (ii : Int) := by rw [Int.tmod_eq_emod_of_nonneg (by omega), r1]
    have r3 : Gf.pwi q kk = Gf.pw q ii := by unfold Gf.pwi; congr 1; omega
    have HII := hid hii
    have hx := xor8 a b
    clear hii
    go_upto_region 10 with (first
      | (go_at_call 16; refine Calls.mono (Poly_any g q _ HF3.out) ?_; rintro e w' ⟨rfl, rfl⟩)
      | (go_at_call 11; (with_reducible refine (Add_any a b _).mono ?_); rintro e w' ⟨rfl, rfl⟩)
      | (go_at_call 13; (with_reducible refine (Mul_any g q a b _ HF3.out).mono ?_); rintro e w' ⟨rfl, nn, rfl⟩)
      | (go_at_call 31; (with_reducible refine (times_any q a b _).mono ?_); rintro e w' ⟨rfl, rfl⟩)
      | (go_at_call 19; refine Calls.mono (Exp_int g q kk _ (HF3.out.drewN _) hk0 hk1) ?_; rintro e w' ⟨rfl, nn2, rfl⟩)
      | (go_at_call 32; refine Calls.mono (power_any q ii (by omega) _) ?_; rintro e w' ⟨rfl, rfl⟩))
    clear r1 r2 r3 hx t1 t2
    by_cases ha0 : a = 0
    · subst ha0
      go_wp2_with (first
        | (go_at_call 20; refine Calls.mono (Log_zero g _) ?_; rintro e w' ⟨rfl, rfl⟩)
        | (go_at_call 14; refine Calls.mono (Div_zero g b _) ?_; rintro e w' ⟨rfl, rfl⟩)
        | (go_at_call 23; refine Calls.mono (Inv_zero g _) ?_; rintro e w' ⟨rfl, rfl⟩))
      go_ret
      exact ⟨rfl, below_drewN HB2.out _⟩
    have za := u8_ne0 ha0
    obtain ⟨i, hi, ei⟩ := Gf.pw_surj HG.out a ha0
    obtain ⟨c, hc⟩ := Gf.inv_ex HG.out a ha0
    have IA : Ix q a i := hid ⟨ei.symm, hi⟩
    have HC := hid hc
    have m1 : Gf.mul q (Gf.mul q b c) a = b := by rw [Gf.mul_assoc, Gf.mul_comm q c a, hc, Gf.mul_one]
    have m2 : Gf.mul q c a = 1 := by rw [Gf.mul_comm, hc]
    have m3 : Gf.powi q i kk = Gf.pw q (i * ii % 255) := by
      rw [Gf.pw_mod HG.out]; unfold Gf.powi; rw [HII.out]; simp
    have hle : i * ii ≤ 254 * 254 := Nat.mul_le_mul (by omega) (by omega)
    have m4 : wrap64 ((i : Int) * (ii : Int)) = (i : Int) * (ii : Int) := by rw [← Int.natCast_mul]; unfold wrap64; omega
    have m5 : ((i : Int) * (ii : Int)).tmod 255 = ((i * ii % 255 : Nat) : Int) := by rw [← Int.natCast_mul, Int.tmod_eq_emod_of_nonneg (by omega)]; omega
    have m6 : i * ii % 255 ≤ 255 := by omega
    clear hc ha0 hle
    go_upto_region 17 with (first
      | (go_at_call 20; refine Calls.mono (Log_ix g q a i _ (HF3.out.drewN _) IA) ?_; rintro e w' ⟨rfl, rfl⟩)
      | (go_at_call 14; refine Calls.mono (Div_any g q b a c HC.out _ (HF3.out.drewN _)) ?_; rintro e w' ⟨rfl, n5, rfl⟩)
      | (go_at_call 23; refine Calls.mono (Inv_any g q a c HC.out _ (HF3.out.drewN _)) ?_; rintro e w' ⟨rfl, n6, rfl⟩)
      | (go_at_call 32; refine Calls.mono (power_any q i (by omega) _) ?_; rintro e w' ⟨rfl, rfl⟩)
      | (go_at_call 31; (with_reducible refine (times_any q _ _ _).mono ?_); rintro e w' ⟨rfl, rfl⟩))
    clear m1 m2 ei
    go_upto_region 20 with (first
      | (go_at_call 21; refine Calls.mono (Pow_int g q a i kk _ (HF3.out.drewN _) IA hk0 hk1) ?_; rintro e w' ⟨rfl, n7, rfl⟩)
      | (go_at_call 32; refine Calls.mono (power_any q (i * ii % 255) m6 _) ?_; rintro e w' ⟨rfl, rfl⟩))
    clear m3 m4 m5 m6
    refine Code.seen (fun W => FieldAt W g q ∧ Below w.heap.size w W) ⟨HF3.out.drewN _, below_drewN HB2.out _⟩ fun w5 H5 => ?_
    go_wp2
    go_loopw [19, 20, 189] (fun s y i wr => ∃ k : Nat, k ≤ l.length ∧ i = .int .i64 k ∧ s = B (psum q a l k) ∧ y = B (pwr q a k) ∧ wr = w5) (fun _ _ i _ => l.length - (intOf i).toNat)
    case atStart => exact ⟨0, Nat.zero_le _, rfl, rfl, rfl, rfl⟩
    case round =>
      obtain ⟨k, hk, rfl, rfl, rfl, rfl⟩ := hrel
      by_cases hlt : k < l.length
      · obtain ⟨b1, o1, rfl, x1⟩ := SlB.cells (HL.out.below H5.out.2) (by omega)
        replace x1 := x1 k hlt
        have HS : Hid (psum q a l (k + 1) = psum q a l k ^^^ Gf.mul q (l.getD k 0) (pwr q a k)) := rfl
        have HP : Hid (pwr q a (k + 1) = Gf.mul q (pwr q a k) a) := rfl
        generalize psum q a l k = s at *
        generalize pwr q a k = y at *
        generalize l.getD k 0 = x at *
        go_wp2_with (go_at_call 31; (with_reducible refine (times_any q _ _ _).mono ?_); rintro e w' ⟨rfl, rfl⟩)
        go_roundw
        case rel => exact ⟨k + 1, by omega, by go_num, by rw [HS.out, xor8], by rw [HP.out], by simp⟩
        case measure => simp [intOf]; omega
      · obtain rfl : k = l.length := by omega
        rw [psum_all]
        clear hlt hk
        go_wp2_with (first
          | (at_builtin; refine wpList_appB rfl _ (.tmp 205) rfl w.heap.size (.slice none 0 0) (.slice A l.length cl) [] l rfl rfl (OwnB.nil _ _) (HL.out.below H5.out.2) (by simp; omega) H5.out.2.size ?_; intro vc w6 ho1 hg1)
          | fail)
        have hb6 := OwnB.grown H5.out.2 (OwnB.nil wr w.heap.size) (Nat.le_refl _) H5.out.2.size hg1
        have hf6 : FieldAt w6 g q := H5.out.1.grown (row := none) hg1 (fun e => by cases e)
        rw [List.nil_append] at ho1
        refine (Eval_any g q a vc l w6 hf6 ho1.sl (by omega)).mono ?_
        rintro e w7 ⟨rfl, n8, rfl⟩
        have HB6 := hid hb6
        clear hb6 hf6 ho1 hg1
        go_wp2
        go_ret
        exact ⟨rfl, below_drewN HB6.out _⟩
end Go.Proofs.Ytgfnfjnjlogpkaa
