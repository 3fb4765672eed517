/- The walk of the law GfRoots. -/
import Derived.Test.YtgfnfjnjlogpkaaGfRootsM
import Derived.Test.YtgfnfjnjlogpkaaGfL
import Derived.Test.YtgfnfjnjlogpkaaByt
import Derived.StillTailTactics
namespace Go.Proofs.Ytgfnfjnjlogpkaa
open Go.RowKit
theorem Eval_at {xv : Int} (g : Nat) (q x : UInt8) (u : Value) (l : List UInt8) (hx : xv = (x.toNat : Int)) (w : World) (h : FieldAt w g q) (hu : SlB w u l) (hlen : l.length ≤ 281474976710656) :
    Calls Try.prog 12 #[.pointer (some ⟨g, 0, none⟩), u, .int .u8 xv] w fun e w' => e = .returned (B (evalFrom q x l)) ∧ ∃ n, w' = w.drewN n := by
  subst hx; exact Eval_any g q x u l w h hu hlen
theorem lit3 (w : World) : OwnB (w.alloc (.cells #[.int .u8 3] 5)) w.heap.size (.slice (some ⟨w.heap.size, 0, none⟩) 1 1) [3] := by
  rcases litB w [3] with h | h
  · exact h
  · exact absurd h (by decide)
def nullTo (p : List UInt8) (k : Nat) : Bool := (p.take k).all (· == 0)
theorem nullTo_succ (p : List UInt8) (k : Nat) (hk : k < p.length) : nullTo p (k + 1) = (nullTo p k && (((p.getD k 0).toNat : Int) == 0)) := by
  unfold nullTo
  rw [List.take_succ_eq_append_getElem hk, List.all_append]
  congr 1
  simp only [List.all_cons, List.all_nil, Bool.and_true, List.getD_eq_getElem?_getD, List.getElem?_eq_getElem hk, Option.getD_some]
  rw [Bool.eq_iff_iff]
  simp only [beq_iff_eq]
  constructor
  · intro h; rw [h]; rfl
  · intro h; exact UInt8.toNat_inj.1 (by simpa using h)
theorem nullTo_all (p : List UInt8) (h : nullTo p p.length = true) : ∀ b ∈ p, b = 0 := by
  unfold nullTo at h
  rw [List.take_length] at h
  intro b hb
  simpa using List.all_eq_true.1 h b hb
theorem nullTo_not (p : List UInt8) (h : nullTo p p.length = false) : ∃ b ∈ p, b ≠ 0 := by
  unfold nullTo at h
  rw [List.take_length] at h
  obtain ⟨b, hb, h⟩ := List.all_eq_false.1 h
  exact ⟨b, hb, by simpa using h⟩
def sums (p r : List UInt8) (k : Nat) : List UInt8 := List.zipWith (· ^^^ ·) (p.take k) (r.take k)
theorem sums_length (p r : List UInt8) (k : Nat) (h1 : k ≤ p.length) (h2 : k ≤ r.length) : (sums p r k).length = k := by simp [sums]; omega
theorem sums_succ (p r : List UInt8) (k : Nat) (h1 : k < p.length) (h2 : k < r.length) : sums p r (k + 1) = sums p r k ++ [p.getD k 0 ^^^ r.getD k 0] := by
  unfold sums
  rw [List.take_succ_eq_append_getElem h1, List.take_succ_eq_append_getElem h2, List.zipWith_append (by simp; omega)]
  simp [h1, h2]
set_option maxRecDepth 100000 in
set_option maxHeartbeats 4000000 in
theorem GfRoots_walk (n : Int) (v u : Value) (p r : List UInt8) (h0 : -9223372036854775808 ≤ n) (h1 : n ≤ 9223372036854775807) (hsum : p.length + r.length ≤ 70368744177664) (w : World) (hp : SlB w v p) (hr : SlB w u r) :
    Calls Try.prog 3 #[.int .i64 n, v, u] w fun e w' => e = .returned (.bool true) ∧ Below w.heap.size w w' := by
  obtain ⟨A, cl, rfl⟩ := hp.form
  obtain ⟨A', cm, rfl⟩ := hr.form
  have hcl : p.length ≤ cl := by obtain ⟨_, c, e, hc, _⟩ := hp; injection e with _ _ e; subst e; exact hc
  have hcm : r.length ≤ cm := by obtain ⟨_, c, e, hc, _⟩ := hr; injection e with _ _ e; subst e; exact hc
  obtain ⟨m, hk1, hk2, hk3⟩ : ∃ k : Nat, k ≤ p.length ∧ k ≤ r.length ∧ (if r.length < p.length then (r.length : Int) else (p.length : Int)) = (k : Int) := by
    by_cases h : r.length < p.length
    · exact ⟨r.length, by omega, Nat.le_refl _, if_pos h⟩
    · exact ⟨p.length, Nat.le_refl _, by omega, if_neg h⟩
  go_enter Try.func3, Try.ntmps3
  go_wp2_with fail
  refine (field_any n h0 h1 _).mono ?_
  rintro e w1 ⟨g, q, rfl, hf, hg, hb⟩
  have HP := hid (hp.below hb)
  have HR := hid (hr.below hb)
  have HF := hid hf
  have HB := hid hb
  have HG := hid hf.gen
  clear hp hr hf hb hg
  go_wp2
  go_loopw [9, 10] (fun b i wr => ∃ k : Nat, k ≤ p.length ∧ i = .int .i64 k ∧ b = .bool (nullTo p k) ∧ wr = w1) (fun _ i _ => p.length - (intOf i).toNat)
  case atStart => exact ⟨0, Nat.zero_le _, rfl, rfl, rfl⟩
  case round =>
    obtain ⟨k, hk, rfl, rfl, rfl⟩ := hrel
    by_cases hlt : k < p.length
    · obtain ⟨b1, o1, rfl, x1⟩ := SlB.cells HP.out (by omega)
      replace x1 := x1 k hlt
      have HN := hid (nullTo_succ p k hlt)
      generalize p.getD k 0 = x at *
      generalize nullTo p k = b at *
      cases b
      all_goals
        go_wp2
        go_roundw
        case rel => exact ⟨k + 1, by omega, by go_num, by rw [HN.out]; simp, by simp⟩
        case measure => simp [intOf]; omega
    · obtain rfl : k = p.length := by omega
      clear hlt hk
      obtain ⟨nb, hnb⟩ : ∃ nb, nullTo p p.length = nb := ⟨_, rfl⟩
      rw [hnb]
      have HNB := hid hnb
      clear hnb
      generalize hww : wr = w1 at *
      clear hww
      go_wp2
      go_loopw [12, 13] (fun s i wr => ∃ k : Nat, k ≤ m ∧ i = .int .i64 k ∧ OwnB wr w1.heap.size s (sums p r k) ∧ Below w1.heap.size w1 wr) (fun _ i _ => m - (intOf i).toNat)
      case atStart => exact ⟨0, Nat.zero_le _, rfl, OwnB.nil _ _, Below.refl _ _⟩
      case round =>
        obtain ⟨k, hk, rfl, ho, hb⟩ := hrel
        by_cases hlt : k < m
        · obtain ⟨b1, o1, rfl, x1⟩ := SlB.cells (HP.out.below hb) (by omega)
          obtain ⟨b2, o2, rfl, x2⟩ := SlB.cells (HR.out.below hb) (by omega)
          replace x1 := x1 k (by omega)
          replace x2 := x2 k (by omega)
          have HS := hid (sums_succ p r k (by omega) (by omega))
          have HL := hid (sums_length p r k (by omega) (by omega))
          generalize p.getD k 0 = x at *
          generalize r.getD k 0 = y at *
          generalize sums p r k = l at *
          obtain ⟨A3, c3, rfl⟩ := ho.form
          rw [HL.out]
          rw [HL.out] at ho
          have HO := hid ho
          have HB1 := hid hb
          clear ho hb
          have hkp : k < p.length := by omega
          have hkr : k < r.length := by omega
          go_wp2
          have HO2 := hid HO.out.drew
          have HB2 := hid (below_drewN HB1.out 1)
          change Hid (Below _ _ wr.drew) at HB2
          have ga := lit_sl wr.drew [x ^^^ y] (by show 1 ≤ _; decide) (fr := (0, 0))
          go_region_law (first
            | (refine step_appB rfl (.tmp 45) (.tmp 55) rfl w1.heap.size (.slice A3 k c3) (.slice (some ⟨wr.drew.heap.size, 0, none⟩) 1 1) l [x ^^^ y] (by simp [Act.eval, Act.put]) (by simp [Act.eval, Act.put]) (HO2.out.alloc _) (by exact ga) (by have := HL.out; simp; omega) (by have := HB2.out.size; simp at this ⊢; omega) ?_; intro vd w13 ho1 hg1; have hbe := hid (OwnB.grown (HB2.out.alloc HB2.out.size _) (HO2.out.alloc _) (Nat.le_refl _) (by have := HB2.out.size; simp at this ⊢; omega) hg1); rw [← HS.out] at ho1; have HO3 := hid ho1; clear ho1 hg1 ga)
            | (go_simp; go_at_call 11; (with_reducible refine (Add_any _ _ _).mono ?_); rintro e w' ⟨rfl, rfl⟩))
          all_goals
            go_simp
            go_wp2
            go_roundw
            case rel => exact ⟨k + 1, by omega, by go_num, HO3.out, hbe.out⟩
            case measure => simp [intOf]; omega
        · obtain rfl : m = k := by omega
          have HO := hid ho
          have HB1 := hid hb
          have HS := hid (show sums p r m = List.zipWith (· ^^^ ·) (p.take m) (r.take m) from rfl)
          have ls : (sums p r m).length = m := sums_length p r m hk1 hk2
          obtain ⟨A3, c3, e3⟩ := ho.form
          rw [ls] at e3
          subst e3
          generalize sums p r m = ss at *
          have ga := lit_sl w1 [3] (by decide) (fr := (0, 0))
          clear ho hb hlt hk hk3
          go_wp2_with (first
            | (at_builtin; refine wpList_appB rfl (.tmp 57) (.tmp 58) rfl wr.heap.size (.slice (some ⟨wr.heap.size, 0, none⟩) 1 1) (.slice A p.length cl) [3] p rfl rfl (by exact lit3 wr) (by exact (HP.out.below HB1.out).alloc _) (by simp; omega) (by simp) ?_; intro vu w3 ho1 hg1; have hbe := OwnB.grown ((Below.refl wr.heap.size wr).alloc (Nat.le_refl _) _) (lit3 wr) (Nat.le_refl _) (by simp) hg1; have HU := hid ho1; have HS3 := hid (HO.out.below hbe); have HB3 := hid (HB1.out.trans (hbe.mono HB1.out.size)); obtain ⟨A4, c4, e4⟩ := ho1.form; subst e4; clear ho1 hg1 hbe)
            | fail)
          clear HO HB1 ga
          have HPT := hid (SlB.take_ (HP.out.below HB3.out) m hk1 (by omega))
          have HRT := hid (SlB.take_ (HR.out.below HB3.out) m hk2 (by omega))
          have HP3 := hid (HP.out.below HB3.out)
          have HF3 := hid (HF.out.below HB3.out HF.out.lt)
          have lt1 : (p.take m).length = m := by simp; omega
          have lt2 : (r.take m).length = m := by simp; omega
          have lu : ([3] ++ p).length = p.length + 1 := by simp
          have EU := hid (fun x : UInt8 => show evalFrom q x ([3] ++ p) = Gf.mul q (evalFrom q x p) x ^^^ 3 from rfl)
          have HU3 := hid HU.out.sl
          clear HU
          rw [lu] at HU3
          have HS4 := hid HS3.out.sl
          clear HS3
          generalize [3] ++ p = pu at *
          generalize p.take m = lp at *
          generalize r.take m = lr at *
          go_loopw [8, 15] (fun z i wr => ∃ k nn : Nat, k ≤ 256 ∧ i = .int .i64 k ∧ z = .int .i64 (Gf.zeros q p k : Nat) ∧ wr = w3.drewN nn) (fun _ i _ => 256 - (intOf i).toNat)
          case atStart => exact ⟨0, 0, Nat.zero_le _, rfl, rfl, rfl⟩
          case round =>
            obtain ⟨k, nn, hk, rfl, rfl, hwx⟩ := hrel
            have hz := Gf.zeros_le (q := q) p k
            have HZ := hid (Gf.zeros_succ (q := q) p k)
            have F3 : Hid (FieldAt wr g q) := hid (by rw [hwx]; exact HF3.out.drewN nn)
            have P3 : Hid (SlB wr (.slice A p.length cl) p) := hid (by rw [hwx]; exact HP3.out.drewN nn)
            have PT3 : Hid (SlB wr (.slice A m cl) lp) := hid (by rw [hwx]; exact HPT.out.drewN nn)
            have RT3 : Hid (SlB wr (.slice A' m cm) lr) := hid (by rw [hwx]; exact HRT.out.drewN nn)
            have S3 : Hid (SlB wr (.slice A3 m c3) ss) := hid (by rw [hwx]; exact HS4.out.drewN nn)
            have U3 : Hid (SlB wr (.slice A4 (p.length + 1) c4) pu) := hid (by rw [hwx]; exact HU3.out.drewN nn)
            have HW := hid hwx
            clear hwx
            by_cases hlt : k < 256
            · obtain ⟨x, hx⟩ : ∃ x : UInt8, x = UInt8.ofNat k := ⟨_, rfl⟩
              have hxk : (k : Int) = (x.toNat : Int) := by rw [hx]; simp; omega
              rw [← hx] at HZ
              have k256 : (k : Int) % 256 = (k : Int) := by omega
              have E1 : evalFrom q x ss = evalFrom q x lp ^^^ evalFrom q x lr := by rw [HS.out]; exact Gf.eval_sum x _ _ (by omega)
              have E2 := EU.out x
              have XK := hid hxk
              clear hx hxk
              go_wp2_with fail
              refine (Eval_at g q x _ p XK.out _ F3.out P3.out (by omega)).mono ?_
              rintro e w4 ⟨rfl, n4, rfl⟩
              have F4 := hid (F3.out.drewN n4)
              have P4 := hid (P3.out.drewN n4)
              have PT4 := hid (PT3.out.drewN n4)
              have RT4 := hid (RT3.out.drewN n4)
              have S4 := hid (S3.out.drewN n4)
              have U4 := hid (U3.out.drewN n4)
              have H4 : Hid (wr.drewN n4 = w3.drewN (nn + n4)) := hid (by rw [HW.out]; simp)
              generalize hwy : wr.drewN n4 = wy at *
              clear hwy F3 P3 PT3 RT3 S3 U3 HW
              generalize evalFrom q x p = v at *
              by_cases hv0 : v = 0
              case' pos =>
                have hd : ((v.toNat : Int) == 0) = true := by rw [hv0]; rfl
                rw [if_pos hv0] at HZ
              case' neg =>
                have hd := u8_ne0 hv0
                rw [if_neg hv0] at HZ
              all_goals
                generalize Gf.zeros q p k = z at *
                clear hv0
                go_wp2
                go_quiet (first
                  | (go_at_call 12; exact Calls.quiet_of (Eval_at g q x _ ss XK.out _ (F4.out.drewN _) (S4.out.drewN _) (by omega)))
                  | (go_at_call 12; exact Calls.quiet_of (Eval_at g q x _ lp XK.out _ (F4.out.drewN _) (PT4.out.drewN _) (by omega)))
                  | (go_at_call 12; exact Calls.quiet_of (Eval_at g q x _ lr XK.out _ (F4.out.drewN _) (RT4.out.drewN _) (by omega)))
                  | (go_at_call 12; exact Calls.quiet_of (Eval_at g q x _ pu XK.out _ (F4.out.drewN _) (U4.out.drewN _) (by omega)))
                  | (go_at_call 13; exact Calls.quiet_of (Mul_at g q v x rfl XK.out _ (F4.out.drewN _)))
                  | (go_at_call 11; with_reducible exact Calls.quiet_of_same (Add_any (evalFrom q x lp) (evalFrom q x lr) _))
                  | (go_at_call 11; exact Calls.quiet_of_same (Add_at (Gf.mul q v x) 3 rfl (by decide) _)))
                go_wp2
                go_roundw
                case rel => exact ⟨k + 1, nn + n4 + nq, by omega, by go_num, by rw [HZ.out]; go_num, by rw [H4.out]; simp⟩
                case measure => simp [intOf]; omega
            · obtain rfl : k = 256 := by omega
              clear hlt hk
              have HBW := hid (show Below w.heap.size w wr from by rw [HW.out]; exact below_drewN (below_then HB.out HB3.out) nn)
              cases nb
              · have hzz := Gf.zeros_lt HG.out p (nullTo_not p HNB.out)
                generalize Gf.zeros q p 256 = z at *
                go_wp2
                go_ret
                exact ⟨rfl, HBW.out⟩
              · have hzz := Gf.zeros_null (q := q) p (nullTo_all p HNB.out) 256
                go_wp2
                go_ret
                exact ⟨rfl, HBW.out⟩
end Go.Proofs.Ytgfnfjnjlogpkaa
