/- The walk of the law GfLines. -/
import Derived.Test.YtgfnfjnjlogpkaaGfA
import Derived.Test.YtgfnfjnjlogpkaaGfFieldW
import Derived.StillTailTactics
namespace Go.Proofs.Ytgfnfjnjlogpkaa
open Go.RowKit
theorem am_twice (q c : UInt8) (l m : List UInt8) (k : Nat) (hl : l.length = k) : am q c 0 (am q c 0 l m k) m k = l := by
  subst hl
  apply List.ext_getElem
  · simp [am]
  · intro j h1 h2
    simp only [am, List.getElem_map, List.getElem_range, List.length_map, List.length_range, Nat.zero_le, true_and, Nat.zero_add]
    rw [if_pos h2]
    simp [h2, UInt8.xor_assoc]
theorem dot_am (q c : UInt8) (l m : List UInt8) (k : Nat) (hl : l.length = k) : ∀ i, i ≤ k → dotN q (am q c 0 l m k) m i = dotN q l m i ^^^ Gf.mul q c (dotN q m m i)
  | 0, _ => by simp [dotN, Gf.mul_zero]
  | i + 1, hi => by
    have ih := dot_am q c l m k hl i (by omega)
    simp only [dotN]
    rw [ih, am_get _ _ _ _ _ _ _ (by omega), if_pos (by omega), Gf.xor_mul, Gf.mul_xor, Gf.mul_assoc, Nat.sub_zero]
    simp only [UInt8.xor_assoc]
    congr 1
    rw [← UInt8.xor_assoc, UInt8.xor_comm (Gf.mul q c (dotN q m m i)), UInt8.xor_assoc]
structure LSt (w1 W : World) (va vb : Value) (la lb : List UInt8) : Prop where
  b : Below w1.heap.size w1 W
  a : OwnB W w1.heap.size va la
  c : OwnB W w1.heap.size vb lb
  ne : ∀ i j, va.ownBlock = some i → vb.ownBlock = some j → i ≠ j
theorem LSt.drewN {w1 W : World} {va vb : Value} {la lb : List UInt8} (h : LSt w1 W va vb la lb) (n : Nat) : LSt w1 (W.drewN n) va vb la lb := ⟨below_drewN h.b n, h.a.drew_ n, h.c.drew_ n, h.ne⟩
theorem LSt.next {w1 W W' : World} {va vb : Value} {la lb : List UInt8} (h : LSt w1 W va vb la lb) (hb : Below W.heap.size W W') : LSt w1 W' va vb la lb := ⟨h.b.trans (hb.mono h.b.size), h.a.below hb, h.c.below hb, h.ne⟩
theorem AddMul_at {cv : Int} (w1 W : World) (g : Nat) (q c : UInt8) (hf : FieldAt w1 g q) (A A' : Option Addr) (n n' ca cb : Nat) (la lb : List UInt8) (h : LSt w1 W (.slice A n ca) (.slice A' n' cb) la lb) (he : la.length = lb.length) (hmax : lb.length ≤ 140737488355328) (hc : cv = (c.toNat : Int)) :
    Calls Try.prog 18 #[.pointer (some ⟨g, 0, none⟩), .slice A n ca, .int .u8 cv, .slice A' n' cb] W fun e w' => e = .returned (.int .i64 0) ∧ LSt w1 w' (.slice A n ca) (.slice A' n' cb) (am q c 0 la lb lb.length) lb := by
  subst hc
  obtain ⟨_, _, e⟩ := h.a.form
  injection e with e1 e2 e3
  subst e1 e2 e3
  have hA : 0 < la.length → ∃ g' c', Value.slice A la.length ca = .slice (some ⟨g', 0, none⟩) la.length c' ∧ A = some ⟨g', 0, none⟩ ∧ g ≠ g' := fun h0 => by
    obtain ⟨g', cap, e, hb, _⟩ := h.a.some_ h0
    injection e with e1
    subst e1
    have := hf.lt
    exact ⟨g', ca, rfl, rfl, by omega⟩
  have hcap : la.length ≤ ca := by obtain ⟨_, c, e, hc, _⟩ := h.a.sl; injection e with _ _ e; subst e; exact hc
  refine (AddMul_any g q c W (hf.below h.b hf.lt) _ la w1.heap.size h.a A 0 la.length ca hA (by omega) _ lb h.c.sl he.symm (by omega) hcap).mono ?_
  rintro e w' ⟨rfl, ho, hg⟩
  refine ⟨rfl, OwnB.grown h.b h.a (Nat.le_refl _) h.b.size hg, ho, own_block h.c fun k hk => hg.block k (World.ownsRow.lt h.c k hk).2 fun e => h.ne k k e.symm hk rfl, h.ne⟩
theorem AddMul_self {cv : Int} (w1 W : World) (g : Nat) (q c : UInt8) (hf : FieldAt w1 g q) (A A' : Option Addr) (n n' ca cb : Nat) (la lb : List UInt8) (h : LSt w1 W (.slice A n ca) (.slice A' n' cb) la lb) (hmax : la.length ≤ 140737488355328) (hc : cv = (c.toNat : Int)) :
    Calls Try.prog 18 #[.pointer (some ⟨g, 0, none⟩), .slice A n ca, .int .u8 cv, .slice A n ca] W fun e w' => e = .returned (.int .i64 0) ∧ LSt w1 w' (.slice A n ca) (.slice A' n' cb) (am q c 0 la la la.length) lb := by
  subst hc
  obtain ⟨_, _, e⟩ := h.a.form
  injection e with e1 e2 e3
  subst e1 e2 e3
  have hA : 0 < la.length → ∃ g' c', Value.slice A la.length ca = .slice (some ⟨g', 0, none⟩) la.length c' ∧ A = some ⟨g', 0, none⟩ ∧ g ≠ g' := fun h0 => by
    obtain ⟨g', cap, e, hb, _⟩ := h.a.some_ h0
    injection e with e1
    subst e1
    have := hf.lt
    exact ⟨g', ca, rfl, rfl, by omega⟩
  have hcap : la.length ≤ ca := by obtain ⟨_, c, e, hc, _⟩ := h.a.sl; injection e with _ _ e; subst e; exact hc
  refine (AddMul_any g q c W (hf.below h.b hf.lt) _ la w1.heap.size h.a A 0 la.length ca hA (by omega) _ la h.a.sl rfl (by omega) hcap).mono ?_
  rintro e w' ⟨rfl, ho, hg⟩
  refine ⟨rfl, OwnB.grown h.b h.a (Nat.le_refl _) h.b.size hg, ho, own_block h.c fun k hk => hg.block k (World.ownsRow.lt h.c k hk).2 fun e => h.ne k k e.symm hk rfl, h.ne⟩
theorem Dot_st (w1 W : World) (g : Nat) (q : UInt8) (hf : FieldAt w1 g q) {va vb u v : Value} {la lb lu lv : List UInt8} (h : LSt w1 W va vb la lb) (hu : SlB W u lu) (hv : SlB W v lv) (he : lu.length = lv.length) (hmax : lu.length ≤ 140737488355328) :
    Calls Try.prog 17 #[.pointer (some ⟨g, 0, none⟩), u, v] W fun e w' => e = .returned (.tuple #[B (dotN q lu lv lu.length), .int .i64 0]) ∧ LSt w1 w' va vb la lb := by
  refine (Dot_any g q u v lu lv W (hf.below h.b hf.lt) hu hv he (by omega)).mono ?_
  rintro e w' ⟨rfl, n, rfl⟩
  exact ⟨rfl, h.drewN n⟩
theorem Mul_st (w1 W : World) (g : Nat) (q a b : UInt8) (hf : FieldAt w1 g q) {va vb : Value} {la lb : List UInt8} (h : LSt w1 W va vb la lb) :
    Calls Try.prog 13 #[.pointer (some ⟨g, 0, none⟩), B a, B b] W fun e w' => e = .returned (B (Gf.mul q a b)) ∧ LSt w1 w' va vb la lb := by
  refine (Mul_any g q a b W (hf.below h.b hf.lt)).mono ?_
  rintro e w' ⟨rfl, n, rfl⟩
  exact ⟨rfl, h.drewN n⟩
def Both (q c : UInt8) (l lc : List UInt8) : Prop := lc.length = l.length ∧ ∀ j, 1 ≤ j → j < l.length → lc.getD j 0 = l.getD j 0 ^^^ Gf.mul q c (l.getD (j - 1) 0)
theorem AddMul_win {cv : Int} (w1 W : World) (g : Nat) (q c : UInt8) (hf : FieldAt w1 g q) (g3 cc n : Nat) (vb : Value) (l lb : List UInt8) (h : LSt w1 W (.slice (some ⟨g3, 0, none⟩) n cc) vb l lb) (A A' : Option Addr) (m ca m' ca' : Nat) (hm : m + 1 = l.length) (hA : 0 < m → A = some ⟨g3, 1, none⟩)
    (hca : ca + 1 = cc) (hm' : m' = m) (hA' : 0 < m → A' = some ⟨g3, 0, none⟩) (hca' : ca' = cc) (hmax : m ≤ 140737488355328) (hnn : A' ≠ none) (hc : cv = (c.toNat : Int)) :
    Calls Try.prog 18 #[.pointer (some ⟨g, 0, none⟩), .slice A m ca, .int .u8 cv, .slice A' m' ca'] W fun e w' => e = .returned (.int .i64 0) ∧ ∃ lc, Both q c l lc ∧ LSt w1 w' (.slice (some ⟨g3, 0, none⟩) n cc) vb lc lb := by
  subst hc hm' hca'
  obtain ⟨hb3, rfl⟩ := h.a.base_le
  have hlc : l.length ≤ ca' := by obtain ⟨_, c, e, hc, _⟩ := h.a.sl; injection e with _ _ e; subst e; exact hc
  have lt : (l.take m').length = m' := by simp; omega
  have hs : SlB W (.slice A' m' ca') (l.take m') := by
    refine ⟨A', ca', by rw [lt], by omega, fun e => absurd e hnn, fun h0 => ?_⟩
    rw [lt] at h0
    refine ⟨g3, 0, hA' h0, fun i hi => ?_⟩
    rw [lt] at hi
    rw [Nat.zero_add, (h.a.at_ i (by omega)).1]
    simp [List.getElem?_take_of_lt hi]
  refine (AddMul_any g q c W (hf.below h.b hf.lt) _ l w1.heap.size h.a A 1 m' ca (fun h0 => ⟨g3, ca', rfl, hA h0, by have := hf.lt; omega⟩) (by omega) _ (l.take m') hs lt (by omega) (by omega)).mono ?_
  rintro e w' ⟨rfl, ho, hg⟩
  refine ⟨rfl, am q c 1 l (l.take m') (l.take m').length, ⟨am_length _ _ _ _ _ _, fun j h1 h2 => ?_⟩, ⟨OwnB.grown h.b h.a (Nat.le_refl _) h.b.size hg, ho, own_block h.c fun k hk => hg.block k (World.ownsRow.lt h.c k hk).2 fun e => h.ne k k e.symm hk rfl, h.ne⟩⟩
  · rw [am_get _ _ _ _ _ _ _ h2, lt, if_pos (by omega)]
    congr 2
    simp [List.getElem?_take_of_lt (show j - 1 < m' by omega)]
set_option maxRecDepth 100000 in
set_option maxHeartbeats 4000000 in
theorem GfLines_walk (n : Int) (v u : Value) (l m : List UInt8) (c : UInt8) (h0 : -9223372036854775808 ≤ n) (h1 : n ≤ 9223372036854775807) (hsum : l.length + m.length ≤ 70368744177664) (w : World) (hl : SlB w v l) (hm : SlB w u m) :
    Calls Try.prog 5 #[.int .i64 n, v, u, B c] w fun e w' => e = .returned (.bool true) ∧ Below w.heap.size w w' := by
  obtain ⟨A, cl, rfl⟩ := hl.form
  obtain ⟨A', cm, rfl⟩ := hm.form
  have hcl : l.length ≤ cl := by obtain ⟨_, c, e, hc, _⟩ := hl; injection e with _ _ e; subst e; exact hc
  have hcm : m.length ≤ cm := by obtain ⟨_, c, e, hc, _⟩ := hm; injection e with _ _ e; subst e; exact hc
  obtain ⟨k, hk1, hk2, hk3⟩ : ∃ k : Nat, k ≤ l.length ∧ k ≤ m.length ∧ (if m.length < l.length then (m.length : Int) else (l.length : Int)) = (k : Int) := by
    by_cases h : m.length < l.length
    · exact ⟨m.length, by omega, Nat.le_refl _, if_pos h⟩
    · exact ⟨l.length, Nat.le_refl _, by omega, if_neg h⟩
  have TL : SlB w (.slice A k cl) (l.take k) := hl.take_ k hk1 (by omega)
  have TM : SlB w (.slice A' k cm) (m.take k) := hm.take_ k hk2 (by omega)
  have ll : (l.take k).length = k := by simp; omega
  have lm : (m.take k).length = k := by simp; omega
  have gl : ∀ j, j < k → (l.take k).getD j 0 = l.getD j 0 := fun j hj => by simp [List.getElem?_take_of_lt hj]
  have gm : ∀ j, j < k → (m.take k).getD j 0 = m.getD j 0 := fun j hj => by simp [List.getElem?_take_of_lt hj]
  generalize l.take k = la at *
  generalize m.take k = lb at *
  go_enter Try.func5, Try.ntmps5
  go_wp2_with fail
  refine (field_any n h0 h1 _).mono ?_
  rintro e w1 ⟨g, q, rfl, hf, hg, hb⟩
  have HL := hid (hl.below hb)
  have HM := hid (hm.below hb)
  replace TL := hid (TL.below hb)
  replace TM := hid (TM.below hb)
  have HF := hid hf
  have HB := hid hb
  have GL := hid gl
  have GM := hid gm
  clear hl hm hf hb hg gl gm
  go_wp2_with (first
    | (at_builtin; refine wpList_appB rfl (.tmp 33) (.tmp 36) rfl w1.heap.size _ _ [] la rfl rfl (by exact lit0 w1) (by exact TL.out.alloc _) (by simp; omega) (by simp) ?_; intro va w2 ho1 hg1; have hb2 := OwnB.grown ((Below.refl w1.heap.size w1).alloc (Nat.le_refl _) _) (lit0 w1) (Nat.le_refl _) (by simp) hg1; rw [List.nil_append] at ho1; have HA1 := hid ho1; have HB2 := hid hb2; obtain ⟨A1, c1, e1⟩ := ho1.form; rw [ll] at e1; subst e1; clear ho1 hg1 hb2)
    | (at_builtin; refine wpList_appB rfl (.tmp 38) (.tmp 41) rfl w2.heap.size _ _ [] lb rfl rfl (by exact lit0 w2) (by exact (TM.out.below HB2.out).alloc _) (by simp; omega) (by simp) ?_; intro vb w3 ho1 hg1; have hb3 := OwnB.grown ((Below.refl w2.heap.size w2).alloc (Nat.le_refl _) _) (lit0 w2) (Nat.le_refl _) (by simp) hg1; rw [List.nil_append] at ho1; have HA2 := hid ho1; have HB3 := hid hb3; obtain ⟨A2, c2, e1⟩ := ho1.form; rw [lm] at e1; subst e1; clear ho1 hg1 hb3)
    | fail)
  have S0 : Hid (LSt w1 w3 (.slice A1 k c1) (.slice A2 k c2) la lb) := hid ⟨below_then HB2.out HB3.out, HA1.out.below HB3.out, own_base HA2.out HB2.out.size, fun i j hi hj => by
    have h1 := (World.ownsRow.lt HA1.out i hi).2
    have h2 := (World.ownsRow.lt HA2.out j hj).1
    omega⟩
  clear HA1 HA2 HB2 HB3
  refine (Dot_st w1 w3 g q HF.out S0.out S0.out.a.sl S0.out.c.sl (by omega) (by omega)).mono ?_
  rintro e w4 ⟨rfl, S1⟩
  replace S1 := hid S1
  clear S0 w3
  go_wp2_with fail
  refine (AddMul_at w1 w4 g q c HF.out _ _ _ _ _ _ la lb S1.out (by omega) (by omega) rfl).mono ?_
  rintro e w5 ⟨rfl, S2⟩
  replace S2 := hid S2
  have e2 := am_twice q c la lb k ll
  have e3 := dot_am q c la lb k ll k (Nat.le_refl _)
  rw [lm] at S2
  have l2 : (am q c 0 la lb k).length = k := by rw [am_length]; exact ll
  generalize am q c 0 la lb k = l1 at *
  have E2 := hid e2
  clear e2
  clear S1 w4
  go_wp2_with fail
  refine (Dot_st w1 w5 g q HF.out S2.out S2.out.a.sl S2.out.c.sl (by omega) (by omega)).mono ?_
  rintro e w6 ⟨rfl, S3⟩
  replace S3 := hid S3
  clear S2 w5
  go_wp2_with fail
  refine (Dot_st w1 w6 g q HF.out S3.out S3.out.c.sl S3.out.c.sl (by omega) (by omega)).mono ?_
  rintro e w7 ⟨rfl, S4⟩
  replace S4 := hid S4
  clear S3 w6
  rw [lm]
  clear e3
  generalize dotN q la lb k = d1
  generalize dotN q lb lb k = d2
  go_wp2_with (first | (go_at_call 11; (with_reducible refine (Add_any _ _ _).mono ?_); rintro e w' ⟨rfl, rfl⟩) | fail)
  refine (Mul_st w1 w7 g q c d2 HF.out S4.out).mono ?_
  rintro e w8 ⟨rfl, S5⟩
  replace S5 := hid S5
  clear S4 w7
  go_wp2_with (first | (go_at_call 11; (with_reducible refine (Add_any _ _ _).mono ?_); rintro e w' ⟨rfl, rfl⟩) | fail)
  refine (AddMul_at w1 _ g q c HF.out _ _ _ _ _ _ l1 lb S5.out (by omega) (by omega) rfl).mono ?_
  rintro e w9 ⟨rfl, S6⟩
  rw [lm, E2.out] at S6
  replace S6 := hid S6
  clear S5 E2
  go_wp2
  go_loopw [20] (fun i wr => ∃ j : Nat, j ≤ k ∧ i = .int .i64 j ∧ LSt w1 wr (.slice A1 k c1) (.slice A2 k c2) la lb) (fun i _ => k - (intOf i).toNat)
  case atStart => exact ⟨0, Nat.zero_le _, rfl, S6.out⟩
  case round =>
    clear S6 w9
    obtain ⟨j, hj, rfl, hs⟩ := hrel
    have hkm : k ≤ 140737488355328 := by omega
    by_cases hlt : j < k
    · obtain ⟨b1, o1, rfl, x1⟩ := SlB.cells hs.a.sl (by omega)
      obtain ⟨b2, o2, rfl, x2⟩ := SlB.cells hs.c.sl (by omega)
      obtain ⟨b3, o3, rfl, x3⟩ := SlB.cells (HL.out.below hs.b) (by omega)
      obtain ⟨b4, o4, rfl, x4⟩ := SlB.cells (HM.out.below hs.b) (by omega)
      replace x1 := x1 j (by omega)
      replace x2 := x2 j (by omega)
      replace x3 := x3 j (by omega)
      replace x4 := x4 j (by omega)
      rw [GL.out j hlt] at x1
      rw [GM.out j hlt] at x2
      generalize l.getD j 0 = x at *
      generalize m.getD j 0 = y at *
      have HS := hid hs
      clear hs
      go_wp2
      go_quiet (fail)
      go_wp2
      go_roundw
      case rel => exact ⟨j + 1, by omega, by go_num, HS.out.drewN _⟩
      case measure => simp [intOf]; omega
    · obtain rfl : k = j := by omega
      have S7 := hid hs
      have LA := hid ll
      have LB := hid lm
      clear hs hlt hj GM TL TM lm hk2 hk3 HM
      go_wp2_with fail
      refine (AddMul_self w1 wr g q c HF.out _ _ _ _ _ _ la lb S7.out (by omega) rfl).mono ?_
      rintro e w10 ⟨rfl, S8⟩
      rw [ll] at S8
      replace S8 := hid S8
      clear S7
      have l3 : (am q c 0 la la k).length = k := by rw [am_length]; exact ll
      have GA : Hid (∀ j, j < k → (am q c 0 la la k).getD j 0 = l.getD j 0 ^^^ Gf.mul q c (l.getD j 0)) := hid fun j hj => by
        rw [am_get _ _ _ _ _ _ _ (by omega), if_pos (by omega), Nat.sub_zero, GL.out j hj]
      generalize am q c 0 la la k = l2 at *
      go_wp2
      go_loopw [21] (fun i wr => ∃ j : Nat, j ≤ k ∧ i = .int .i64 j ∧ LSt w1 wr (.slice A1 k c1) (.slice A2 k c2) l2 lb) (fun i _ => k - (intOf i).toNat)
      case atStart => exact ⟨0, Nat.zero_le _, rfl, S8.out⟩
      case round =>
        clear S8
        obtain ⟨j, hj, rfl, hs⟩ := hrel
        by_cases hlt : j < k
        · obtain ⟨b1, o1, rfl, x1⟩ := SlB.cells hs.a.sl (by omega)
          obtain ⟨b3, o3, rfl, x3⟩ := SlB.cells (HL.out.below hs.b) (by omega)
          replace x1 := x1 j (by omega)
          replace x3 := x3 j (by omega)
          rw [GA.out j hlt] at x1
          generalize l.getD j 0 = x at *
          have HS := hid hs
          have HF2 := hid (HF.out.below hs.b HF.out.lt)
          clear hs
          go_wp2
          go_quiet (first | (go_at_call 13; exact Calls.quiet_of (Mul_any g q c x _ (HF2.out.drewN _))) | (go_at_call 11; exact Calls.quiet_of_same (Add_any _ _ _)))
          go_wp2
          go_roundw
          case rel => exact ⟨j + 1, by omega, by go_num, HS.out.drewN _⟩
          case measure => simp [intOf]; omega
        · obtain rfl : k = j := by omega
          have S9 := hid hs
          clear hs hlt hj GA GL
          go_wp2_with (first
            | (at_builtin; refine wpList_appB rfl (.tmp 152) (.tmp 153) rfl wr.heap.size (.slice (some ⟨wr.heap.size, 0, none⟩) 0 0) (.slice A l.length cl) [] l rfl rfl (by exact lit0 _) (by exact (HL.out.below S9.out.b).alloc _) (by simp; omega) (by simp) ?_; intro vc w11 ho1 hg1)
            | fail)
          rw [List.nil_append] at ho1
          have hb3 := OwnB.grown ((Below.refl wr.heap.size wr).alloc (Nat.le_refl _) _) (lit0 wr) (Nat.le_refl _) (by simp) hg1
          have S10 : Hid (LSt w1 w11 vc (.slice A2 k c2) l lb) := hid ⟨S9.out.b.trans (hb3.mono S9.out.b.size), own_base ho1 S9.out.b.size, S9.out.c.below hb3, fun i j hi hj => by
            have h1 := (World.ownsRow.lt ho1 i hi).1
            have h2 := (World.ownsRow.lt S9.out.c j hj).2
            omega⟩
          obtain ⟨A3, c3, rfl⟩ := ho1.form
          have hc3 : l.length ≤ c3 := by obtain ⟨_, c, e, hc, _⟩ := ho1.sl; injection e with _ _ e; subst e; exact hc
          clear S9 hb3 hg1 ho1
          rcases Nat.eq_zero_or_pos l.length with hz | hp
          case' inl =>
            go_quiet (fail)
            go_wp2
            go_loopw [23] (fun i wr => i = .int .i64 1 ∧ LSt w1 wr (.slice A3 l.length c3) (.slice A2 k c2) l lb) (fun i _ => 1)
            case atStart => exact ⟨rfl, S10.out.drewN _⟩
            case round =>
              clear S10
              obtain ⟨rfl, hs⟩ := hrel
              have S12 := hid hs
              clear hs
              (have ga := lit_sl wr [1] (by decide) (fr := (0, 0)); go_wp2_with (first | (at_builtin; refine wpList_appB rfl (.tmp 198) (.tmp 199) rfl w1.heap.size (.slice A2 k c2) (.slice (some ⟨(wr).heap.size, 0, none⟩) 1 1) lb [1] rfl rfl (S12.out.c.alloc _) (by exact ga) (by have := LB.out; simp; omega) (by have := S12.out.b.size; simp; omega) ?_; intro vd w13 ho1 hg1; have hbe := hid (OwnB.grown (S12.out.b.alloc S12.out.b.size _) (S12.out.c.alloc _) (Nat.le_refl _) (by have := S12.out.b.size; simp; omega) hg1); obtain ⟨A4, c4, e4⟩ := ho1.form; rw [List.length_append, LB.out] at e4; subst e4; clear ho1 hg1 ga) | (go_at_call 18; refine Calls.mono (AddMul_shape _ _ _ _ _ _ _ _ (by simp) _) ?_; rintro e w14 ⟨rfl, rfl⟩) | fail); go_ret; exact ⟨rfl, below_then HB.out hbe.out⟩)
          case' inr =>
            obtain ⟨g3, cc, e3, hg3, hcc, _⟩ := S10.out.a.some_ hp
            injection e3 with e3 _ e4
            subst e3 e4
            have ht : ((l.length : Int) - 1).toNat = l.length - 1 := by omega
            have hi : (1 : Int) ≤ (l.length : Int) := by omega
            rcases Decidable.em (c3 = 1) with h1 | h1
          case' inr.inl =>
            have hl1 : l.length = 1 := by omega
            have hw : IntKind.i64.wrap (1 - 1) = 0 := rfl
            have hw0 : IntKind.i64.wrap 0 = 0 := rfl
            go_still_tail 13, (by kernel_rfl)
            change wpList _ _ _ _ _ w11.drew
            have SD := hid (S10.out.drewN 1)
            change Hid (LSt w1 w11.drew _ _ _ _) at SD
            generalize w11.drew = w12 at *
            go_wp2_with fail
            refine (AddMul_win w1 w12 g q c HF.out g3 c3 _ _ l lb SD.out _ _ 0 0 0 1 (by omega) (fun h => absurd h (by decide)) (by omega) rfl (fun h => absurd h (by decide)) (by omega) (by decide) (by simp) rfl).mono ?_
          case' inr.inr =>
            have hw : IntKind.i64.wrap ((l.length : Int) - 1) = (l.length : Int) - 1 := by rw [IntKind.wrap_i64]; omega
            have hi3 : 0 ≤ (l.length : Int) - 1 := by omega
            have hi2 : (l.length : Int) - 1 ≤ (c3 : Int) := by omega
            go_still_tail 13, (by kernel_rfl)
            change wpList _ _ _ _ _ w11.drew
            have SD := hid (S10.out.drewN 1)
            change Hid (LSt w1 w11.drew _ _ _ _) at SD
            generalize w11.drew = w12 at *
            go_wp2_with fail
            refine (AddMul_win w1 w12 g q c HF.out g3 c3 _ _ l lb SD.out _ _ (l.length - 1) (c3 - 1) _ _ (by omega) (fun _ => rfl) (by omega) rfl (fun _ => rfl) rfl (by omega) (by simp) rfl).mono ?_
          all_goals
            rintro e w13 ⟨rfl, lc, HC, S11⟩
            replace HC := hid HC
            replace S11 := hid S11
            clear S10 SD
            go_wp2
            go_loopw [23] (fun i wr => ∃ j : Nat, 1 ≤ j ∧ j ≤ l.length ∧ i = .int .i64 j ∧ LSt w1 wr (.slice (some ⟨g3, 0, none⟩) l.length c3) (.slice A2 k c2) lc lb) (fun i _ => l.length - (intOf i).toNat)
            case atStart => exact ⟨1, by omega, by omega, rfl, S11.out⟩
            case round =>
              clear S11
              obtain ⟨j, hj1, hj2, rfl, hs⟩ := hrel
              by_cases hlt : j < l.length
              · first
                  | (exfalso; omega)
                  | (have hd := (hs.a.at_ j (by rw [HC.out.1]; omega)).1
                     rw [HC.out.2 j hj1 hlt] at hd
                     obtain ⟨b3, o3, rfl, x3⟩ := SlB.cells (HL.out.below hs.b) (by omega)
                     have x4 := x3 (j - 1) (by omega)
                     replace x3 := x3 j (by omega)
                     obtain ⟨i, rfl⟩ : ∃ i, j = i + 1 := ⟨j - 1, by omega⟩
                     rw [Nat.add_sub_cancel] at hd x4
                     generalize l.getD (i + 1) 0 = x at *
                     generalize l.getD i 0 = y at *
                     have HS := hid hs
                     have HF2 := hid (HF.out.below hs.b HF.out.lt)
                     clear hs
                     have e1 : IntKind.i64.wrap (((i + 1 : Nat) : Int) - 1) = (i : Int) := by rw [IntKind.wrap_i64]; omega
                     have e2 : IntKind.i64.wrap ((i : Int) + 1 - 1) = (i : Int) := by rw [IntKind.wrap_i64]; omega
                     go_wp2
                     go_quiet (first | (go_at_call 13; exact Calls.quiet_of (Mul_any g q c y _ (HF2.out.drewN _))) | (go_at_call 11; exact Calls.quiet_of_same (Add_any _ _ _)))
                     go_wp2
                     go_roundw
                     case rel => exact ⟨i + 2, by omega, by omega, by go_num, HS.out.drewN _⟩
                     case measure => simp [intOf]; omega)
              · have S12 := hid hs
                clear hs
                (have ga := lit_sl wr [1] (by decide) (fr := (0, 0)); go_wp2_with (first | (at_builtin; refine wpList_appB rfl (.tmp 198) (.tmp 199) rfl w1.heap.size (.slice A2 k c2) (.slice (some ⟨(wr).heap.size, 0, none⟩) 1 1) lb [1] rfl rfl (S12.out.c.alloc _) (by exact ga) (by have := LB.out; simp; omega) (by have := S12.out.b.size; simp; omega) ?_; intro vd w13 ho1 hg1; have hbe := hid (OwnB.grown (S12.out.b.alloc S12.out.b.size _) (S12.out.c.alloc _) (Nat.le_refl _) (by have := S12.out.b.size; simp; omega) hg1); obtain ⟨A4, c4, e4⟩ := ho1.form; rw [List.length_append, LB.out] at e4; subst e4; clear ho1 hg1 ga) | (go_at_call 18; refine Calls.mono (AddMul_shape _ _ _ _ _ _ _ _ (by simp) _) ?_; rintro e w14 ⟨rfl, rfl⟩) | fail); go_ret; exact ⟨rfl, below_then HB.out hbe.out⟩)
end Go.Proofs.Ytgfnfjnjlogpkaa
