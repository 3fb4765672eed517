
/- The walks of package gf. -/
import Derived.Test.YtkklonldplekcaaRows
import Derived.Test.YtkklonldplekcaaLib
import Derived.Test.YtkklonldplekcaaGfM
import Derived.KernelRfl
namespace Go.Proofs.Ytkklonldplekcaa
open Go.RowKit

/-- a field's cells -/
def fcells (p : Int) (e : Nat → UInt8) (l : Nat → Int) : Array Value :=
  arr 767 fun i => if i = 0 then .int .i64 p else if i < 511 then B (e (i - 1)) else .int .i64 (l (i - 511))
theorem fcells_start (p : Int) : (Try.prog.built 118 [(0, .int .i64 p)]) = some (fcells p (fun _ => 0) (fun _ => 0)) := by kernel_rfl
theorem fcells_poly (p : Int) (e : Nat → UInt8) (l : Nat → Int) : (fcells p e l)[0]? = some (.int .i64 p) := by
  unfold fcells; rw [arr_get _ _ _ (by omega)]; rfl
theorem fcells_exp (p : Int) (e : Nat → UInt8) (l : Nat → Int) (i : Nat) (hi : i < 510) : (fcells p e l)[1 + i]? = some (B (e i)) := by
  unfold fcells; rw [arr_get _ _ _ (by omega), if_neg (by omega), if_pos (by omega), show 1 + i - 1 = i by omega]
theorem fcells_log (p : Int) (e : Nat → UInt8) (l : Nat → Int) (i : Nat) (hi : i < 256) : (fcells p e l)[511 + i]? = some (.int .i64 (l i)) := by
  unfold fcells; rw [arr_get _ _ _ (by omega), if_neg (by omega), if_neg (by omega), show 511 + i - 511 = i by omega]
theorem fcells_setexp (p : Int) (e : Nat → UInt8) (l : Nat → Int) (i : Nat) (hi : i < 510) (b : UInt8) : (fcells p e l).setIfInBounds (1 + i) (B b) = fcells p (fun j => if j = i then b else e j) l := by
  unfold fcells; rw [arr_set]
  apply arr_congr
  intro j hj
  by_cases h : j = 1 + i
  · subst h
    simp only [if_true]
    rw [if_neg (by omega), if_pos (by omega), if_pos (by omega)]
  · rw [if_neg h]
    by_cases h0 : j = 0
    · rw [if_pos h0, if_pos h0]
    · rw [if_neg h0, if_neg h0]
      by_cases h1 : j < 511
      · rw [if_pos h1, if_pos h1]; dsimp only; rw [if_neg (by omega)]
      · rw [if_neg h1, if_neg h1]
theorem fcells_setlog (p : Int) (e : Nat → UInt8) (l : Nat → Int) (i : Nat) (hi : i < 256) (n : Int) : (fcells p e l).setIfInBounds (511 + i) (.int .i64 n) = fcells p e (fun j => if j = i then n else l j) := by
  unfold fcells; rw [arr_set]
  apply arr_congr
  intro j hj
  by_cases h : j = 511 + i
  · subst h
    simp only [if_true]
    rw [if_neg (by omega), if_neg (by omega), if_pos (by omega)]
  · rw [if_neg h]
    by_cases h0 : j = 0
    · rw [if_pos h0, if_pos h0]
    · rw [if_neg h0, if_neg h0]
      by_cases h1 : j < 511
      · rw [if_pos h1, if_pos h1]
      · rw [if_neg h1, if_neg h1]; dsimp only; rw [if_neg (by omega)]

/-- the field of x^8 + q lies at block g -/
structure FieldAt (w : World) (g : Nat) (q : UInt8) : Prop where
  ex : ∃ e l, w.heap[g]? = some (.cells (fcells (256 + (q.toNat : Int)) e l) 118 (0, 0)) ∧ (∀ i, i < 510 → e i = Gf.pw q i) ∧ (∀ i, i < 255 → l (Gf.pw q i).toNat = (i : Int))
  gen : Gf.Gen q

theorem wpList_field {w : World} {ops : Array Oper} {rest : List Oper} {o : Oper} {a : Act} {Q : Exit → Act → World → Prop} (hg : o.guard = none) (x : Operand) (ho : o.op = .build 118 #[(0, x)]) (p : Int) (hx : a.eval x = .int .i64 p)
    (h : wpList Try.prog ops Q rest (a.put o.dst (.agg (fcells p (fun _ => 0) (fun _ => 0)))) w) : wpList Try.prog ops Q (o :: rest) a w := by
  have e : Try.prog.built 118 ((#[(0, x)] : Array (Nat × Operand)).map fun (i, x) => (i, a.eval x)).toList = some (fcells p (fun _ => 0) (fun _ => 0)) := by
    simp only [List.map_toArray, List.map_cons, List.map_nil, hx]
    exact fcells_start p
  exact wpList_build hg _ _ ho (by rw [e]; rfl) (by rw [e]; exact h)

attribute [irreducible] fcells

theorem xor_i64 (a b : Nat) (ha : a < 2 ^ 62) (hb : b < 2 ^ 62) : bits .xor .i64 (a : Int) (b : Int) = ((a ^^^ b : Nat) : Int) := by
  have hx : a ^^^ b < 2 ^ 62 := Nat.xor_lt_two_pow ha hb
  show IntKind.i64.wrap ((BitVec.ofInt 64 (a : Int) ^^^ BitVec.ofInt 64 (b : Int)).toNat : Int) = _
  rw [BitVec.toNat_xor, BitVec.ofInt_natCast, BitVec.ofInt_natCast, BitVec.toNat_ofNat, BitVec.toNat_ofNat, Nat.mod_eq_of_lt (by omega), Nat.mod_eq_of_lt (by omega), IntKind.wrap_i64]
  omega
theorem nx_small (q a : UInt8) (h : 2 * a.toNat < 256) : (a.toNat : Int) * 2 = ((Gf.xt q a).toNat : Int) := by
  rw [Gf.xt_nat]; simp only [Gf.nx]; rw [if_pos h]; omega
theorem nx_big (q a : UInt8) (h : ¬ 2 * a.toNat < 256) : bits .xor .i64 ((a.toNat : Int) * 2) (256 + (q.toNat : Int)) = ((Gf.xt q a).toNat : Int) := by
  rw [Gf.xt_nat]; simp only [Gf.nx]; rw [if_neg h]
  have := xor_i64 (2 * a.toNat) (256 + q.toNat) (by have := a.toNat_lt; omega) (by have := q.toNat_lt; omega)
  rw [← this]
  congr 1; omega
/-- the loop's state: powers up to k (twice round up to k2), logarithms up to k3 -/
def NewSt (q : UInt8) (g : Nat) (w0 : World) (k k2 k3 : Nat) (wr : World) : Prop :=
  ∃ e l, wr.heap[g]? = some (.cells (fcells (256 + (q.toNat : Int)) e l) 118 (0, 0)) ∧ (∀ j, j < k → e j = Gf.pw q j) ∧ (∀ j, j < k2 → e (j + 255) = Gf.pw q j) ∧
    (∀ j, j < k3 → ∃ i, i < k3 ∧ l (Gf.pw q j).toNat = (i : Int) ∧ Gf.pw q i = Gf.pw q j) ∧ Below w0.heap.size w0 wr ∧ w0.heap.size ≤ g
theorem NewSt.exp {q : UInt8} {g : Nat} {w0 wr : World} {k : Nat} (h : NewSt q g w0 k k k wr) (hk : k < 255) : NewSt q g w0 (k + 1) k k (wr.setCell ⟨g, 1 + k, none⟩ (B (Gf.pw q k))) := by
  obtain ⟨e, l, hg, he, he2, hl, hb, hw⟩ := h
  have hg1 := blk_set hg (1 + k) (B (Gf.pw q k))
  rw [fcells_setexp _ _ _ _ (by omega)] at hg1
  refine ⟨_, _, hg1, fun j hj => ?_, fun j hj => ?_, hl, below_set hb hw _ _, hw⟩
  · by_cases h : j = k
    · subst h; rw [if_pos rfl]
    · rw [if_neg h]; exact he j (by omega)
  · rw [if_neg (by omega)]; exact he2 j hj
theorem NewSt.exp2 {q : UInt8} {g : Nat} {w0 wr : World} {k : Nat} (h : NewSt q g w0 (k + 1) k k wr) (hk : k < 255) : NewSt q g w0 (k + 1) (k + 1) k (wr.setCell ⟨g, 1 + (k + 255), none⟩ (B (Gf.pw q k))) := by
  obtain ⟨e, l, hg, he, he2, hl, hb, hw⟩ := h
  have hg1 := blk_set hg (1 + (k + 255)) (B (Gf.pw q k))
  rw [fcells_setexp _ _ _ _ (by omega)] at hg1
  refine ⟨_, _, hg1, fun j hj => ?_, fun j hj => ?_, hl, below_set hb hw _ _, hw⟩
  · rw [if_neg (by omega)]; exact he j hj
  · by_cases h : j = k
    · subst h; rw [if_pos rfl]
    · rw [if_neg (by omega)]; exact he2 j (by omega)
theorem NewSt.log {q : UInt8} {g : Nat} {w0 wr : World} {k : Nat} (h : NewSt q g w0 (k + 1) (k + 1) k wr) : NewSt q g w0 (k + 1) (k + 1) (k + 1) (wr.setCell ⟨g, 511 + (Gf.pw q k).toNat, none⟩ (.int .i64 (k : Int))) := by
  obtain ⟨e, l, hg, he, he2, hl, hb, hw⟩ := h
  have hlt := (Gf.pw q k).toNat_lt
  have hg1 := blk_set hg (511 + (Gf.pw q k).toNat) (.int .i64 (k : Int))
  rw [fcells_setlog _ _ _ _ (by omega)] at hg1
  refine ⟨_, _, hg1, he, he2, fun j hj => ?_, below_set hb hw _ _, hw⟩
  by_cases h : (Gf.pw q j).toNat = (Gf.pw q k).toNat
  · rw [if_pos h]; exact ⟨k, by omega, rfl, (UInt8.toNat_inj.1 h).symm⟩
  · rw [if_neg h]
    have hjk : j ≠ k := fun e => h (by rw [e])
    obtain ⟨i, hi, h1, h2⟩ := hl j (by omega)
    exact ⟨i, by omega, h1, h2⟩
theorem NewSt.cells {q : UInt8} {g : Nat} {w0 wr : World} {k k2 k3 : Nat} (h : NewSt q g w0 k k2 k3 wr) (i : Nat) (hi : i < 767) : (∃ v, wr.cell? ⟨g, i, none⟩ = some v) ∧ wr.frozen? ⟨g, i, none⟩ = false := by
  obtain ⟨e, l, hg, _⟩ := h
  refine ⟨?_, blk_frozen hg i⟩
  rw [blk_cell hg]
  exact ⟨_, Array.getElem?_eq_getElem (by simp [fcells, arr_size]; omega)⟩

set_option maxRecDepth 100000 in
set_option maxHeartbeats 1000000 in
theorem New_gen (q : UInt8) (hq : Gf.Gen q) (w : World) :
    Calls Try.prog 68 #[.int .i64 (256 + (q.toNat : Int))] w fun e w' => ∃ g, e = .returned (.tuple #[.pointer (some ⟨g, 0, none⟩), .int .i64 0]) ∧ g = w.heap.size ∧ FieldAt w' g q ∧ Below w.heap.size w w' := by
  have hb := q.toNat_lt
  have HQ := hid hq
  clear hq
  go_enter Try.func68, Try.ntmps68
  go_wp2_with (refine wpList_field rfl (.tmp 13) rfl _ rfl ?_)
  obtain ⟨g, hgw⟩ : ∃ g, g = w.heap.size := ⟨_, rfl⟩
  simp only [← hgw]
  go_loopw [5, 16] (fun x i wr => ∃ k : Nat, k ≤ 255 ∧ i = .int .i64 k ∧ x = .int .i64 ((Gf.pw q k).toNat : Int) ∧ NewSt q g w k k k wr) (fun _ i _ => 255 - (intOf i).toNat)
  case atStart => exact ⟨0, Nat.zero_le _, rfl, rfl, _, _, by rw [hgw]; exact heap_alloc_new _ _, fun j h => absurd h (by omega), fun j h => absurd h (by omega), fun j h => absurd h (by omega), (Below.refl _ _).alloc (Nat.le_refl _) _, by omega⟩
  case round =>
    obtain ⟨k, hk, rfl, rfl, hst⟩ := hrel
    have HST := hid hst
    have HG := hid hgw
    clear hst hgw
    by_cases hlt : k < 255
    · have z0 : (((Gf.pw q k).toNat : Int) == 0) = false := by
        rw [beq_eq_false_iff_ne]; intro h
        exact Gf.pw_ne HQ.out k (UInt8.toNat_inj.1 (by simpa using h))
      have z1 : 0 < k → (((Gf.pw q k).toNat : Int) == 1) = false := fun h0 => by
        rw [beq_eq_false_iff_ne]; intro h
        exact (HQ.out.1 k h0 hlt).2 (UInt8.toNat_inj.1 (by simp at h ⊢; omega))
      have S1 := hid (HST.out.exp hlt)
      have S0 := hid HST.out.cells
      have HP : Hid (Gf.pw q (k + 1) = Gf.xt q (Gf.pw q k)) := Gf.it_succ q k 1
      have S2 := hid (fun w1 => NewSt.exp2 (q := q) (g := g) (w0 := w) (wr := w1) (k := k))
      have S3 := hid (fun w1 => NewSt.log (q := q) (g := g) (w0 := w) (wr := w1) (k := k))
      generalize Gf.pw q k = x at *
      have xlt := x.toNat_lt
      clear HST
      rcases Nat.eq_zero_or_pos k with h0 | h0
      case' inl =>
        have hk0 : k < 1 := by omega
        clear h0
      case' inr => replace z1 := z1 h0
      all_goals
        obtain ⟨⟨v0, hc⟩, hf⟩ := S0.out (1 + k) (by omega)
        go_upto_region 11 with (fail)
        refine Code.seen (NewSt q g w (k + 1) k k) S1.out fun w1 T1 => ?_
        clear hc hf S1
        obtain ⟨⟨v1, hc⟩, hf⟩ := T1.out.cells (1 + (k + 255)) (by omega)
        go_upto_region 12 with (fail)
        refine Code.seen (NewSt q g w (k + 1) (k + 1) k) (S2.out _ T1.out hlt) fun w2 T2 => ?_
        clear hc hf S2 T1
        obtain ⟨⟨v2, hc⟩, hf⟩ := T2.out.cells (511 + x.toNat) (by omega)
        go_upto_region 13 with (fail)
        refine Code.seen (NewSt q g w (k + 1) (k + 1) (k + 1)) (S3.out _ T2.out) fun w3 T3 => ?_
        clear hc hf S3 T2 S0
        by_cases hs : 2 * x.toNat < 256
        · have hx := nx_small q x hs
          go_wp2
          go_roundw
          case rel => exact ⟨k + 1, by omega, by go_num, by rw [HP.out], T3.out⟩
          case measure => simp [intOf]; omega
        · have hx := nx_big q x hs
          go_wp2
          go_roundw
          case rel => exact ⟨k + 1, by omega, by go_num, by rw [HP.out], T3.out⟩
          case measure => simp [intOf]; omega
    · have hx : Gf.pw q k = 1 := by rw [show k = 255 by omega]; exact HQ.out.2
      rw [hx]
      have hge : 255 ≤ k := by omega
      clear hx hlt
      go_wp2
      go_ret2
      refine ⟨g, rfl, HG.out, ⟨?_, HQ.out⟩, ?_⟩
      · obtain ⟨e, l, hg, he, he2, hl, hb, hw⟩ := HST.out
        refine ⟨e, l, hg, fun i hi => ?_, fun i hi => ?_⟩
        · rcases Nat.lt_or_ge i 255 with h | h
          · exact he i (by omega)
          · obtain ⟨j, rfl⟩ : ∃ j, i = j + 255 := ⟨i - 255, by omega⟩
            rw [he2 j (by omega), Gf.pw_period HQ.out]
        · obtain ⟨j, hj, h1, h2⟩ := hl i (by omega)
          have := Gf.pw_inj HQ.out (by omega) hi h2
          rw [h1, this]
      · obtain ⟨e, l, hg, he, he2, hl, hb, hw⟩ := HST.out
        exact hb

theorem FieldAt.below {w w' : World} {g B : Nat} {q : UInt8} (h : FieldAt w g q) (hb : Below B w w') (hg : g < B) : FieldAt w' g q := by
  obtain ⟨⟨e, l, hx, r⟩, hgen⟩ := h
  exact ⟨⟨e, l, (hb.block g hg).trans hx, r⟩, hgen⟩
theorem FieldAt.lt {w : World} {g : Nat} {q : UInt8} (h : FieldAt w g q) : g < w.heap.size := by
  obtain ⟨⟨e, l, hx, r⟩, hgen⟩ := h; exact blk_lt hx
theorem FieldAt.next {w w' : World} {g : Nat} {q : UInt8} (h : FieldAt w g q) (hb : Below w.heap.size w w') : FieldAt w' g q := h.below hb h.lt
theorem FieldAt.drewN {w : World} {g : Nat} {q : UInt8} (h : FieldAt w g q) (n : Nat) : FieldAt (w.drewN n) g q := ⟨h.ex, h.gen⟩
theorem FieldAt.any {w w' : World} {g : Nat} {q : UInt8} (h : FieldAt w g q) (hh : w'.heap = w.heap) : FieldAt w' g q := ⟨by rw [hh]; exact h.ex, h.gen⟩
theorem FieldAt.poly {w : World} {g : Nat} {q : UInt8} (h : FieldAt w g q) : w.cell? ⟨g, 0, none⟩ = some (.int .i64 (256 + (q.toNat : Int))) := by
  obtain ⟨e, l, hx, _⟩ := h.ex; rw [blk_cell hx, fcells_poly]
theorem FieldAt.exp {w : World} {g : Nat} {q : UInt8} (h : FieldAt w g q) (i : Nat) (hi : i < 510) : w.cell? ⟨g, 1 + i, none⟩ = some (B (Gf.pw q i)) := by
  obtain ⟨e, l, hx, he, _⟩ := h.ex; rw [blk_cell hx, fcells_exp _ _ _ _ hi, he i hi]
theorem FieldAt.log {w : World} {g : Nat} {q : UInt8} (h : FieldAt w g q) (i : Nat) (hi : i < 255) : w.cell? ⟨g, 511 + (Gf.pw q i).toNat, none⟩ = some (.int .i64 (i : Int)) := by
  obtain ⟨e, l, hx, he, hl⟩ := h.ex; rw [blk_cell hx, fcells_log _ _ _ _ (UInt8.toNat_lt _), hl i hi]
theorem u8_ne0 {a : UInt8} (h : a ≠ 0) : ((a.toNat : Int) == 0) = false := by
  rw [beq_eq_false_iff_ne]; intro e; exact h (UInt8.toNat_inj.1 (by simpa using e))

theorem Add_any (a b : UInt8) (w : World) : Calls Try.prog 82 #[B a, B b] w fun e w' => e = .returned (B (a ^^^ b)) ∧ w' = w := by
  have h : bits .xor .u8 (a.toNat : Int) (b.toNat : Int) = ((a ^^^ b).toNat : Int) := by rw [u8_xor_nat _ _ (UInt8.toNat_lt a) (UInt8.toNat_lt b), UInt8.toNat_xor]
  have H := hid h
  clear h
  go_enter Try.func82, Try.ntmps82
  go_wp2
  go_ret
  exact ⟨congrArg (fun n => Ending.returned (.int .u8 n)) H.out, rfl⟩

set_option maxHeartbeats 1000000 in
theorem Mul_any (g : Nat) (q a b : UInt8) (w : World) (h : FieldAt w g q) :
    Calls Try.prog 37 #[.pointer (some ⟨g, 0, none⟩), B a, B b] w fun e w' => e = .returned (B (Gf.mul q a b)) ∧ ∃ n, w' = w.drewN n := by
  by_cases ha : a = 0
  · subst ha
    rw [Gf.zero_mul]
    clear h
    go_enter Try.func37, Try.ntmps37
    go_wp2
    go_ret
    exact ⟨rfl, 0, rfl⟩
  · have za := u8_ne0 ha
    by_cases hb : b = 0
    · subst hb
      rw [Gf.mul_zero]
      clear h ha
      go_enter Try.func37, Try.ntmps37
      go_wp2
      go_ret
      exact ⟨rfl, 0, rfl⟩
    · have zb := u8_ne0 hb
      obtain ⟨i, hi, e1⟩ := Gf.pw_surj h.gen a ha
      obtain ⟨j, hj, e2⟩ := Gf.pw_surj h.gen b hb
      have ca := h.log i hi
      have cb := h.log j hj
      have ce := h.exp (i + j) (by omega)
      rw [← Gf.pw_add, e1, e2] at ce
      rw [e1] at ca
      rw [e2] at cb
      have a1 := a.toNat_lt
      have b1 := b.toNat_lt
      have i1 : (i : Int) + (j : Int) < 510 := by omega
      have i0 : (0 : Int) ≤ (i : Int) + (j : Int) := by omega
      generalize Gf.mul q a b = m at *
      clear h ha hb e1 e2
      go_enter Try.func37, Try.ntmps37
      go_wp2
      go_quiet (fail)
      go_wp2
      go_ret
      exact ⟨rfl, _, rfl⟩

theorem Mul_nil (a b : UInt8) (w : World) : Calls Try.prog 37 #[.pointer none, B a, B b] w fun e w' => e = .returned (B 0) ∧ w' = w := by
  go_enter Try.func37, Try.ntmps37
  go_wp2
  go_ret
  exact ⟨rfl, rfl⟩
theorem Poly_any (g : Nat) (q : UInt8) (w : World) (h : FieldAt w g q) :
    Calls Try.prog 69 #[.pointer (some ⟨g, 0, none⟩)] w fun e w' => e = .returned (.int .i64 (256 + (q.toNat : Int))) ∧ w' = w := by
  have hc := h.poly
  clear h
  go_enter Try.func69, Try.ntmps69
  go_wp2
  go_ret
  exact ⟨rfl, rfl⟩
set_option maxHeartbeats 1000000 in
theorem Inv_any (g : Nat) (q a b : UInt8) (hab : Gf.mul q a b = 1) (w : World) (h : FieldAt w g q) :
    Calls Try.prog 81 #[.pointer (some ⟨g, 0, none⟩), B a] w fun e w' => e = .returned (.tuple #[B b, .int .i64 0]) ∧ ∃ n, w' = w.drewN n := by
  have ha : a ≠ 0 := fun e => by rw [e, Gf.zero_mul] at hab; exact absurd hab (by decide)
  have za := u8_ne0 ha
  obtain ⟨i, hi, e1⟩ := Gf.pw_surj h.gen a ha
  obtain ⟨k, hk⟩ : ∃ k, k + i = 255 := ⟨255 - i, by omega⟩
  have eb : Gf.pw q k = b := Gf.inv_unique (a := a) (by rw [← e1, Gf.pw_add, show i + k = 255 by omega]; exact h.gen.2) hab
  have ca := h.log i hi
  have ce := h.exp k (by omega)
  rw [eb] at ce
  rw [e1] at ca
  have a1 := a.toNat_lt
  have hs : (255 : Int) - (i : Int) = (k : Int) := by omega
  have k1 : k < 510 := by omega
  have hi1 : i < 255 := hi
  clear h ha eb e1 hab hk
  go_enter Try.func81, Try.ntmps81
  go_wp2
  go_quiet (fail)
  go_wp2
  go_ret2
  exact ⟨rfl, _, rfl⟩
theorem Inv_zero (g : Nat) (w : World) :
    Calls Try.prog 81 #[.pointer (some ⟨g, 0, none⟩), B 0] w fun e w' => e = .returned (.tuple #[.int .u8 0, .int .i64 10]) ∧ w' = w := by
  go_enter Try.func81, Try.ntmps81
  go_wp2
  go_ret2
  exact ⟨rfl, rfl⟩
theorem Inv_nil (a : UInt8) (w : World) :
    Calls Try.prog 81 #[.pointer none, B a] w fun e w' => e = .returned (.tuple #[.int .u8 0, .int .i64 0]) ∧ w' = w := by
  go_enter Try.func81, Try.ntmps81
  go_wp2
  go_ret2
  exact ⟨rfl, rfl⟩
theorem Div_any (g : Nat) (q a b c : UInt8) (hbc : Gf.mul q b c = 1) (w : World) (h : FieldAt w g q) :
    Calls Try.prog 46 #[.pointer (some ⟨g, 0, none⟩), B a, B b] w fun e w' => e = .returned (.tuple #[B (Gf.mul q a c), .int .i64 0]) ∧ ∃ n, w' = w.drewN n := by
  have H := hid h
  clear h
  go_enter Try.func46, Try.ntmps46
  go_wp2_with fail
  refine (Inv_any g q b c hbc w H.out).mono ?_
  rintro e w' ⟨rfl, n, rfl⟩
  go_wp2_with fail
  refine (Mul_any g q a c _ (H.out.drewN n)).mono ?_
  rintro e w' ⟨rfl, m, rfl⟩
  go_wp2
  go_ret2
  exact ⟨rfl, n + m, by simp⟩
theorem Div_zero (g : Nat) (a : UInt8) (w : World) :
    Calls Try.prog 46 #[.pointer (some ⟨g, 0, none⟩), B a, B 0] w fun e w' => e = .returned (.tuple #[.int .u8 0, .int .i64 10]) ∧ w' = w := by
  go_enter Try.func46, Try.ntmps46
  go_wp2_with fail
  refine (Inv_zero g w).mono ?_
  rintro e w' ⟨rfl, rfl⟩
  go_wp2
  go_ret2
  exact ⟨rfl, rfl⟩
theorem Div_nil (a b : UInt8) (w : World) :
    Calls Try.prog 46 #[.pointer none, B a, B b] w fun e w' => e = .returned (.tuple #[.int .u8 0, .int .i64 0]) ∧ w' = w := by
  go_enter Try.func46, Try.ntmps46
  go_wp2_with fail
  refine (Inv_nil b w).mono ?_
  rintro e w' ⟨rfl, rfl⟩
  go_wp2
  go_ret2
  exact ⟨rfl, rfl⟩
theorem Poly_nil (w : World) :
    Calls Try.prog 69 #[.pointer none] w fun e w' => e = .returned (.int .i64 0) ∧ w' = w := by
  go_enter Try.func69, Try.ntmps69
  go_wp2
  go_ret
  exact ⟨rfl, rfl⟩
/-- sums of products, of the first k places -/
def dotN (q : UInt8) (l m : List UInt8) : Nat → UInt8
  | 0 => 0
  | k + 1 => dotN q l m k ^^^ Gf.mul q (l.getD k 0) (m.getD k 0)
theorem xor8 (a b : UInt8) : bits .xor .u8 (a.toNat : Int) (b.toNat : Int) = ((a ^^^ b).toNat : Int) := by
  rw [u8_xor_nat _ _ (UInt8.toNat_lt a) (UInt8.toNat_lt b), UInt8.toNat_xor]
set_option maxHeartbeats 1000000 in
theorem Dot_any (g : Nat) (q : UInt8) (u v : Value) (l m : List UInt8) (w : World) (h : FieldAt w g q) (hu : SlB w u l) (hv : SlB w v m) (hlm : l.length = m.length) (hlen : l.length ≤ 281474976710656) :
    Calls Try.prog 73 #[.pointer (some ⟨g, 0, none⟩), u, v] w fun e w' => e = .returned (.tuple #[B (dotN q l m l.length), .int .i64 0]) ∧ ∃ n, w' = w.drewN n := by
  obtain ⟨A, c, rfl, hc, _, hA⟩ := hu
  obtain ⟨A1, c1, rfl, hc1, _, hA1⟩ := hv
  rw [← hlm] at hA1 hc1 ⊢
  have H := hid h
  have HA := hid hA
  have HA1 := hid hA1
  have HLM := hid hlm
  clear h hA hA1 hlm
  go_enter Try.func73, Try.ntmps73
  go_wp2
  go_loopw [8, 20] (fun x i wr => ∃ (k : Nat) (n : Nat), k ≤ l.length ∧ i = .int .i64 k ∧ x = B (dotN q l m k) ∧ wr = w.drewN n) (fun _ i _ => l.length - (intOf i).toNat)
  case atStart => exact ⟨0, 0, Nat.zero_le _, rfl, rfl, rfl⟩
  case round =>
    obtain ⟨k, n, hk, rfl, rfl, rfl⟩ := hrel
    by_cases hlt : k < l.length
    · have HS : Hid (dotN q l m (k + 1) = dotN q l m k ^^^ Gf.mul q (l.getD k 0) (m.getD k 0)) := rfl
      generalize dotN q l m k = x at *
      obtain ⟨b, o, rfl, h1⟩ := HA.out (by omega)
      obtain ⟨b1, o1, rfl, h2⟩ := HA1.out (by omega)
      replace h1 := h1 k hlt
      replace h2 := h2 k hlt
      generalize l.getD k 0 = y at *
      generalize m.getD k 0 = z at *
      go_wp2_with (go_at_call 37; refine (Mul_any g q y z _ (H.out.drewN n)).mono ?_; rintro e w' ⟨rfl, n2, rfl⟩)
      go_roundw
      case rel => exact ⟨k + 1, n + n2, by omega, by go_num, by rw [HS.out, xor8], by simp⟩
      case measure => simp [intOf]; omega
    · obtain rfl : k = l.length := by omega
      go_wp2
      go_ret2
      exact ⟨rfl, n, rfl⟩
theorem Dot_shape (g : Nat) (A A1 : Option Addr) (n n1 c c1 : Nat) (hn : n ≠ n1) (_ : n ≤ 281474976710656) (_ : n1 ≤ 281474976710656) (w : World) :
    Calls Try.prog 73 #[.pointer (some ⟨g, 0, none⟩), .slice A n c, .slice A1 n1 c1] w fun e w' => e = .returned (.tuple #[.int .u8 0, .int .i64 12]) ∧ w' = w := by
  have hb : ((n : Int) != (n1 : Int)) = true := by rw [bne_iff_ne]; omega
  clear hn
  go_enter Try.func73, Try.ntmps73
  go_wp2
  go_ret2
  exact ⟨rfl, rfl⟩
theorem Dot_nil (u v : Value) (w : World) :
    Calls Try.prog 73 #[.pointer none, u, v] w fun e w' => e = .returned (.tuple #[.int .u8 0, .int .i64 0]) ∧ w' = w := by
  go_enter Try.func73, Try.ntmps73
  go_wp2
  go_ret2
  exact ⟨rfl, rfl⟩

/-- a polynomial's value from place k on: its coefficients from the lowest -/
def evalFrom (q x : UInt8) : List UInt8 → UInt8
  | [] => 0
  | a :: l => Gf.mul q (evalFrom q x l) x ^^^ a
end Go.Proofs.Ytkklonldplekcaa
