/- Vandermonde and Cauchy; a row that stands alone. No program in sight. -/
import Derived.Test.YtkklonldplekcaaMxI
import Derived.Test.YtkklonldplekcaaGfRootsM
namespace Go.Proofs.Ytkklonldplekcaa
namespace Mx
open Gf
def pwr (q x : UInt8) : Nat → UInt8
  | 0 => 1
  | j + 1 => mul q (pwr q x j) x
theorem pwr_one_add (q x : UInt8) : ∀ j, pwr q x (1 + j) = mul q (pwr q x j) x := fun j => by rw [Nat.add_comm]; rfl
theorem eval_sm (q x : UInt8) : ∀ l : List UInt8, evalFrom q x l = sm l.length fun j => mul q (pwr q x j) (l.getD j 0)
  | [] => rfl
  | a :: l => by
    rw [List.length_cons, Nat.add_comm, sm_split]
    have e1 : sm 1 (fun j => mul q (pwr q x j) ((a :: l).getD j 0)) = a := by simp [sm, pwr, mul_one']
    have e2 : (sm l.length fun i => mul q (pwr q x (1 + i)) ((a :: l).getD (1 + i) 0)) = mul q (evalFrom q x l) x := by
      rw [eval_sm q x l, sm_mul]
      refine sm_congr _ fun j _ => ?_
      rw [pwr_one_add, Nat.add_comm 1 j]
      show mul q (mul q (pwr q x j) x) (l.getD j 0) = _
      rw [mul_assoc, mul_comm q x, ← mul_assoc]
    rw [e1, e2, UInt8.xor_comm]
    rfl
theorem nat_of (x : UInt8) : UInt8.ofNat x.toNat = x := by simp
/-- as many unlike zeros as coefficients: all are 0 -/
theorem all_zero {q : UInt8} (g : Gen q) (p : List UInt8) (n : Nat) (hp : p.length = n) (x : Nat → UInt8) (hx : ∀ i j, i < n → j < n → x i = x j → i = j) (h : ∀ i, i < n → evalFrom q (x i) p = 0) : ∀ b ∈ p, b = 0 := by
  refine fun b hb => Classical.byContradiction fun hne => ?_
  have := roots_le g n p ((List.range n).map fun i => (x i).toNat) hp ⟨b, hb, hne⟩ (by
    rw [List.Nodup, List.pairwise_map]
    refine List.Pairwise.imp_of_mem ?_ (List.nodup_range (n := n))
    intro i j hi hj hij e
    exact hij (hx i j (by simpa using hi) (by simpa using hj) (UInt8.toNat_inj.1 e))) (by
    intro y hy
    obtain ⟨i, hi, rfl⟩ := List.mem_map.1 hy
    exact ⟨UInt8.toNat_lt _, by rw [nat_of]; exact h i (by simpa using hi)⟩)
  simp at this
theorem vander_null {q : UInt8} (g : Gen q) (n : Nat) (p : Nat → UInt8) (hp : ∀ i j, i < n → j < n → p i = p j → i = j) (c : Nat → UInt8) (h : Null q (fun i j => pwr q (p i) j) n n c) : ∀ j, j < n → c j = 0 := by
  have hl : ((List.range n).map c).length = n := by simp
  have hz := all_zero g ((List.range n).map c) n hl p hp fun i hi => by
    rw [eval_sm, hl, ← h i hi]
    exact sm_congr n fun j hj => by simp [hj]
  intro j hj
  exact hz _ (List.mem_map.2 ⟨j, by simpa using hj, rfl⟩)
/-- a function that d coefficients make -/
def PolyFn (q : UInt8) (d : Nat) (f : UInt8 → UInt8) : Prop := ∃ p : List UInt8, p.length = d ∧ ∀ x, f x = evalFrom q x p
theorem PolyFn.zero (q : UInt8) (d : Nat) : PolyFn q d fun _ => 0 := ⟨List.replicate d 0, by simp, fun x => (eval_null x _ fun b hb => (List.mem_replicate.1 hb).2).symm⟩
theorem PolyFn.add {q : UInt8} {d : Nat} {f g : UInt8 → UInt8} (hf : PolyFn q d f) (hg : PolyFn q d g) : PolyFn q d fun x => f x ^^^ g x := by
  obtain ⟨p, hp, h1⟩ := hf
  obtain ⟨r, hr, h2⟩ := hg
  exact ⟨List.zipWith (· ^^^ ·) p r, by rw [List.length_zipWith, hp, hr, Nat.min_self], fun x => by show f x ^^^ g x = _; rw [eval_sum x p r (by rw [hp, hr]), h1, h2]⟩
theorem eval_map (q c x : UInt8) : ∀ p : List UInt8, evalFrom q x (p.map (mul q c)) = mul q c (evalFrom q x p)
  | [] => (mul_zero q c).symm
  | a :: l => by simp only [List.map_cons, evalFrom]; rw [eval_map q c x l, mul_xor, mul_assoc]
theorem PolyFn.scale {q : UInt8} {d : Nat} {f : UInt8 → UInt8} (c : UInt8) (hf : PolyFn q d f) : PolyFn q d fun x => mul q c (f x) := by
  obtain ⟨p, hp, h1⟩ := hf
  exact ⟨p.map (mul q c), by simpa using hp, fun x => by show mul q c (f x) = _; rw [eval_map, h1]⟩
theorem eval_snoc0 (q x : UInt8) : ∀ p : List UInt8, evalFrom q x (p ++ [0]) = evalFrom q x p
  | [] => by simp [evalFrom, zero_mul]
  | a :: l => by simp only [List.cons_append, evalFrom]; rw [eval_snoc0 q x l]
theorem PolyFn.more {q : UInt8} {d : Nat} {f : UInt8 → UInt8} (hf : PolyFn q d f) : PolyFn q (d + 1) f := by
  obtain ⟨p, hp, h1⟩ := hf
  exact ⟨p ++ [0], by simp [hp], fun x => by rw [eval_snoc0, h1]⟩
theorem PolyFn.mulx {q : UInt8} {d : Nat} {f : UInt8 → UInt8} (y : UInt8) (hf : PolyFn q d f) : PolyFn q (d + 1) fun x => mul q (f x) (x ^^^ y) := by
  have h2 : PolyFn q (d + 1) fun x => mul q y (f x) := (hf.scale y).more
  obtain ⟨p, hp, h1⟩ := hf
  have h3 : PolyFn q (d + 1) fun x => mul q (f x) x := ⟨0 :: p, by simp [hp], fun x => by simp [evalFrom, h1]⟩
  have h4 := h3.add h2
  have e : (fun x => mul q (f x) (x ^^^ y)) = fun x => mul q (f x) x ^^^ mul q y (f x) := by
    funext x
    rw [mul_xor, mul_comm q y]
  rw [e]
  exact h4
theorem PolyFn.null {q : UInt8} (g : Gen q) {d : Nat} {f : UInt8 → UInt8} (hf : PolyFn q d f) (x : Nat → UInt8) (hx : ∀ i j, i < d → j < d → x i = x j → i = j) (h : ∀ i, i < d → f (x i) = 0) : ∀ y, f y = 0 := by
  obtain ⟨p, hp, h1⟩ := hf
  have hz := all_zero g p d hp x hx fun i hi => by rw [← h1]; exact h i hi
  intro y
  rw [h1]
  exact eval_null y p hz
def cP (q : UInt8) (y : Nat → UInt8) (x : UInt8) : Nat → UInt8
  | 0 => 1
  | k + 1 => mul q (cP q y x k) (x ^^^ y k)
def cS (q : UInt8) (y c : Nat → UInt8) (x : UInt8) : Nat → UInt8
  | 0 => 0
  | k + 1 => mul q (cS q y c x k) (x ^^^ y k) ^^^ mul q (c k) (cP q y x k)
theorem cP_poly (q : UInt8) (y : Nat → UInt8) : ∀ k, PolyFn q (k + 1) fun x => cP q y x k
  | 0 => ⟨[1], rfl, fun x => by simp [evalFrom, cP, zero_mul]⟩
  | k + 1 => (cP_poly q y k).mulx (y k)
theorem cS_poly (q : UInt8) (y c : Nat → UInt8) : ∀ k, PolyFn q k fun x => cS q y c x k
  | 0 => PolyFn.zero q 0
  | k + 1 => ((cS_poly q y c k).mulx (y k)).add ((cP_poly q y k).scale (c k))
theorem cS_sum {q : UInt8} {y c u : Nat → UInt8} {x : UInt8} : ∀ k, (∀ l, l < k → mul q (x ^^^ y l) (u l) = 1) → cS q y c x k = mul q (cP q y x k) (sm k fun j => mul q (u j) (c j))
  | 0, _ => by simp [cS, sm, mul_zero]
  | k + 1, h => by
    have hk := h k (by omega)
    have ih := cS_sum (c := c) k fun l hl => h l (by omega)
    simp only [cS, cP, sm]
    rw [ih]
    generalize x ^^^ y k = X at *
    generalize cP q y x k = P at *
    generalize (sm k fun j => mul q (u j) (c j)) = S at *
    have a1 : mul q (mul q P S) X = mul q (mul q P X) S := by rw [mul_assoc, mul_assoc, mul_comm q S]
    have a2 : mul q (c k) P = mul q (mul q P X) (mul q (u k) (c k)) := by rw [mul_assoc, ← mul_assoc q X, hk, mul_one', mul_comm]
    rw [a1, a2, ← mul_xor]
theorem cP_zero {q : UInt8} {y : Nat → UInt8} {j : Nat} : ∀ k, j < k → cP q y (y j) k = 0
  | 0, h => by omega
  | k + 1, h => by
    simp only [cP]
    by_cases e : j = k
    · subst e; rw [UInt8.xor_self, mul_zero]
    · rw [cP_zero k (by omega), zero_mul]
theorem cP_ne {q : UInt8} (g : Gen q) {y : Nat → UInt8} {x : UInt8} : ∀ k, (∀ l, l < k → x ≠ y l) → cP q y x k ≠ 0
  | 0, _ => by simp [cP]
  | k + 1, h => by
    simp only [cP]
    intro e
    rcases (mul_eq_zero g _ _).1 e with e | e
    · exact cP_ne g k (fun l hl => h l (by omega)) e
    · exact h k (by omega) (xor_eq_zero.1 e)
theorem cS_at {q : UInt8} (g : Gen q) {y c : Nat → UInt8} {j : Nat} : ∀ k, j < k → (∀ a b, a < k → b < k → y a = y b → a = b) → cS q y c (y j) k = 0 → c j = 0
  | 0, h, _, _ => by omega
  | k + 1, h, hy, h0 => by
    simp only [cS] at h0
    by_cases e : j = k
    · subst e
      rw [UInt8.xor_self, mul_zero, UInt8.zero_xor] at h0
      rcases (mul_eq_zero g _ _).1 h0 with e | e
      · exact e
      · exact absurd e (cP_ne g j fun l hl e2 => by have := hy j l (by omega) (by omega) e2; omega)
    · rw [cP_zero k (by omega), mul_zero, UInt8.xor_zero] at h0
      rcases (mul_eq_zero g _ _).1 h0 with e2 | e2
      · exact cS_at g k (by omega) (fun a b ha hb => hy a b (by omega) (by omega)) e2
      · exact absurd (hy j k (by omega) (by omega) (xor_eq_zero.1 e2)) e
/-- a square of inverses of sums of unlike ones -/
theorem cauchy_null {q : UInt8} (g : Gen q) (n : Nat) (x y : Nat → UInt8) (hx : ∀ i j, i < n → j < n → x i = x j → i = j) (hy : ∀ i j, i < n → j < n → y i = y j → i = j) (A : Nat → Nat → UInt8) (hA : ∀ i j, i < n → j < n → mul q (x i ^^^ y j) (A i j) = 1) (c : Nat → UInt8) (h : Null q A n n c) : ∀ j, j < n → c j = 0 := by
  have h0 : ∀ i, i < n → cS q y c (x i) n = 0 := fun i hi => by
    rw [cS_sum (u := fun l => A i l) n fun l hl => hA i l hi hl]
    have := h i hi
    unfold ap at this
    rw [this, mul_zero]
  have hz := (cS_poly q y c n).null g x hx h0
  intro j hj
  exact cS_at g n hj hy (hz (y j))
section
variable {q : UInt8} {r n k k' : Nat} {M : Nat → Nat → UInt8}
/-- a row that is a sum of multiples of the others takes nothing away -/
theorem more_null {B : Nat → Nat → UInt8} (f : Nat → UInt8) (h1 : ∀ i j, i < r → j < n → B i j = M i j) (h2 : ∀ j, j < n → B r j = sm r fun i => mul q (M i j) (f i)) (x : Nat → UInt8) : Null q B (r + 1) n x ↔ Null q M r n x := by
  have e1 : ∀ i, i < r → ap q B n x i = ap q M n x i := fun i hi => sm_congr n fun j hj => by rw [h1 i j hi hj]
  constructor
  · intro h i hi
    rw [← e1 i hi]; exact h i (by omega)
  · intro h i hi
    by_cases e : i < r
    · rw [e1 i e]; exact h i e
    · obtain rfl : i = r := by omega
      have e2 : ap q B n x i = sm i fun t => mul q (f t) (ap q M n x t) := by
        have e3 : ∀ j, j < n → mul q (B i j) (x j) = sm i fun t => mul q (f t) (mul q (M t j) (x j)) := fun j hj => by
          rw [h2 j hj, sm_mul]
          exact sm_congr i fun t _ => by rw [mul_comm q (M t j) (f t), mul_assoc]
        unfold ap
        rw [sm_congr n e3, sm_swap]
        exact sm_congr i fun t _ => (mul_sm q _ _ n).symm
      rw [e2]
      exact sm_null i fun t ht => by rw [h t ht, mul_zero]
/-- a row that has something where all others have 0 adds one -/
theorem lone_rank (g : Gen q) {B : Nat → Nat → UInt8} (h1 : ∀ i j, i < r → j < n → B i j = M i j) (h2 : ∀ i, i < r → B i n = 0) (h3 : B r n = 1) (hk : Rk q M r n k) (hk' : Rk q B (r + 1) (n + 1) k') : k' = k + 1 := by
  obtain ⟨a, ha⟩ := Rk.ex g (fun i j => M j i) n r
  have ea := hk.tr g ha
  obtain ⟨b, hb⟩ := Rk.ex g (fun i j => B j i) (n + 1) (r + 1)
  have eb := hk'.tr g hb
  obtain ⟨d, hd⟩ := Rk.ex g (fun i j => B j i) (n + 1) r
  have ed : d = a := hd.congr ha fun x => by
    constructor
    · intro h i hi
      rw [← h i (by omega)]
      exact sm_congr r fun j hj => by show mul q (M j i) _ = mul q (B j i) _; rw [h1 j i hj hi]
    · intro h i hi
      by_cases e : i < n
      · rw [← h i e]
        exact sm_congr r fun j hj => by show mul q (B j i) _ = mul q (M j i) _; rw [h1 j i hj e]
      · obtain rfl : i = n := by omega
        exact sm_null r fun j hj => by show mul q (B j i) _ = 0; rw [h2 j hj, zero_mul]
  rcases Rk.next g hd hb with ⟨_, x, hx, x1, _⟩ | ⟨e, _⟩
  · have := hx n (by omega)
    unfold ap at this
    rw [sm_single r (r + 1) (by omega) fun j hj hne => by show mul q (B j n) _ = 0; rw [h2 j (by omega), zero_mul]] at this
    have e2 : mul q (B r n) (x r) = 0 := this
    rw [h3, x1] at e2
    exact absurd e2 (by rw [mul_one]; decide)
  · omega
end
end Mx
end Go.Proofs.Ytkklonldplekcaa
