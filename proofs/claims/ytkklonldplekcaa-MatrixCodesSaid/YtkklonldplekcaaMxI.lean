/- Inverses and solutions by elimination. No program in sight. -/
import Derived.Test.YtkklonldplekcaaMxN
namespace Go.Proofs.Ytkklonldplekcaa
namespace Mx
open Gf
section
variable {q : UInt8} {r n N k : Nat} {A M B : Nat → Nat → UInt8} {piv : List Nat}
/-- the first columns alone -/
theorem free_trunc (hn : n ≤ N) (hM : ∀ i j, i < r → j < n → M i j = A i j) {j : Nat} (hj : j < n) : Free q M r n j ↔ Free q A r N j := by
  have key : ∀ x : Nat → UInt8, (∀ i, j < i → i < N → x i = 0) → ∀ i, i < r → ap q A N x i = ap q M n x i := by
    intro x hx i hi
    unfold ap
    obtain ⟨d, rfl⟩ : ∃ d, N = n + d := ⟨N - n, by omega⟩
    rw [sm_split, sm_null d fun t ht => by rw [hx (n + t) (by omega) (by omega), mul_zero], sm_congr n fun t ht => by rw [← hM i t hi ht]]
    simp
  constructor
  · rintro ⟨x, h1, h2, h3⟩
    refine ⟨fun i => if i < n then x i else 0, fun i hi => ?_, by simp only [if_pos hj]; exact h2, fun i h4 h5 => ?_⟩
    · rw [key _ (fun i h4 h5 => by
        show (if i < n then x i else 0) = 0
        split
        · exact h3 i h4 (by omega)
        · rfl) i hi]
      have := h1 i hi
      unfold ap at this ⊢
      rw [← this]
      exact sm_congr n fun t ht => by simp only [if_pos ht]
    · show (if i < n then x i else 0) = 0
      split
      · exact h3 i h4 (by omega)
      · rfl
  · rintro ⟨x, h1, h2, h3⟩
    exact ⟨x, fun i hi => by rw [← key x h3 i hi]; exact h1 i hi, h2, fun i h4 h5 => h3 i h4 (by omega)⟩
/-- the pivots within the first columns are as many as their rank -/
theorem Red.trunc (h : Red q r N A B piv n) (hn : n ≤ N) (hM : ∀ i j, i < r → j < n → M i j = A i j) (hk : Rk q M r n k) : piv.length = k := by
  obtain ⟨B', p', h', rfl⟩ := hk
  rw [h.same h' (fun j hj => (free_trunc hn hM hj).symm) hn (Nat.le_refl _)]
theorem Rk.of_trunc (g : Gen q) (h : Red q r N A B piv n) (hn : n ≤ N) (hM : ∀ i j, i < r → j < n → M i j = A i j) : Rk q M r n piv.length := by
  obtain ⟨k, hk⟩ := Rk.ex g M r n
  rw [h.trunc hn hM hk]; exact hk
theorem Rk.ext (g : Gen q) (h : Rk q A r n k) (hM : ∀ i j, i < r → j < n → M i j = A i j) : Rk q M r n k := by
  obtain ⟨B, p, h, rfl⟩ := h
  exact Rk.of_trunc g h (Nat.le_refl _) hM
/-- one column more: the rank is the same just if it is made by those ahead of it -/
theorem Rk.next (g : Gen q) {j k' : Nat} (h : Rk q A r j k) (h' : Rk q A r (j + 1) k') : k' = k ∧ Free q A r (j + 1) j ∨ k' = k + 1 ∧ ¬ Free q A r (j + 1) j := by
  obtain ⟨B, p, h1⟩ := Red.ex g r (j + 1) A j
  have e := h1.trunc (by omega) (fun _ _ _ _ => rfl) h
  rcases find_row r p.length fun i => B i j with h0 | ⟨i, h2, h3, h4⟩
  · have h5 := h1.skip h0
    have := h5.trunc (Nat.le_refl _) (fun _ _ _ _ => rfl) h'
    refine .inl ⟨by omega, (h5.free (Nat.le_refl _) (by omega)).2 fun hm => ?_⟩
    have := h1.lt_mem j hm
    omega
  · obtain ⟨c, hc⟩ := inv_ex g (B i j) h4
    have h5 := h1.step h2 h3 hc
    have e2 := h5.trunc (Nat.le_refl _) (fun _ _ _ _ => rfl) h'
    simp at e2
    refine .inr ⟨by omega, fun hf => (h5.free (Nat.le_refl _) (by omega)).1 hf (by simp)⟩
def unitM : Nat → Nat → UInt8 := fun i j => if i = j then 1 else 0
/-- a square and the unit beside it -/
def withUnit (n : Nat) (M : Nat → Nat → UInt8) : Nat → Nat → UInt8 := fun i j => if j < n then M i j else if j = n + i then 1 else 0
theorem ap_two (q : UInt8) (A : Nat → Nat → UInt8) (n m : Nat) (x y : Nat → UInt8) (i : Nat) : ap q A (n + m) (fun j => if j < n then x j else y (j - n)) i = (sm n fun j => mul q (A i j) (x j)) ^^^ sm m fun j => mul q (A i (n + j)) (y j) := by
  unfold ap
  rw [sm_split]
  congr 1
  · exact sm_congr n fun t ht => by simp only [if_pos ht]
  · exact sm_congr m fun t _ => by simp only [if_neg (show ¬ n + t < n by omega), show n + t - n = t by omega]
theorem full_range (h : Red q r N A B piv n) (hl : piv.length = n) : piv = List.range n := by
  refine sorted_eq _ _ h.sorted List.pairwise_lt_range fun x => ⟨fun hx => by simpa using h.lt_mem x hx, fun hx => ?_⟩
  refine Classical.byContradiction fun hm => ?_
  have h1 : (x :: piv).length ≤ n := nodup_le n (x :: piv) (List.nodup_cons.2 ⟨hm, h.sorted.imp fun h => by omega⟩) (by
    intro y hy
    rcases List.mem_cons.1 hy with rfl | hy
    · simpa using hx
    · exact h.lt_mem y hy)
  simp at h1
  omega
/-- what elimination leaves beside the unit is the inverse, on both sides -/
theorem inverse_of (h : Red q n (n + n) (withUnit n M) B piv n) (hl : piv.length = n) : (∀ i j, i < n → j < n → prod q M (fun i j => B i (n + j)) n i j = unitM i j) ∧ ∀ i j, i < n → j < n → prod q (fun i j => B i (n + j)) M n i j = unitM i j := by
  have hp := full_range h hl
  have hB : ∀ i j, i < n → j < n → B i j = if i = j then 1 else 0 := fun i j hi hj => h.one j j (by rw [hp]; simp [hj]) i hi
  have hU : ∀ (y : Nat → UInt8) i, i < n → (sm n fun j => mul q (withUnit n M i (n + j)) (y j)) = y i := fun y i hi => by
    rw [sm_single i n hi fun t _ hne => ?_]
    · have : withUnit n M i (n + i) = 1 := by unfold withUnit; rw [if_neg (by omega), if_pos rfl]
      rw [this, mul_one']
    · have : withUnit n M i (n + t) = 0 := by unfold withUnit; rw [if_neg (by omega), if_neg (by omega)]
      rw [this, zero_mul]
  have hM : ∀ (x : Nat → UInt8) i, (sm n fun j => mul q (withUnit n M i j) (x j)) = ap q M n x i := fun x i => sm_congr n fun t ht => by simp [withUnit, ht]
  have hI : ∀ (x : Nat → UInt8) i, i < n → (sm n fun j => mul q (B i j) (x j)) = x i := fun x i hi => by
    rw [sm_single i n hi fun t ht hne => by rw [hB i t hi ht, if_neg (Ne.symm hne), zero_mul], hB i i hi hi, if_pos rfl, mul_one']
  have rel : ∀ (x y : Nat → UInt8), (∀ i, i < n → ap q M n x i = y i) ↔ ∀ i, i < n → x i = ap q (fun i j => B i (n + j)) n y i := by
    intro x y
    have h0 := h.null (fun j => if j < n then x j else y (j - n))
    have e1 : Null q (withUnit n M) n (n + n) (fun j => if j < n then x j else y (j - n)) ↔ ∀ i, i < n → ap q M n x i = y i := by
      refine forall_congr' fun i => imp_congr_right fun hi => ?_
      rw [ap_two, hM, hU y i hi, xor_eq_zero]
    have e2 : Null q B n (n + n) (fun j => if j < n then x j else y (j - n)) ↔ ∀ i, i < n → x i = ap q (fun i j => B i (n + j)) n y i := by
      refine forall_congr' fun i => imp_congr_right fun hi => ?_
      rw [ap_two, hI x i hi, xor_eq_zero]; rfl
    rw [← e1, ← e2]
    exact h0
  constructor
  · intro i j hi hj
    have := (rel (ap q (fun i j => B i (n + j)) n fun t => if t = j then 1 else 0) (fun t => if t = j then 1 else 0)).2 (fun _ _ => rfl) i hi
    unfold prod unitM
    rw [← this]
    unfold ap
    exact sm_congr n fun t ht => by rw [show (sm n fun l => mul q (B t (n + l)) (if l = j then 1 else 0)) = B t (n + j) from ap_unit (A := fun i j => B i (n + j)) hj]
  · intro i j hi hj
    have := (rel (fun t => if t = j then 1 else 0) (ap q M n fun t => if t = j then 1 else 0)).1 (fun _ _ => rfl) i hi
    unfold prod unitM
    rw [this]
    unfold ap
    exact sm_congr n fun t ht => by rw [show (sm n fun l => mul q (M t l) (if l = j then 1 else 0)) = M t j from ap_unit hj]
/-- an inverse on the left is one of full rank -/
theorem full_of_inverse (g : Gen q) {X : Nat → Nat → UInt8} (h : ∀ i j, i < n → j < n → prod q X M n i j = unitM i j) : Rk q M n n n := by
  obtain ⟨k, hk⟩ := Rk.ex g M n n
  have : k = n := hk.full_iff.2 ((free_iff g).2 fun x hx j hj => by
    have e : ap q (prod q X M n) n x j = 0 := by
      unfold ap prod
      have e1 : ∀ t, t < n → mul q (sm n fun l => mul q (X j l) (M l t)) (x t) = sm n fun l => mul q (X j l) (mul q (M l t) (x t)) := fun t _ => by
        rw [sm_mul]; exact sm_congr n fun l _ => mul_assoc q _ _ _
      rw [sm_congr n e1, sm_swap]
      refine sm_null n fun l hl => ?_
      rw [← mul_sm]
      have := hx l hl
      unfold ap at this
      rw [this, mul_zero]
    have e2 : ap q (prod q X M n) n x j = x j := by
      unfold ap
      rw [sm_single j n hj fun t ht hne => by rw [h j t hj ht, unitM, if_neg (Ne.symm hne), zero_mul], h j j hj hj, unitM, if_pos rfl, mul_one']
    rw [← e2, e])
  rw [this] at hk
  exact hk
theorem prod_unit_r (q : UInt8) (A : Nat → Nat → UInt8) (n i j : Nat) (hj : j < n) : prod q A unitM n i j = A i j := by
  unfold prod
  rw [sm_single j n hj fun t _ hne => by rw [unitM, if_neg hne, mul_zero], unitM, if_pos rfl, mul_one]
theorem prod_unit_l (q : UInt8) (A : Nat → Nat → UInt8) (n i j : Nat) (hi : i < n) : prod q unitM A n i j = A i j := by
  unfold prod
  rw [sm_single i n hi fun t _ hne => by rw [unitM, if_neg (Ne.symm hne), zero_mul], unitM, if_pos rfl, mul_one']
/-- the inverse's inverse -/
theorem inverse_twice {X Y : Nat → Nat → UInt8} (h1 : ∀ i j, i < n → j < n → prod q M X n i j = unitM i j) (h2 : ∀ i j, i < n → j < n → prod q X Y n i j = unitM i j) (i j : Nat) (hi : i < n) (hj : j < n) : Y i j = M i j := by
  have e : prod q (prod q M X n) Y n i j = prod q M (prod q X Y n) n i j := prod_assoc q M X Y n n i j
  rw [prod_congr (A' := unitM) (B' := Y) (fun l hl => h1 i l hi hl) (fun _ _ => rfl), prod_unit_l q Y n i j hi] at e
  rw [e, prod_congr (A' := M) (B' := unitM) (fun _ _ => rfl) (fun l hl => h2 l j hl hj), prod_unit_r q M n i j hj]
/-- a matrix with a column beside it -/
def withCol (n : Nat) (M : Nat → Nat → UInt8) (v : Nat → UInt8) : Nat → Nat → UInt8 := fun i j => if j < n then M i j else v i
variable {v : Nat → UInt8}
theorem null_col (x : Nat → UInt8) : Null q (withCol n M v) r (n + 1) (fun j => if j < n then x j else 1) ↔ ∀ i, i < r → ap q M n x i = v i := by
  refine forall_congr' fun i => imp_congr_right fun hi => ?_
  have e := ap_two q (withCol n M v) n 1 x (fun _ => 1) i
  have e1 : (sm n fun j => mul q (withCol n M v i j) (x j)) = ap q M n x i := sm_congr n fun t ht => by simp [withCol, ht]
  have e2 : (sm 1 fun j => mul q (withCol n M v i (n + j)) 1) = v i := by simp [sm, withCol, mul_one]
  rw [e, e1, e2, xor_eq_zero]
/-- what is told of a solution: the values at the pivots, 0 elsewhere -/
def sol (piv : List Nat) (B : Nat → Nat → UInt8) (n : Nat) : Nat → UInt8 := fun j => sm piv.length fun s => if piv[s]? = some j then B s n else 0
theorem ap_sol (h : Red q r N A B piv n) (_ : n ≤ N) (i : Nat) (hi : i < r) : ap q B n (sol piv B n) i = if i < piv.length then B i n else 0 := by
  unfold sol
  rw [ap_at piv (fun s => B s n) h.lt]
  have hp : ∀ s, s < piv.length → B i (piv.getD s 0) = if i = s then 1 else 0 := fun s hs => h.one s _ (by rw [List.getD_eq_getElem?_getD, List.getElem?_eq_getElem hs]; rfl) i hi
  split
  · rename_i h1
    rw [sm_single i _ h1 fun s hs hne => by rw [hp s hs, if_neg (Ne.symm hne), zero_mul], hp i h1, if_pos rfl, mul_one']
  · exact sm_null _ fun s hs => by rw [hp s hs, if_neg (by omega), zero_mul]
theorem solved_of (h : Red q r (n + 1) (withCol n M v) B piv n) (h0 : ∀ i, piv.length ≤ i → i < r → B i n = 0) : ∀ i, i < r → ap q M n (sol piv B n) i = v i := by
  rw [← null_col]
  refine (h.null _).2 fun i hi => ?_
  have e := ap_two q B n 1 (sol piv B n) (fun _ => 1) i
  rw [e, show (sm n fun j => mul q (B i j) (sol piv B n j)) = ap q B n (sol piv B n) i from rfl, ap_sol h (by omega) i hi]
  simp only [sm, mul_one, Nat.add_zero, UInt8.zero_xor]
  split
  · exact UInt8.xor_self
  · rw [h0 i (by omega) hi]; rfl
theorem unsolved_of (h : Red q r (n + 1) (withCol n M v) B piv n) {i : Nat} (h1 : piv.length ≤ i) (h2 : i < r) (h3 : B i n ≠ 0) : ¬ ∃ x, ∀ i, i < r → ap q M n x i = v i := by
  rintro ⟨x, hx⟩
  have := (h.null _).1 ((null_col x).2 hx) i h2
  have e := ap_two q B n 1 x (fun _ => 1) i
  rw [e, sm_null n fun j hj => by rw [h.rest i h1 h2 j hj, zero_mul]] at this
  simp only [sm, mul_one, Nat.add_zero, UInt8.zero_xor] at this
  exact h3 this
/-- the column brings the rank up just if there is no solution -/
theorem rank_col (g : Gen q) (h : Red q r (n + 1) (withCol n M v) B piv n) {k' : Nat} (hk : Rk q M r n k) (hk' : Rk q (withCol n M v) r (n + 1) k') : (∀ i, piv.length ≤ i → i < r → B i n = 0) ∧ k' = k ∨ (∃ i, piv.length ≤ i ∧ i < r ∧ B i n ≠ 0) ∧ k' = k + 1 := by
  have e := h.trunc (M := M) (by omega) (fun i j _ hj => by simp [withCol, hj]) hk
  rcases find_row r piv.length fun i => B i n with h0 | ⟨i, h2, h3, h4⟩
  · have := (h.skip h0).trunc (Nat.le_refl _) (fun _ _ _ _ => rfl) hk'
    exact .inl ⟨h0, by omega⟩
  · obtain ⟨c, hc⟩ := inv_ex g (B i n) h4
    have e2 := (h.step h2 h3 hc).trunc (Nat.le_refl _) (fun _ _ _ _ => rfl) hk'
    simp at e2
    exact .inr ⟨⟨i, h2, h3, h4⟩, by omega⟩
end
end Mx
end Go.Proofs.Ytkklonldplekcaa
