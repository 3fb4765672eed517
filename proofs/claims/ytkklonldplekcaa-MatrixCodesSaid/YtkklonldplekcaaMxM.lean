/- Matrices over a field of 256 elements, as functions: sums, null spaces, elimination, ranks. No program in sight. -/
import Derived.Test.YtkklonldplekcaaGfM
namespace Go.Proofs.Ytkklonldplekcaa
namespace Mx
open Gf
def sm : Nat → (Nat → UInt8) → UInt8
  | 0, _ => 0
  | n + 1, f => sm n f ^^^ f n
theorem sm_congr {f g : Nat → UInt8} : ∀ n, (∀ i, i < n → f i = g i) → sm n f = sm n g
  | 0, _ => rfl
  | n + 1, h => by simp only [sm]; rw [sm_congr n fun i hi => h i (by omega), h n (by omega)]
theorem sm_null {f : Nat → UInt8} : ∀ n, (∀ i, i < n → f i = 0) → sm n f = 0
  | 0, _ => rfl
  | n + 1, h => by simp only [sm]; rw [sm_null n fun i hi => h i (by omega), h n (by omega)]; rfl
theorem xor_swap (a b c d : UInt8) : (a ^^^ b) ^^^ (c ^^^ d) = (a ^^^ c) ^^^ (b ^^^ d) := by
  rw [UInt8.xor_assoc, UInt8.xor_assoc, ← UInt8.xor_assoc b, UInt8.xor_comm b c, UInt8.xor_assoc c]
theorem sm_xor (f g : Nat → UInt8) : ∀ n, sm n (fun i => f i ^^^ g i) = sm n f ^^^ sm n g
  | 0 => by simp [sm]
  | n + 1 => by simp only [sm]; rw [sm_xor f g n, xor_swap]
theorem mul_sm (q c : UInt8) (f : Nat → UInt8) : ∀ n, mul q c (sm n f) = sm n fun i => mul q c (f i)
  | 0 => mul_zero q c
  | n + 1 => by simp only [sm]; rw [mul_xor, mul_sm q c f n]
theorem sm_mul (q c : UInt8) (f : Nat → UInt8) (n : Nat) : mul q (sm n f) c = sm n fun i => mul q (f i) c := by
  rw [mul_comm, mul_sm]
  exact sm_congr n fun i _ => mul_comm q c (f i)
theorem sm_swap (f : Nat → Nat → UInt8) (m : Nat) : ∀ n, (sm m fun i => sm n fun j => f i j) = sm n fun j => sm m fun i => f i j
  | 0 => sm_null m fun _ _ => rfl
  | n + 1 => by simp only [sm]; rw [sm_xor, sm_swap f m n]
theorem sm_single {f : Nat → UInt8} (k : Nat) : ∀ n, k < n → (∀ i, i < n → i ≠ k → f i = 0) → sm n f = f k
  | 0, h, _ => absurd h (by omega)
  | n + 1, hk, h => by
    simp only [sm]
    by_cases e : k = n
    · subst e
      rw [sm_null k fun i hi => h i (by omega) (by omega)]
      simp
    · rw [sm_single k n (by omega) fun i hi => h i (by omega), h n (by omega) (by omega)]
      simp
theorem sm_split (f : Nat → UInt8) (m : Nat) : ∀ n, sm (m + n) f = sm m f ^^^ sm n fun i => f (m + i)
  | 0 => by simp [sm]
  | n + 1 => by rw [← Nat.add_assoc]; simp only [sm]; rw [sm_split f m n, UInt8.xor_assoc]
theorem xor_eq_zero {a b : UInt8} : a ^^^ b = 0 ↔ a = b := by
  constructor
  · intro h
    have : a ^^^ b ^^^ b = 0 ^^^ b := by rw [h]
    rw [UInt8.xor_assoc, UInt8.xor_self] at this
    simpa using this
  · rintro rfl
    exact UInt8.xor_self
/-- row i of A, times x -/
def ap (q : UInt8) (A : Nat → Nat → UInt8) (n : Nat) (x : Nat → UInt8) (i : Nat) : UInt8 := sm n fun j => mul q (A i j) (x j)
def Null (q : UInt8) (A : Nat → Nat → UInt8) (r n : Nat) (x : Nat → UInt8) : Prop := ∀ i, i < r → ap q A n x i = 0
def swapR (A : Nat → Nat → UInt8) (a b : Nat) : Nat → Nat → UInt8 := fun i => A (if i = a then b else if i = b then a else i)
def scaleR (q : UInt8) (A : Nat → Nat → UInt8) (a : Nat) (k : UInt8) : Nat → Nat → UInt8 := fun i j => if i = a then mul q (A i j) k else A i j
def clearR (q : UInt8) (A : Nat → Nat → UInt8) (a col : Nat) : Nat → Nat → UInt8 := fun i j => if i = a then A i j else A i j ^^^ mul q (A i col) (A a j)
section
variable {q : UInt8} {r n : Nat} {A : Nat → Nat → UInt8} {x : Nat → UInt8}
theorem null_swap {a b : Nat} (ha : a < r) (hb : b < r) : Null q (swapR A a b) r n x ↔ Null q A r n x := by
  have key : ∀ B : Nat → Nat → UInt8, Null q B r n x → Null q (swapR B a b) r n x := by
    intro B h i hi
    show ap q B n x (if i = a then b else if i = b then a else i) = 0
    apply h
    split
    · exact hb
    · split
      · exact ha
      · exact hi
  refine ⟨fun h => ?_, key A⟩
  have h2 := key _ h
  intro i hi
  have := h2 i hi
  have e : swapR (swapR A a b) a b = A := by
    funext i
    unfold swapR
    by_cases h1 : i = a
    · by_cases h2 : a = b
      · simp [h1, h2]
      · simp [h1, Ne.symm h2]
    · by_cases h2 : i = b
      · simp [h2]
      · simp [h1, h2]
  rwa [e] at this
theorem ap_scale (a : Nat) (k : UInt8) (i : Nat) : ap q (scaleR q A a k) n x i = if i = a then mul q k (ap q A n x i) else ap q A n x i := by
  unfold ap scaleR
  split
  · rw [mul_sm]
    refine sm_congr n fun j _ => ?_
    rw [mul_comm q (A i j) k, mul_assoc]
  · rfl
theorem null_scale {a : Nat} {k l : UInt8} (hk : mul q k l = 1) : Null q (scaleR q A a k) r n x ↔ Null q A r n x := by
  constructor
  · intro h i hi
    have := h i hi
    rw [ap_scale] at this
    split at this
    · have h2 : mul q (mul q l k) (ap q A n x i) = 0 := by rw [mul_assoc, this, mul_zero]
      rw [mul_comm q l k, hk, mul_one'] at h2
      exact h2
    · exact this
  · intro h i hi
    rw [ap_scale, h i hi]
    split
    · exact mul_zero q k
    · rfl
theorem ap_clear (a col : Nat) (i : Nat) (hi : i ≠ a) : ap q (clearR q A a col) n x i = ap q A n x i ^^^ mul q (A i col) (ap q A n x a) := by
  unfold ap clearR
  rw [mul_sm, ← sm_xor]
  refine sm_congr n fun j _ => ?_
  rw [if_neg hi, xor_mul, mul_assoc]
theorem ap_clear_self (a col : Nat) : ap q (clearR q A a col) n x a = ap q A n x a := by
  unfold ap clearR
  exact sm_congr n fun j _ => by rw [if_pos rfl]
theorem null_clear {a col : Nat} (ha : a < r) : Null q (clearR q A a col) r n x ↔ Null q A r n x := by
  constructor
  · intro h i hi
    have h0 := h a ha
    rw [ap_clear_self] at h0
    by_cases e : i = a
    · rw [e]; exact h0
    · have := h i hi
      rw [ap_clear a col i e, h0, mul_zero] at this
      simpa using this
  · intro h i hi
    by_cases e : i = a
    · rw [e, ap_clear_self]; exact h a ha
    · rw [ap_clear a col i e, h i hi, h a ha, mul_zero]; rfl
end
/-- A0 brought to A: the pivots of the first col columns are done -/
structure Red (q : UInt8) (r n : Nat) (A0 A : Nat → Nat → UInt8) (piv : List Nat) (col : Nat) : Prop where
  null : ∀ x, Null q A0 r n x ↔ Null q A r n x
  len : piv.length ≤ r
  lt : ∀ (s p : Nat), piv[s]? = some p → p < col
  up : ∀ (s t a b : Nat), piv[s]? = some a → piv[t]? = some b → s < t → a < b
  one : ∀ (s p : Nat), piv[s]? = some p → ∀ i, i < r → A i p = if i = s then 1 else 0
  lead : ∀ (s p : Nat), piv[s]? = some p → ∀ j, j < p → A s j = 0
  rest : ∀ i, piv.length ≤ i → i < r → ∀ j, j < col → A i j = 0
section
variable {q : UInt8} {r n col : Nat} {A0 A : Nat → Nat → UInt8} {piv : List Nat}
theorem Red.start : Red q r n A A [] 0 :=
  ⟨fun _ => Iff.rfl, Nat.zero_le _, fun s p h => by simp at h, fun s t a b h => by simp at h, fun s p h => by simp at h, fun s p h => by simp at h, fun i _ _ j hj => by omega⟩
/-- nothing in the column from the next row on -/
theorem Red.skip (h : Red q r n A0 A piv col) (hc : ∀ i, piv.length ≤ i → i < r → A i col = 0) : Red q r n A0 A piv (col + 1) :=
  ⟨h.null, h.len, fun s p hp => by have := h.lt s p hp; omega, h.up, h.one, h.lead, fun i h1 h2 j hj => by
    by_cases e : j = col
    · rw [e]; exact hc i h1 h2
    · exact h.rest i h1 h2 j (by omega)⟩
def step (q : UInt8) (A : Nat → Nat → UInt8) (k i col : Nat) (c : UInt8) : Nat → Nat → UInt8 := clearR q (scaleR q (swapR A k i) k c) k col
theorem snoc_get {l : List Nat} {s p c : Nat} (h : (l ++ [c])[s]? = some p) : (s < l.length ∧ l[s]? = some p) ∨ (s = l.length ∧ p = c) := by
  by_cases hs : s < l.length
  · rw [List.getElem?_append_left hs] at h; exact .inl ⟨hs, h⟩
  · rw [List.getElem?_append_right (by omega)] at h
    have h0 := (List.getElem?_eq_some_iff.1 h).1
    simp at h0
    have e : s = l.length := by omega
    subst e
    simp at h
    exact .inr ⟨rfl, h.symm⟩
/-- a row is found, brought up, made 1 and taken from all others -/
theorem Red.step {i : Nat} {c : UInt8} (h : Red q r n A0 A piv col) (h1 : piv.length ≤ i) (hi : i < r) (hc : mul q (A i col) c = 1) : Red q r n A0 (step q A piv.length i col c) (piv ++ [col]) (col + 1) := by
  obtain ⟨k, hk⟩ : ∃ k, piv.length = k := ⟨_, rfl⟩
  rw [hk] at h1 ⊢
  have hkr : k < r := by omega
  -- the rows behind the swap: those ahead of k are as they were, row k is row i
  have sw : ∀ j, swapR A k i k j = A i j := fun j => by simp [swapR]
  have swl : ∀ t j, t < k → swapR A k i t j = A t j := fun t j ht => by
    show A (if t = k then i else if t = i then k else t) j = _
    rw [if_neg (by omega), if_neg (by omega)]
  have swg : ∀ t j, k ≤ t → t < r → j < col → swapR A k i t j = 0 := fun t j h2 h3 hj => by
    show A (if t = k then i else if t = i then k else t) j = 0
    split
    · exact h.rest i (by omega) hi j hj
    · split
      · exact h.rest k (by omega) hkr j hj
      · exact h.rest t (by omega) h3 j hj
  have sck : ∀ j, scaleR q (swapR A k i) k c k j = mul q (A i j) c := fun j => by simp [scaleR, sw]
  have sc : ∀ t j, t ≠ k → scaleR q (swapR A k i) k c t j = swapR A k i t j := fun t j ht => by simp [scaleR, ht]
  have ek : ∀ j, Mx.step q A k i col c k j = mul q (A i j) c := fun j => by simp [Mx.step, clearR, sck]
  have en : ∀ t j, t ≠ k → Mx.step q A k i col c t j = swapR A k i t j ^^^ mul q (swapR A k i t col) (mul q (A i j) c) := fun t j ht => by
    simp only [Mx.step, clearR, if_neg ht, sck, sc t _ ht]
  have ez : ∀ j, j < col → mul q (A i j) c = 0 := fun j hj => by rw [h.rest i (by omega) hi j hj, zero_mul]
  refine ⟨fun x => (h.null x).trans ?_, ?_, ?_, ?_, ?_, ?_, ?_⟩
  · unfold Mx.step
    rw [null_clear hkr, null_scale (l := A i col) (by rw [mul_comm]; exact hc), null_swap hkr hi]
  · simp; omega
  · intro s p hp
    rcases snoc_get hp with ⟨_, hp⟩ | ⟨_, rfl⟩
    · have := h.lt s p hp; omega
    · omega
  · intro s t a b ha hb hst
    rcases snoc_get ha with ⟨hs, ha1⟩ | ⟨hs, rfl⟩
    · rcases snoc_get hb with ⟨_, hb1⟩ | ⟨_, e⟩
      · exact h.up s t a b ha1 hb1 hst
      · rw [e]; exact h.lt s a ha1
    · have := (List.getElem?_eq_some_iff.1 hb).1
      simp at this
      omega
  · intro s p hp t ht
    rcases snoc_get hp with ⟨hs, hp⟩ | ⟨hs, rfl⟩
    · have hpc := h.lt s p hp
      by_cases e : t = k
      · subst e
        rw [ek, ez p hpc, if_neg (by omega)]
      · rw [en t p e, ez p hpc, mul_zero]
        have e1 : swapR A k i t p = if t = s then 1 else 0 := by
          by_cases htk : t < k
          · rw [swl t p htk]; exact h.one s p hp t ht
          · rw [swg t p (by omega) ht hpc, if_neg (by omega)]
        rw [e1]; simp
    · subst hs
      rw [hk]
      by_cases e : t = k
      · subst e; rw [ek, hc, if_pos rfl]
      · rw [en t p e, hc, mul_one, if_neg e]; exact UInt8.xor_self
  · intro s p hp j hj
    rcases snoc_get hp with ⟨hs, hp⟩ | ⟨hs, rfl⟩
    · have hpc := h.lt s p hp
      rw [en s j (by omega), ez j (by omega), mul_zero, swl s j (by omega), h.lead s p hp j hj]; rfl
    · subst hs
      rw [hk, ek, ez j hj]
  · intro t h2 h3 j hj
    simp only [List.length_append, List.length_singleton] at h2
    rw [en t j (by omega)]
    by_cases e : j = col
    · subst e; rw [hc, mul_one]; exact UInt8.xor_self
    · rw [ez j (by omega), mul_zero, swg t j (by omega) h3 (by omega)]; rfl
/-- some row from the next on has something in the column, or none has -/
theorem find_row (r k : Nat) (f : Nat → UInt8) : (∀ i, k ≤ i → i < r → f i = 0) ∨ ∃ i, k ≤ i ∧ i < r ∧ f i ≠ 0 := by
  by_cases h : ∃ i, k ≤ i ∧ i < r ∧ f i ≠ 0
  · exact .inr h
  · exact .inl fun i h1 h2 => Classical.byContradiction fun h3 => h ⟨i, h1, h2, h3⟩
theorem Red.ex (g : Gen q) (r n : Nat) (A0 : Nat → Nat → UInt8) : ∀ col, ∃ A piv, Red q r n A0 A piv col
  | 0 => ⟨A0, [], Red.start⟩
  | col + 1 => by
    obtain ⟨A, piv, h⟩ := Red.ex g r n A0 col
    rcases find_row r piv.length fun i => A i col with h0 | ⟨i, h1, h2, h3⟩
    · exact ⟨A, piv, h.skip h0⟩
    · obtain ⟨c, hc⟩ := inv_ex g (A i col) h3
      exact ⟨_, _, h.step h1 h2 hc⟩
/-- column j is made by those ahead of it -/
def Free (q : UInt8) (A : Nat → Nat → UInt8) (r n j : Nat) : Prop := ∃ x, Null q A r n x ∧ x j = 1 ∧ ∀ i, j < i → i < n → x i = 0
theorem Free.congr {A B : Nat → Nat → UInt8} {r' : Nat} (h : ∀ x, Null q A r n x ↔ Null q B r' n x) (j : Nat) : Free q A r n j ↔ Free q B r' n j :=
  ⟨fun ⟨x, h1, h2⟩ => ⟨x, (h x).1 h1, h2⟩, fun ⟨x, h1, h2⟩ => ⟨x, (h x).2 h1, h2⟩⟩
theorem Red.inj (h : Red q r n A0 A piv col) {s t a : Nat} (hs : piv[s]? = some a) (ht : piv[t]? = some a) : s = t := by
  rcases Nat.lt_trichotomy s t with e | e | e
  · have := h.up s t a a hs ht e; omega
  · exact e
  · have := h.up t s a a ht hs e; omega
/-- the column j as what the pivots make of it -/
def colV (piv : List Nat) (A : Nat → Nat → UInt8) (j : Nat) : Nat → UInt8 := fun i => (if i = j then 1 else 0) ^^^ sm piv.length fun s => if piv[s]? = some i then A s j else 0
theorem ap_unit {q : UInt8} {A : Nat → Nat → UInt8} {n j i : Nat} (hj : j < n) : ap q A n (fun i => if i = j then 1 else 0) i = A i j := by
  unfold ap
  rw [sm_single j n hj fun t _ ht => by simp only [if_neg ht]; exact mul_zero q _]
  simp only [if_pos]
  exact mul_one q _
/-- a row times values at the pivots alone -/
theorem ap_at {q : UInt8} {B : Nat → Nat → UInt8} {n i : Nat} (piv : List Nat) (y : Nat → UInt8) (hp : ∀ (s p : Nat), piv[s]? = some p → p < n) : ap q B n (fun t => sm piv.length fun s => if piv[s]? = some t then y s else 0) i = sm piv.length fun s => mul q (B i (piv.getD s 0)) (y s) := by
  unfold ap
  have e : ∀ j, j < n → mul q (B i j) (sm piv.length fun s => if piv[s]? = some j then y s else 0) = sm piv.length fun s => mul q (B i j) (if piv[s]? = some j then y s else 0) := fun j _ => mul_sm q _ _ _
  rw [sm_congr n e, sm_swap]
  refine sm_congr _ fun s hs => ?_
  have hps : piv[s]? = some (piv.getD s 0) := by rw [List.getD_eq_getElem?_getD, List.getElem?_eq_getElem hs]; rfl
  rw [sm_single (piv.getD s 0) n (hp s _ hps) fun t _ ht => by rw [if_neg (by rw [hps]; intro e; exact ht (by injection e with e; exact e.symm)), mul_zero], if_pos hps]
theorem Red.mk_null (h : Red q r n A0 A piv col) (hcn : col ≤ n) {j : Nat} (hj : j < col) : Null q A r n (colV piv A j) := by
  intro i hi
  have e : ap q A n (colV piv A j) i = A i j ^^^ sm piv.length fun s => mul q (A i (piv.getD s 0)) (A s j) := by
    rw [← ap_at (n := n) piv (fun s => A s j) (fun s p hp => by have := h.lt s p hp; omega), ← ap_unit (q := q) (A := A) (n := n) (j := j) (by omega)]
    unfold ap
    rw [← sm_xor]
    exact sm_congr n fun t _ => by rw [← mul_xor]; rfl
  rw [e, xor_eq_zero]
  have hp : ∀ s, s < piv.length → A i (piv.getD s 0) = if i = s then 1 else 0 := fun s hs => h.one s _ (by rw [List.getD_eq_getElem?_getD, List.getElem?_eq_getElem hs]; rfl) i hi
  by_cases hik : i < piv.length
  · rw [sm_single i _ hik fun s hs hne => by rw [hp s hs, if_neg (Ne.symm hne), zero_mul], hp i hik, if_pos rfl, mul_one']
  · rw [h.rest i (by omega) hi j hj, sm_null _ fun s hs => by rw [hp s hs, if_neg (by omega), zero_mul]]
theorem Red.mk_far (h : Red q r n A0 A piv col) {j i : Nat} (hij : j < i) : colV piv A j i = 0 := by
  unfold colV
  rw [if_neg (by omega), sm_null _ fun s hs => ?_]
  · rfl
  · split
    · rename_i hp; exact h.lead s i hp j hij
    · rfl
/-- every column is what the pivots make of it: the row's own -/
theorem Red.factor (h : Red q r n A0 A piv col) (hcn : col ≤ n) {i j : Nat} (hi : i < r) (hj : j < col) : A0 i j = sm piv.length fun s => mul q (A0 i (piv.getD s 0)) (A s j) := by
  have h0 := (h.null _).2 (h.mk_null hcn hj) i hi
  have e : ap q A0 n (colV piv A j) i = A0 i j ^^^ sm piv.length fun s => mul q (A0 i (piv.getD s 0)) (A s j) := by
    rw [← ap_at (n := n) piv (fun s => A s j) (fun s p hp => by have := h.lt s p hp; omega), ← ap_unit (q := q) (A := A0) (n := n) (j := j) (by omega)]
    unfold ap
    rw [← sm_xor]
    exact sm_congr n fun t _ => by rw [← mul_xor]; rfl
  rw [e, xor_eq_zero] at h0
  exact h0
theorem Red.free (h : Red q r n A0 A piv col) (hcn : col ≤ n) {j : Nat} (hj : j < col) : Free q A0 r n j ↔ j ∉ piv := by
  constructor
  · rintro ⟨x, hx, h1, h2⟩ hm
    obtain ⟨s, hs⟩ := List.mem_iff_getElem?.1 hm
    have hsl := (List.getElem?_eq_some_iff.1 hs).1
    have h0 := (h.null x).1 hx s (by have := h.len; omega)
    unfold ap at h0
    rw [sm_single j n (by omega) fun t ht hne => ?_, h1, mul_one, h.one s j hs s (by have := h.len; omega), if_pos rfl] at h0
    · exact absurd h0 (by decide)
    · rcases Nat.lt_or_ge t j with e | e
      · rw [h.lead s j hs t e, zero_mul]
      · rw [h2 t (by omega) ht, mul_zero]
  · intro hm
    refine ⟨colV piv A j, (h.null _).2 (h.mk_null hcn hj), ?_, fun i hi _ => h.mk_far hi⟩
    unfold colV
    rw [if_pos rfl, sm_null _ fun s _ => ?_]
    · rfl
    · rw [if_neg fun e => hm (List.mem_of_getElem? e)]
end
end Mx
end Go.Proofs.Ytkklonldplekcaa
