/- Ranks of matrices: as many columns as are not made by those ahead of them. No program in sight. -/
import Derived.Test.YtkklonldplekcaaMxM
namespace Go.Proofs.Ytkklonldplekcaa
namespace Mx
open Gf
theorem sorted_eq : ∀ l m : List Nat, l.Pairwise (· < ·) → m.Pairwise (· < ·) → (∀ x, x ∈ l ↔ x ∈ m) → l = m
  | [], [], _, _, _ => rfl
  | [], b :: m, _, _, h => absurd ((h b).2 (by simp)) (by simp)
  | a :: l, [], _, _, h => absurd ((h a).1 (by simp)) (by simp)
  | a :: l, b :: m, hl, hm, h => by
    rw [List.pairwise_cons] at hl hm
    have e : a = b := by
      have h1 := (h a).1 (by simp)
      have h2 := (h b).2 (by simp)
      rcases List.mem_cons.1 h1 with e | h1
      · exact e
      · rcases List.mem_cons.1 h2 with e | h2
        · exact e.symm
        · have := hm.1 a h1; have := hl.1 b h2; omega
    subst e
    congr 1
    refine sorted_eq l m hl.2 hm.2 fun x => ⟨fun hx => ?_, fun hx => ?_⟩
    · rcases List.mem_cons.1 ((h x).1 (List.mem_cons_of_mem _ hx)) with e | h1
      · subst e; have := hl.1 x hx; omega
      · exact h1
    · rcases List.mem_cons.1 ((h x).2 (List.mem_cons_of_mem _ hx)) with e | h1
      · subst e; have := hm.1 x hx; omega
      · exact h1
section
variable {q : UInt8} {r n col : Nat} {A0 A : Nat → Nat → UInt8} {piv : List Nat}
theorem Red.sorted (h : Red q r n A0 A piv col) : piv.Pairwise (· < ·) := by
  rw [List.pairwise_iff_getElem]
  intro i j hi hj hij
  exact h.up i j _ _ (List.getElem?_eq_getElem hi) (List.getElem?_eq_getElem hj) hij
/-- the pivots are the matrix's own, whatever came of it -/
theorem Red.same {r' n' : Nat} {B0 B : Nat → Nat → UInt8} {piv' : List Nat} (h : Red q r n A0 A piv col) (h' : Red q r' n' B0 B piv' col) (hn : ∀ j, j < col → (Free q A0 r n j ↔ Free q B0 r' n' j)) (hcn : col ≤ n) (hcn' : col ≤ n') : piv = piv' := by
  refine sorted_eq _ _ h.sorted h'.sorted fun x => ?_
  have key : ∀ {r n : Nat} {A0 A : Nat → Nat → UInt8} {piv : List Nat}, Red q r n A0 A piv col → col ≤ n → (x ∈ piv ↔ x < col ∧ ¬ Free q A0 r n x) := by
    intro r n A0 A piv h hcn
    constructor
    · intro hx
      obtain ⟨s, hs⟩ := List.mem_iff_getElem?.1 hx
      have hlt := h.lt s x hs
      exact ⟨hlt, fun hf => (h.free hcn hlt).1 hf hx⟩
    · rintro ⟨h1, h2⟩
      exact Classical.byContradiction fun h3 => h2 ((h.free hcn h1).2 h3)
  rw [key h hcn, key h' hcn']
  exact and_congr_right fun hx => not_congr (hn x hx)
end
/-- A, of r rows and n columns, has rank k -/
def Rk (q : UInt8) (A : Nat → Nat → UInt8) (r n k : Nat) : Prop := ∃ B piv, Red q r n A B piv n ∧ piv.length = k
section
variable {q : UInt8} {r n k : Nat} {A : Nat → Nat → UInt8}
theorem Rk.ex (g : Gen q) (A : Nat → Nat → UInt8) (r n : Nat) : ∃ k, Rk q A r n k := by
  obtain ⟨B, piv, h⟩ := Red.ex g r n A n
  exact ⟨_, B, piv, h, rfl⟩
theorem Rk.free_congr {r' k' : Nat} {B : Nat → Nat → UInt8} (h : Rk q A r n k) (h' : Rk q B r' n k') (hn : ∀ j, j < n → (Free q A r n j ↔ Free q B r' n j)) : k = k' := by
  obtain ⟨A1, p, h1, rfl⟩ := h
  obtain ⟨B1, p', h2, rfl⟩ := h'
  rw [h1.same h2 hn (Nat.le_refl _) (Nat.le_refl _)]
theorem Rk.congr {r' k' : Nat} {B : Nat → Nat → UInt8} (h : Rk q A r n k) (h' : Rk q B r' n k') (hn : ∀ x, Null q A r n x ↔ Null q B r' n x) : k = k' := h.free_congr h' fun j _ => Free.congr hn j
theorem Rk.unique {k' : Nat} (h : Rk q A r n k) (h' : Rk q A r n k') : k = k' := h.congr h' fun _ => Iff.rfl
theorem Rk.le_rows (h : Rk q A r n k) : k ≤ r := by
  obtain ⟨B, p, h, rfl⟩ := h
  exact h.len
theorem sorted_len : ∀ (n : Nat) (l : List Nat), l.Pairwise (· < ·) → (∀ x ∈ l, x < n) → l.length ≤ n := fun n l h hl =>
  nodup_le n l (h.imp fun h => by omega) hl
theorem Red.lt_mem {A0 : Nat → Nat → UInt8} {piv : List Nat} {col : Nat} (h : Red q r n A0 A piv col) : ∀ x ∈ piv, x < col := by
  intro x hx
  obtain ⟨s, hs⟩ := List.mem_iff_getElem?.1 hx
  exact h.lt s x hs
theorem Rk.le_cols (h : Rk q A r n k) : k ≤ n := by
  obtain ⟨B, p, h, rfl⟩ := h
  exact sorted_len n p h.sorted h.lt_mem
/-- more columns than rows: one is made by those ahead of it -/
theorem wide_free (g : Gen q) (h : r < n) : ∃ j, j < n ∧ Free q A r n j := by
  obtain ⟨B, p, h1⟩ := Red.ex g r n A n
  refine Classical.byContradiction fun hno => ?_
  have hall : ∀ j, j < n → j ∈ p := fun j hj => Classical.byContradiction fun hm => hno ⟨j, hj, (h1.free (Nat.le_refl _) hj).2 hm⟩
  have : (List.range n).length ≤ p.length := by
    have e : p = List.range n := sorted_eq _ _ h1.sorted List.pairwise_lt_range fun x => ⟨fun hx => by simpa using h1.lt_mem x hx, fun hx => hall x (by simpa using hx)⟩
    rw [e]; exact Nat.le_refl _
  have := h1.len
  simp at *
  omega
/-- product of C and F, of k in between -/
def prod (q : UInt8) (C F : Nat → Nat → UInt8) (k : Nat) : Nat → Nat → UInt8 := fun i j => sm k fun l => mul q (C i l) (F l j)
theorem Rk.fact (h : Rk q A r n k) : ∃ C F, ∀ i j, i < r → j < n → A i j = prod q C F k i j := by
  obtain ⟨B, p, h, rfl⟩ := h
  exact ⟨fun i s => A i (p.getD s 0), B, fun i j hi hj => h.factor (Nat.le_refl _) hi hj⟩
theorem Rk.le_fact (g : Gen q) {m : Nat} {C F : Nat → Nat → UInt8} (h : Rk q A r n k) (hf : ∀ i j, i < r → j < n → A i j = prod q C F m i j) : k ≤ m := by
  obtain ⟨B, p, h, rfl⟩ := h
  refine Classical.byContradiction fun hk => ?_
  obtain ⟨s, hs, y, hy, y1, y0⟩ := wide_free (A := fun l s => F l (p.getD s 0)) g (show m < p.length by omega)
  have hps : ∀ s, s < p.length → p[s]? = some (p.getD s 0) := fun s hs => by rw [List.getD_eq_getElem?_getD, List.getElem?_eq_getElem hs]; rfl
  have hpn : ∀ (s a : Nat), p[s]? = some a → a < n := h.lt
  have hfree : Free q A r n (p.getD s 0) := by
    refine ⟨fun t => sm p.length fun s => if p[s]? = some t then y s else 0, fun i hi => ?_, ?_, fun i h1 h2 => ?_⟩
    · rw [ap_at p y hpn]
      have e : ∀ s, s < p.length → mul q (A i (p.getD s 0)) (y s) = sm m fun l => mul q (C i l) (mul q (F l (p.getD s 0)) (y s)) := fun s hs => by
        rw [hf i _ hi (hpn s _ (hps s hs))]
        unfold prod
        rw [sm_mul]
        exact sm_congr m fun l _ => mul_assoc q _ _ _
      rw [sm_congr _ e, sm_swap]
      refine sm_null m fun l hl => ?_
      rw [← mul_sm]
      have := hy l hl
      unfold ap at this
      rw [this, mul_zero]
    · show sm p.length (fun t => if p[t]? = some (p.getD s 0) then y t else 0) = 1
      rw [sm_single s _ hs fun t ht hne => ?_, if_pos (hps s hs), y1]
      rw [if_neg]
      intro e
      exact hne (h.inj e (hps s hs))
    · refine sm_null _ fun t ht => ?_
      split
      · rename_i e
        rcases Nat.lt_trichotomy s t with h3 | h3 | h3
        · exact y0 t h3 ht
        · subst h3; rw [hps s hs] at e; injection e with e; omega
        · have := h.up t s i (p.getD s 0) e (hps s hs) h3; omega
      · rfl
  exact (h.free (Nat.le_refl _) (hpn s _ (hps s hs))).1 hfree (List.mem_of_getElem? (hps s hs))
theorem Rk.tr_le (g : Gen q) {k' : Nat} (h : Rk q A r n k) (h' : Rk q (fun i j => A j i) n r k') : k' ≤ k := by
  obtain ⟨C, F, hf⟩ := h.fact
  refine h'.le_fact g (C := fun i l => F l i) (F := fun l j => C j l) fun i j hi hj => ?_
  rw [hf j i hj hi]
  exact sm_congr k fun l _ => mul_comm q _ _
theorem Rk.tr (g : Gen q) {k' : Nat} (h : Rk q A r n k) (h' : Rk q (fun i j => A j i) n r k') : k' = k :=
  Nat.le_antisymm (h.tr_le g h') (h'.tr_le g h)
theorem prod_assoc (q : UInt8) (A B C : Nat → Nat → UInt8) (m k i j : Nat) : prod q (prod q A B m) C k i j = prod q A (prod q B C k) m i j := by
  unfold prod
  have e1 : ∀ l, l < k → mul q (sm m fun t => mul q (A i t) (B t l)) (C l j) = sm m fun t => mul q (A i t) (mul q (B t l) (C l j)) := fun l _ => by
    rw [sm_mul]; exact sm_congr m fun t _ => mul_assoc q _ _ _
  rw [sm_congr k e1, sm_swap]
  exact sm_congr m fun t _ => (mul_sm q _ _ k).symm
theorem prod_congr {q : UInt8} {A A' B B' : Nat → Nat → UInt8} {m i j : Nat} (ha : ∀ l, l < m → A i l = A' i l) (hb : ∀ l, l < m → B l j = B' l j) : prod q A B m i j = prod q A' B' m i j := by
  unfold prod
  exact sm_congr m fun l hl => by rw [ha l hl, hb l hl]
/-- a product has no more than its factors -/
theorem Rk.prod_le (g : Gen q) {m ka kb kp : Nat} {B : Nat → Nat → UInt8} (ha : Rk q A r m ka) (hb : Rk q B m n kb) (hp : Rk q (prod q A B m) r n kp) : kp ≤ ka ∧ kp ≤ kb := by
  constructor
  · obtain ⟨C, F, hf⟩ := ha.fact
    refine hp.le_fact g (C := C) (F := prod q F B m) fun i j hi hj => ?_
    rw [← prod_assoc]
    exact prod_congr (fun l hl => hf i l hi hl) fun _ _ => rfl
  · obtain ⟨C, F, hf⟩ := hb.fact
    refine hp.le_fact g (C := prod q A C m) (F := F) fun i j hi hj => ?_
    rw [prod_assoc]
    exact prod_congr (fun _ _ => rfl) fun l hl => hf l j hl hj
theorem Rk.zero_iff (h : Rk q A r n k) : k = 0 ↔ ∀ i j, i < r → j < n → A i j = 0 := by
  constructor
  · rintro rfl i j hi hj
    obtain ⟨C, F, hf⟩ := h.fact
    rw [hf i j hi hj]; rfl
  · intro h0
    obtain ⟨B, p, h, rfl⟩ := h
    cases p with
    | nil => rfl
    | cons a p =>
      have ha := h.lt 0 a rfl
      refine absurd (show a ∈ a :: p by simp) ((h.free (Nat.le_refl _) ha).1 ⟨fun i => if i = a then 1 else 0, fun i hi => ?_, by simp, fun i h1 _ => if_neg (by omega)⟩)
      rw [ap_unit ha]
      exact h0 i a hi ha
/-- full rank: no column is made by others -/
theorem Rk.full_iff (h : Rk q A r n k) : k = n ↔ ∀ j, j < n → ¬ Free q A r n j := by
  obtain ⟨B, p, h, rfl⟩ := h
  constructor
  · intro e j hj hf
    have hm := (h.free (Nat.le_refl _) hj).1 hf
    have h1 : (j :: p).length ≤ n := nodup_le n (j :: p) (List.nodup_cons.2 ⟨hm, h.sorted.imp fun h => by omega⟩) (by
      intro x hx
      rcases List.mem_cons.1 hx with rfl | hx
      · exact hj
      · exact h.lt_mem x hx)
    simp at h1
    omega
  · intro hf
    have e : p = List.range n := sorted_eq _ _ h.sorted List.pairwise_lt_range fun x => ⟨fun hx => by simpa using h.lt_mem x hx, fun hx => by
      have hx : x < n := by simpa using hx
      exact Classical.byContradiction fun hm => hf x hx ((h.free (Nat.le_refl _) hx).2 hm)⟩
    rw [e]; simp
/-- no column is free just if nothing but zeros is taken to zeros -/
theorem free_iff (g : Gen q) : (∀ j, j < n → ¬ Free q A r n j) ↔ ∀ x, Null q A r n x → ∀ j, j < n → x j = 0 := by
  constructor
  · intro hf x hx
    have key : ∀ m, ∀ j, n - m ≤ j → j < n → x j = 0 := by
      intro m
      induction m with
      | zero => intro j h1 h2; omega
      | succ m ih =>
        intro j h1 h2
        by_cases e : n - m ≤ j
        · exact ih j e h2
        · refine Classical.byContradiction fun hne => ?_
          obtain ⟨c, hc⟩ := inv_ex g (x j) hne
          refine hf j h2 ⟨fun i => mul q (x i) c, fun i hi => ?_, hc, fun i h3 h4 => by show mul q (x i) c = 0; rw [ih i (by omega) h4, zero_mul]⟩
          have h5 : ap q A n (fun i => mul q (x i) c) i = mul q (ap q A n x i) c := by
            unfold ap
            rw [sm_mul]
            exact sm_congr n fun t _ => (mul_assoc q _ _ _).symm
          rw [h5, hx i hi, zero_mul]
    intro j hj
    exact key n j (by omega) hj
  · rintro h j hj ⟨x, hx, h1, _⟩
    have := h x hx j hj
    rw [h1] at this
    exact absurd this (by decide)
end
end Mx
end Go.Proofs.Ytkklonldplekcaa
