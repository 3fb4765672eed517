/- A polynomial over the field has fewer zeros than coefficients. -/
import Derived.Test.YtkklonldplekcaaGfW
namespace Go.Proofs.Ytkklonldplekcaa
open Go.RowKit
namespace Gf
section
variable {q : UInt8}
/-- the quotient by (x - a), the rest left out -/
def quo (q a : UInt8) : List UInt8 → List UInt8
  | [] => []
  | [_] => []
  | _ :: b :: l => evalFrom q a (b :: l) :: quo q a (b :: l)
theorem quo_length (a : UInt8) : ∀ p : List UInt8, (quo q a p).length = p.length - 1
  | [] => rfl
  | [_] => rfl
  | _ :: b :: l => by simp [quo, quo_length a (b :: l)]
theorem quo_eval (a x : UInt8) : ∀ p : List UInt8, evalFrom q x p = mul q (x ^^^ a) (evalFrom q x (quo q a p)) ^^^ evalFrom q a p
  | [] => by simp [evalFrom, quo, mul_zero]
  | [c] => by simp [evalFrom, quo, mul_zero, zero_mul]
  | c :: b :: l => by
    have ih := quo_eval a x (b :: l)
    show mul q (evalFrom q x (b :: l)) x ^^^ c = mul q (x ^^^ a) (mul q (evalFrom q x (quo q a (b :: l))) x ^^^ evalFrom q a (b :: l)) ^^^ (mul q (evalFrom q a (b :: l)) a ^^^ c)
    rw [ih]
    generalize evalFrom q x (quo q a (b :: l)) = s
    generalize evalFrom q a (b :: l) = t
    rw [xor_mul, mul_xor, mul_assoc, xor_mul q x a t, mul_comm q t x, mul_comm q t a]
    generalize mul q (x ^^^ a) (mul q s x) = u
    generalize mul q x t = y
    generalize mul q a t = z
    rw [UInt8.xor_assoc u (y ^^^ z), ← UInt8.xor_assoc (y ^^^ z), UInt8.xor_assoc y z z, UInt8.xor_self, UInt8.xor_zero, UInt8.xor_assoc]
theorem quo_zero (a : UInt8) : ∀ p : List UInt8, (∀ b ∈ quo q a p, b = 0) → evalFrom q a p = 0 → ∀ b ∈ p, b = 0
  | [], _, _ => by simp
  | [c], _, h => by
    simp [evalFrom, zero_mul] at h
    simp [h]
  | c :: b :: l, h, h0 => by
    have h1 : evalFrom q a (b :: l) = 0 := h _ (by simp [quo])
    have ih := quo_zero a (b :: l) (fun d hd => h d (by simp only [quo]; exact List.mem_cons_of_mem _ hd)) h1
    have h2 : c = 0 := by
      have : mul q (evalFrom q a (b :: l)) a ^^^ c = 0 := h0
      rw [h1, zero_mul, UInt8.zero_xor] at this
      exact this
    intro d hd
    rcases List.mem_cons.1 hd with e | e
    · rw [e, h2]
    · exact ih d e
theorem roots_le (g : Gen q) : ∀ (n : Nat) (p : List UInt8) (xs : List Nat), p.length = n → (∃ b ∈ p, b ≠ 0) → xs.Nodup → (∀ x ∈ xs, x < 256 ∧ evalFrom q (UInt8.ofNat x) p = 0) → xs.length < n
  | 0, p, xs, hp, ⟨b, hb, _⟩, _, _ => by
    have : p = [] := List.length_eq_zero_iff.1 hp
    subst this
    cases hb
  | n + 1, p, [], _, _, _, _ => by simp
  | n + 1, p, x0 :: xs, hp, hne, hnd, hr => by
    have h0 := hr x0 (by simp)
    have hnd' := List.nodup_cons.1 hnd
    have := roots_le g n (quo q (UInt8.ofNat x0) p) xs (by rw [quo_length, hp]; rfl) (by
      refine Classical.byContradiction fun hn => ?_
      obtain ⟨b, hb, hb0⟩ := hne
      exact hb0 (quo_zero (UInt8.ofNat x0) p (fun d hd => Classical.byContradiction fun h => hn ⟨d, hd, h⟩) h0.2 b hb)) hnd'.2 (fun x hx => by
      have hx1 := hr x (List.mem_cons_of_mem _ hx)
      refine ⟨hx1.1, ?_⟩
      have e := quo_eval (q := q) (UInt8.ofNat x0) (UInt8.ofNat x) p
      rw [hx1.2, h0.2, UInt8.xor_zero] at e
      rcases (mul_eq_zero g _ _).1 e.symm with h | h
      · exfalso
        have h3 : UInt8.ofNat x = UInt8.ofNat x0 := UInt8.xor_eq_zero_iff.1 h
        have h4 := congrArg UInt8.toNat h3
        simp at h4
        have : x = x0 := by have := hx1.1; have := h0.1; omega
        subst this
        exact hnd'.1 hx
      · exact h)
    simp only [List.length_cons]
    omega
/-- the zeros below k -/
def zeros (q : UInt8) (p : List UInt8) (k : Nat) : Nat := ((List.range k).filter fun x => evalFrom q (UInt8.ofNat x) p == 0).length
theorem zeros_succ (p : List UInt8) (k : Nat) : zeros q p (k + 1) = zeros q p k + if evalFrom q (UInt8.ofNat k) p = 0 then 1 else 0 := by
  unfold zeros
  rw [List.range_succ, List.filter_append, List.length_append]
  congr 1
  by_cases h : evalFrom q (UInt8.ofNat k) p = 0
  · simp [h]
  · simp [h]
theorem zeros_le (p : List UInt8) (k : Nat) : zeros q p k ≤ k := by
  unfold zeros
  have := List.length_filter_le (fun x => evalFrom q (UInt8.ofNat x) p == 0) (List.range k)
  simpa using this
theorem zeros_lt (g : Gen q) (p : List UInt8) (h : ∃ b ∈ p, b ≠ 0) : zeros q p 256 < p.length :=
  roots_le g p.length p _ rfl h (List.Pairwise.filter _ List.nodup_range) (fun x hx => by simpa using hx)
theorem eval_null (x : UInt8) : ∀ p : List UInt8, (∀ b ∈ p, b = 0) → evalFrom q x p = 0
  | [], _ => rfl
  | a :: l, h => by
    show mul q (evalFrom q x l) x ^^^ a = 0
    rw [eval_null x l (fun b hb => h b (List.mem_cons_of_mem _ hb)), zero_mul, h a (by simp)]; rfl
theorem zeros_null (p : List UInt8) (h : ∀ b ∈ p, b = 0) (k : Nat) : zeros q p k = k := by
  unfold zeros
  simp only [eval_null _ p h, beq_self_eq_true]
  rw [List.filter_eq_self.2 (fun _ _ => rfl), List.length_range]
theorem eval_sum (x : UInt8) : ∀ (p r : List UInt8), p.length = r.length → evalFrom q x (List.zipWith (· ^^^ ·) p r) = evalFrom q x p ^^^ evalFrom q x r
  | [], [], _ => by simp [evalFrom]
  | a :: l, b :: m, h => by
    have ih := eval_sum x l m (by simpa using h)
    show mul q (evalFrom q x (List.zipWith (· ^^^ ·) l m)) x ^^^ (a ^^^ b) = (mul q (evalFrom q x l) x ^^^ a) ^^^ (mul q (evalFrom q x m) x ^^^ b)
    rw [ih, xor_mul]
    generalize mul q (evalFrom q x l) x = u
    generalize mul q (evalFrom q x m) x = v
    rw [UInt8.xor_assoc, UInt8.xor_assoc, ← UInt8.xor_assoc v, UInt8.xor_comm v a, UInt8.xor_assoc a v]
end
end Gf
end Go.Proofs.Ytkklonldplekcaa
