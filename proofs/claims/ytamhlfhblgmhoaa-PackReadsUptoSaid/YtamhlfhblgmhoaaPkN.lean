/- Reading a number's form: there and back, in plain words. -/
import Derived.Test.YtamhlfhblgmhoaaPkM
namespace Go.Proofs.Ytamhlfhblgmhoaa.Pk
/-- a number from the front: it, how many bytes it has, what is wrong -/
def num (max : Int) (i acc : Nat) : List UInt8 → Nat × Nat × Int
  | [] => if 9 ≤ i then (0, 0, 31) else (0, 0, 30)
  | c :: r => if 9 ≤ i then (0, 0, 31) else
      if c.toNat < 128 then
        if c.toNat = 0 ∧ 0 < i then (0, 0, 31) else if max < ((acc + c.toNat % 128 * 2 ^ (7 * i) : Nat) : Int) then (0, 0, 33) else (acc + c.toNat % 128 * 2 ^ (7 * i), i + 1, 0)
      else num max (i + 1) (acc + c.toNat % 128 * 2 ^ (7 * i)) r
theorem pow_step (i : Nat) : 2 ^ (7 * (i + 1)) = 128 * 2 ^ (7 * i) := by rw [Nat.mul_add, Nat.pow_add]; omega
theorem ofNat_toNat (n : Nat) (h : n < 256) : (UInt8.ofNat n).toNat = n := by rw [UInt8.toNat_ofNat']; omega
theorem num_form (max : Int) (rest : List UInt8) (n : Nat) : ∀ (i acc : Nat), i + (form n).length ≤ 9 → (0 < i → n ≠ 0) → ((acc + n * 2 ^ (7 * i) : Nat) : Int) ≤ max →
    num max i acc (form n ++ rest) = (acc + n * 2 ^ (7 * i), i + (form n).length, 0) := by
  induction n using Nat.strongRecOn with
  | _ n ih =>
    intro i acc h9 h0 hm
    rcases Nat.lt_or_ge n 128 with h | h
    · rw [form_small n h] at h9 ⊢
      simp only [List.length_cons, List.length_nil] at h9
      simp only [List.cons_append, List.nil_append, num, ofNat_toNat n (by omega), List.length_cons, List.length_nil]
      rw [if_neg (by omega), if_pos h, if_neg (by rintro ⟨h1, h2⟩; exact h0 h2 h1), Nat.mod_eq_of_lt h, if_neg (by omega)]
    · have hp := form_pos (n / 128)
      rw [form_big n h] at h9 ⊢
      simp only [List.length_cons] at h9
      simp only [List.cons_append, num, ofNat_toNat (n % 128 + 128) (by omega), List.length_cons]
      rw [if_neg (by omega), if_neg (by omega)]
      have e1 : acc + (n % 128 + 128) % 128 * 2 ^ (7 * i) + n / 128 * 2 ^ (7 * (i + 1)) = acc + n * 2 ^ (7 * i) := by
        rw [pow_step, show (n % 128 + 128) % 128 = n % 128 by omega, Nat.add_assoc, ← Nat.mul_assoc, ← Nat.add_mul]
        congr 2; omega
      rw [ih (n / 128) (by omega) (i + 1) _ (by omega) (fun _ => by omega) (by rw [e1]; exact hm), e1]
      simp; omega
theorem num_back (max : Int) (l : List UInt8) : ∀ (i acc v s : Nat), num max i acc l = (v, s, 0) →
    ∃ n rest, l = form n ++ rest ∧ v = acc + n * 2 ^ (7 * i) ∧ s = i + (form n).length ∧ (v : Int) ≤ max ∧ i + (form n).length ≤ 9 ∧ (0 < i → n ≠ 0) := by
  induction l with
  | nil => intro i acc v s h; simp only [num] at h; split at h <;> simp at h
  | cons c r ih =>
    intro i acc v s h
    simp only [num] at h
    split at h
    · simp at h
    · rename_i h9
      split at h
      · rename_i hc
        split at h
        · simp at h
        · rename_i hz
          split at h
          · simp at h
          · rename_i hm
            simp only [Prod.mk.injEq, and_true] at h
            refine ⟨c.toNat, r, ?_, ?_, ?_, by omega, ?_, fun hi e => hz ⟨e, hi⟩⟩
            · rw [form_small _ hc]; simp
            · rw [← h.1, Nat.mod_eq_of_lt hc]
            · rw [form_small _ hc]; simp; omega
            · rw [form_small _ hc]; simp; omega
      · rename_i hc
        obtain ⟨n, rest, h1, h2, h3, h4, h5, h6⟩ := ih _ _ _ _ h
        have hn := h6 (by omega)
        have hb := c.toNat_lt
        have e0 : form (c.toNat % 128 + 128 * n) = c :: form n := by
          rw [form_big _ (by omega), show (c.toNat % 128 + 128 * n) % 128 + 128 = c.toNat by omega, show (c.toNat % 128 + 128 * n) / 128 = n by omega]
          simp
        refine ⟨c.toNat % 128 + 128 * n, rest, by rw [e0, h1]; rfl, ?_, ?_, h4, ?_, fun _ => by omega⟩
        · rw [h2, pow_step, Nat.add_assoc, Nat.add_mul, Nat.mul_comm 128 n, Nat.mul_assoc]
        · rw [e0, h3]; simp; omega
        · rw [e0]; simp; omega
theorem num_short (max : Int) (n : Nat) : ∀ (i acc : Nat), i + (form n).length ≤ 9 → num max i acc (form n).dropLast = (0, 0, 30) := by
  induction n using Nat.strongRecOn with
  | _ n ih =>
    intro i acc h9
    rcases Nat.lt_or_ge n 128 with h | h
    · rw [form_small n h] at h9 ⊢
      simp only [List.length_cons, List.length_nil] at h9
      simp only [List.dropLast_singleton, num]
      rw [if_neg (by omega)]
    · have hp := form_pos (n / 128)
      have hne : form (n / 128) ≠ [] := fun e => by rw [e] at hp; simp at hp
      rw [form_big n h] at h9 ⊢
      simp only [List.length_cons] at h9
      rw [List.dropLast_cons_of_ne_nil hne]
      simp only [num, ofNat_toNat (n % 128 + 128) (by omega)]
      rw [if_neg (by omega), if_neg (by omega)]
      exact ih (n / 128) (by omega) (i + 1) _ (by omega)
theorem num_err (max : Int) (l : List UInt8) : ∀ (i acc : Nat), (num max i acc l).2.2 ≠ 0 → (num max i acc l).1 = 0 ∧ (num max i acc l).2.1 = 0 := by
  induction l with
  | nil => intro i acc _; simp only [num]; split <;> simp
  | cons c r ih =>
    intro i acc h
    simp only [num] at h ⊢
    split
    · simp
    · rename_i h9
      rw [if_neg h9] at h
      split
      · rename_i hc
        rw [if_pos hc] at h
        split
        · simp
        · rename_i hz
          rw [if_neg hz] at h
          split
          · simp
          · rename_i hm
            rw [if_neg hm] at h; simp at h
      · rename_i hc
        rw [if_neg hc] at h
        exact ih _ _ h
theorem or_shift (a c k : Nat) (h : a < 2 ^ k) : a ||| c * 2 ^ k = a + c * 2 ^ k := by
  rw [Nat.or_comm, ← Nat.shiftLeft_eq, ← Nat.shiftLeft_add_eq_or_of_lt h]; omega
end Go.Proofs.Ytamhlfhblgmhoaa.Pk
