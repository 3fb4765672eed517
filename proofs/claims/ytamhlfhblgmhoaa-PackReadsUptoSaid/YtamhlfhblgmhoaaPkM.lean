/- The form of a number: seven bits a byte, in plain words. -/
namespace Go.Proofs.Ytamhlfhblgmhoaa.Pk
/-- the bytes of a number -/
def form (n : Nat) : List UInt8 := if n < 128 then [UInt8.ofNat n] else UInt8.ofNat (n % 128 + 128) :: form (n / 128)
termination_by n
decreasing_by omega
theorem form_small (n : Nat) (h : n < 128) : form n = [UInt8.ofNat n] := by rw [form, if_pos h]
theorem form_big (n : Nat) (h : 128 ≤ n) : form n = UInt8.ofNat (n % 128 + 128) :: form (n / 128) := by rw [form, if_neg (by omega)]
theorem form_pos (n : Nat) : 0 < (form n).length := by
  rcases Nat.lt_or_ge n 128 with h | h
  · rw [form_small n h]; simp
  · rw [form_big n h]; simp
theorem form_lt (n : Nat) : n < 2 ^ (7 * (form n).length) := by
  induction n using Nat.strongRecOn with
  | _ n ih =>
    rcases Nat.lt_or_ge n 128 with h | h
    · rw [form_small n h]; simpa using h
    · have := ih (n / 128) (by omega)
      rw [form_big n h, List.length_cons, Nat.mul_add, Nat.pow_add]
      omega
theorem form_ge (n : Nat) (h1 : (form n).length ≠ 1) : 2 ^ (7 * (form n).length - 7) ≤ n := by
  induction n using Nat.strongRecOn with
  | _ n ih =>
    rcases Nat.lt_or_ge n 128 with h | h
    · rw [form_small n h] at h1; simp at h1
    · rw [form_big n h, List.length_cons]
      have hp := form_pos (n / 128)
      by_cases h2 : (form (n / 128)).length = 1
      · rw [h2]; simpa using h
      · have := ih (n / 128) (by omega) h2
        have e : 7 * ((form (n / 128)).length + 1) - 7 = 7 * (form (n / 128)).length - 7 + 7 := by omega
        rw [e, Nat.pow_add]
        omega
theorem form_le (n k : Nat) (h : n < 2 ^ (7 * k)) (hk : 0 < k) : (form n).length ≤ k := by
  rcases Nat.lt_or_ge k (form n).length with h1 | h1
  · have h2 := form_ge n (by omega)
    have h3 : 2 ^ (7 * k) ≤ 2 ^ (7 * (form n).length - 7) := Nat.pow_le_pow_right (by decide) (by omega)
    omega
  · exact h1
theorem form_nine (n : Nat) (h : n ≤ 9223372036854775807) : (form n).length ≤ 9 := form_le n 9 (by omega) (by decide)
theorem form_mono (m n : Nat) (h : m ≤ n) : (form m).length ≤ (form n).length := form_le m _ (Nat.lt_of_le_of_lt h (form_lt n)) (form_pos n)
end Go.Proofs.Ytamhlfhblgmhoaa.Pk
