/- The fields of 256 elements as mathematics: bytes as polynomials, products bit by bit, powers of x. No program in sight. -/
namespace Go.Proofs.Ytkklonldplekcaa.Gf

/-- times x, modulo x^8 + q -/
def xt (q a : UInt8) : UInt8 := ⟨(a.toBitVec <<< 1) ^^^ (if a.toBitVec.msb then q.toBitVec else 0#8)⟩
def it (q : UInt8) : Nat → UInt8 → UInt8
  | 0, a => a
  | n + 1, a => it q n (xt q a)
theorem it_add (q : UInt8) (m n : Nat) (a : UInt8) : it q (m + n) a = it q n (it q m a) := by
  induction m generalizing a with
  | zero => simp [it]
  | succ m ih => rw [Nat.succ_add]; exact ih _
theorem it_succ (q : UInt8) (n : Nat) (a : UInt8) : it q (n + 1) a = xt q (it q n a) := by rw [it_add]; rfl
theorem it_comm (q : UInt8) (m n : Nat) (a : UInt8) : it q m (it q n a) = it q n (it q m a) := by rw [← it_add, ← it_add, Nat.add_comm]
theorem xt_xor (q a b : UInt8) : xt q (a ^^^ b) = xt q a ^^^ xt q b := by
  apply UInt8.eq_of_toBitVec_eq
  show ((a.toBitVec ^^^ b.toBitVec) <<< 1) ^^^ _ = ((a.toBitVec <<< 1) ^^^ _) ^^^ ((b.toBitVec <<< 1) ^^^ _)
  rw [BitVec.shiftLeft_xor_distrib, UInt8.toBitVec_xor, BitVec.msb_xor]
  cases a.toBitVec.msb <;> cases b.toBitVec.msb <;> simp
  · ac_rfl
  · ac_rfl
  · have : ∀ x y z : BitVec 8, x ^^^ y = x ^^^ z ^^^ (y ^^^ z) := by
      intro x y z
      have : x ^^^ z ^^^ (y ^^^ z) = (x ^^^ y) ^^^ (z ^^^ z) := by ac_rfl
      rw [this]; simp
    exact this _ _ _
theorem it_xor (q : UInt8) (n : Nat) (a b : UInt8) : it q n (a ^^^ b) = it q n a ^^^ it q n b := by
  induction n generalizing a b with
  | zero => rfl
  | succ n ih => show it q n (xt q (a ^^^ b)) = _; rw [xt_xor]; exact ih _ _
theorem xt_zero (q : UInt8) : xt q 0 = 0 := by
  have := xt_xor q 0 0
  simp at this; exact this
theorem it_zero (q : UInt8) (n : Nat) : it q n 0 = 0 := by
  induction n with
  | zero => rfl
  | succ n ih => show it q n (xt q 0) = 0; rw [xt_zero]; exact ih

/-- the sum of the pictures of the bits below n -/
def lin (f : Nat → UInt8) (b : UInt8) : Nat → UInt8
  | 0 => 0
  | i + 1 => lin f b i ^^^ (if b.toBitVec.getLsbD i then f i else 0)
theorem lin_xor (f : Nat → UInt8) (a b : UInt8) (n : Nat) : lin f (a ^^^ b) n = lin f a n ^^^ lin f b n := by
  induction n with
  | zero => simp [lin]
  | succ n ih =>
    unfold lin
    rw [ih, UInt8.toBitVec_xor, BitVec.getLsbD_xor]
    have h : ∀ x y z : UInt8, x ^^^ y = x ^^^ z ^^^ (y ^^^ z) := by
      intro x y z
      have : x ^^^ z ^^^ (y ^^^ z) = (x ^^^ y) ^^^ (z ^^^ z) := by ac_rfl
      rw [this]; simp
    cases a.toBitVec.getLsbD n <;> cases b.toBitVec.getLsbD n <;> simp
    · ac_rfl
    · ac_rfl
    · exact h _ _ _
theorem lin_map {g : UInt8 → UInt8} (hg : ∀ a b, g (a ^^^ b) = g a ^^^ g b) (f : Nat → UInt8) (b : UInt8) (n : Nat) : g (lin f b n) = lin (fun i => g (f i)) b n := by
  have h0 : g 0 = 0 := by have := hg 0 0; simp at this; exact this
  induction n with
  | zero => exact h0
  | succ n ih => unfold lin; rw [hg, ih]; cases b.toBitVec.getLsbD n <;> simp [h0]
theorem lin_congr {f g : Nat → UInt8} (b : UInt8) (n : Nat) (h : ∀ i, i < n → f i = g i) : lin f b n = lin g b n := by
  induction n with
  | zero => rfl
  | succ n ih => unfold lin; rw [ih (fun i hi => h i (by omega)), h n (by omega)]
/-- sums in two indexes may be taken in either order -/
theorem lin_swap (f : Nat → Nat → UInt8) (a b : UInt8) (m n : Nat) : lin (fun i => lin (fun j => f i j) b n) a m = lin (fun j => lin (fun i => f i j) a m) b n := by
  induction m with
  | zero =>
    show 0 = _
    have : ∀ n, lin (fun _ => (0 : UInt8)) b n = 0 := by
      intro n
      induction n with
      | zero => rfl
      | succ n ih => unfold lin; rw [ih]; simp
    exact (this n).symm
  | succ m ih =>
    show lin _ a m ^^^ _ = _
    rw [ih]
    have h : ∀ n, lin (fun j => lin (fun i => f i j) a (m + 1)) b n = lin (fun j => lin (fun i => f i j) a m) b n ^^^ (if a.toBitVec.getLsbD m then lin (fun j => f m j) b n else 0) := by
      intro n
      induction n with
      | zero => simp [lin]
      | succ n ihn =>
        show lin _ b n ^^^ _ = (lin _ b n ^^^ _) ^^^ _
        rw [ihn]
        show _ ^^^ (if b.toBitVec.getLsbD n then lin (fun i => f i n) a m ^^^ _ else 0) = _ ^^^ (if _ then lin _ b n ^^^ _ else 0)
        cases a.toBitVec.getLsbD m <;> cases b.toBitVec.getLsbD n <;> simp
        ac_rfl
    exact (h n).symm

/-- the product, bit by bit -/
def mul (q a b : UInt8) : UInt8 := lin (fun i => it q i a) b 8
def bit (i : Nat) : UInt8 := UInt8.ofNat (2 ^ i)
theorem it_one : ∀ q i, i < 8 → it q i 1 = bit i := by
  intro q i hi
  have h : ∀ i, i < 7 → xt q (bit i) = bit (i + 1) := by
    intro i hi
    have : i = 0 ∨ i = 1 ∨ i = 2 ∨ i = 3 ∨ i = 4 ∨ i = 5 ∨ i = 6 := by omega
    rcases this with rfl | rfl | rfl | rfl | rfl | rfl | rfl <;> (unfold xt; rw [if_neg (by decide)]; decide)
  induction i with
  | zero => rfl
  | succ i ih => rw [it_succ, ih (by omega), h i (by omega)]
theorem lin_bits (b : UInt8) : lin bit b 8 = b := by
  have : ∀ b : Fin 256, lin bit (UInt8.ofNat b.val) 8 = UInt8.ofNat b.val := by decide +kernel
  have h := this ⟨b.toNat, b.toNat_lt⟩
  simpa using h
theorem mul_one' (q a : UInt8) : mul q 1 a = a := by
  unfold mul
  rw [lin_congr a 8 (fun i hi => it_one q i hi), lin_bits]
/-- a product is a sum over the bits of both -/
theorem mul_two (q a b : UInt8) : mul q a b = lin (fun i => lin (fun j => it q (i + j) 1) a 8) b 8 := by
  unfold mul
  apply lin_congr
  intro i hi
  conv => lhs; rw [← lin_bits a]
  rw [lin_map (it_xor q i)]
  apply lin_congr
  intro j hj
  rw [← it_one q j hj, ← it_add, Nat.add_comm]
theorem mul_comm (q a b : UInt8) : mul q a b = mul q b a := by
  rw [mul_two, lin_swap, mul_two]
  apply lin_congr; intro j _
  apply lin_congr; intro i _
  rw [Nat.add_comm]
theorem mul_xor (q a b c : UInt8) : mul q a (b ^^^ c) = mul q a b ^^^ mul q a c := lin_xor _ b c 8
theorem xor_mul (q a b c : UInt8) : mul q (a ^^^ b) c = mul q a c ^^^ mul q b c := by rw [mul_comm, mul_xor, mul_comm q c a, mul_comm q c b]
theorem mul_one (q a : UInt8) : mul q a 1 = a := by rw [mul_comm, mul_one']
theorem mul_zero (q a : UInt8) : mul q a 0 = 0 := by
  have := mul_xor q a 0 0
  simp at this; exact this
theorem zero_mul (q a : UInt8) : mul q 0 a = 0 := by rw [mul_comm, mul_zero]
theorem mul_it (q a b : UInt8) (n : Nat) : mul q (it q n a) b = it q n (mul q a b) := by
  unfold mul
  rw [lin_map (it_xor q n)]
  apply lin_congr; intro i _
  exact it_comm q i n a
theorem mul_assoc (q a b c : UInt8) : mul q (mul q a b) c = mul q a (mul q b c) := by
  -- over the bits of b: both sides are linear in b
  have h : ∀ i, mul q (it q i a) c = mul q a (it q i c) := fun i => by rw [mul_it, mul_comm q a (it q i c), mul_it, mul_comm q c a]
  have e1 : mul q (mul q a b) c = lin (fun i => mul q (it q i a) c) b 8 := by
    have e : mul q a b = lin (fun i => it q i a) b 8 := rfl
    rw [e]
    exact lin_map (g := fun x => mul q x c) (fun x y => xor_mul q x y c) _ b 8
  have e2 : mul q a (mul q b c) = lin (fun i => mul q a (it q i c)) b 8 := by
    rw [mul_comm q b c]
    have e : mul q c b = lin (fun i => it q i c) b 8 := rfl
    rw [e]
    exact lin_map (g := fun x => mul q a x) (fun x y => mul_xor q a x y) _ b 8
  rw [e1, e2]
  exact lin_congr b 8 fun i _ => h i
/-- the powers of x -/
def pw (q : UInt8) (i : Nat) : UInt8 := it q i 1
theorem pw_mul (q : UInt8) (i : Nat) (b : UInt8) : mul q (pw q i) b = it q i b := by unfold pw; rw [mul_it, mul_one']
theorem pw_add (q : UInt8) (i j : Nat) : mul q (pw q i) (pw q j) = pw q (i + j) := by rw [pw_mul]; unfold pw; rw [← it_add, Nat.add_comm]


/-! ### x as a generator -/
def Gen (q : UInt8) : Prop := (∀ i, 0 < i → i < 255 → pw q i ≠ 0 ∧ pw q i ≠ 1) ∧ pw q 255 = 1
section
variable {q : UInt8} (g : Gen q)
include g
theorem it255 (b : UInt8) : it q 255 b = b := by rw [← pw_mul, g.2, mul_one']
theorem it_mul255 (n : Nat) (b : UInt8) : it q (255 * n) b = b := by
  induction n with
  | zero => rfl
  | succ n ih => rw [Nat.mul_succ, it_add, ih, it255 g]
theorem pw_mod (i : Nat) : pw q (i % 255) = pw q i := by
  conv => rhs; rw [← Nat.div_add_mod i 255]
  unfold pw
  rw [it_add, it_mul255 g]
theorem pw_period (i : Nat) : pw q (i + 255) = pw q i := by rw [← pw_mod g (i + 255), ← pw_mod g i]; congr 1; omega
theorem pw_ne (i : Nat) : pw q i ≠ 0 := by
  rw [← pw_mod g i]
  rcases Nat.eq_zero_or_pos (i % 255) with h | h
  · rw [h]; show (1 : UInt8) ≠ 0; decide
  · exact (g.1 _ h (Nat.mod_lt _ (by omega))).1
theorem pw_inj {i j : Nat} (hi : i < 255) (hj : j < 255) (h : pw q i = pw q j) : i = j := by
  have key : ∀ {i j : Nat}, i < j → j < 255 → pw q i = pw q j → False := by
    intro i j hij hj h
    have h1 : it q (255 - i) (pw q i) = 1 := by unfold pw; rw [← it_add, show i + (255 - i) = 255 by omega]; exact g.2
    have h2 : it q (255 - i) (pw q j) = pw q (j - i) := by
      unfold pw; rw [← it_add, show j + (255 - i) = 255 + (j - i) by omega, it_add, it255 g]
    rw [h, h2] at h1
    exact (g.1 (j - i) (by omega) (by omega)).2 h1
  rcases Nat.lt_trichotomy i j with h1 | h1 | h1
  · exact (key h1 hj h).elim
  · exact h1
  · exact (key h1 hi h.symm).elim
omit g in
theorem nodup_le : ∀ (n : Nat) (l : List Nat), l.Nodup → (∀ x ∈ l, x < n) → l.length ≤ n
  | 0, l, _, h => by
    cases l with
    | nil => exact Nat.le_refl _
    | cons a l => exact absurd (h a (by simp)) (by omega)
  | n + 1, l, hd, h => by
    by_cases hm : n ∈ l
    · have h1 := nodup_le n (l.erase n) (hd.erase n) (fun x hx => by
        have h2 := (List.Nodup.mem_erase_iff hd).1 hx
        have := h x h2.2
        have := h2.1
        omega)
      rw [List.length_erase_of_mem hm] at h1
      omega
    · have h1 := nodup_le n l hd (fun x hx => by
        have := h x hx
        have : x ≠ n := fun e => hm (e ▸ hx)
        omega)
      omega
theorem pw_surj (a : UInt8) (ha : a ≠ 0) : ∃ i, i < 255 ∧ pw q i = a := by
  apply Classical.byContradiction
  intro hn
  have hn' : ∀ i, i < 255 → pw q i ≠ a := fun i hi h => hn ⟨i, hi, h⟩
  have hl := nodup_le 255 ((a :: (List.range 255).map (pw q)).map fun b => b.toNat - 1) ?_ ?_
  · simp at hl
  · have hpos : ∀ b ∈ a :: (List.range 255).map (pw q), b ≠ 0 := by
      intro b hb
      rcases List.mem_cons.1 hb with rfl | hb
      · exact ha
      · obtain ⟨i, _, rfl⟩ := List.mem_map.1 hb
        exact pw_ne g i
    have hnd : (a :: (List.range 255).map (pw q)).Nodup := by
      rw [List.nodup_cons]
      constructor
      · intro hm
        obtain ⟨i, hi, h⟩ := List.mem_map.1 hm
        exact hn' i (List.mem_range.1 hi) h
      · unfold List.Nodup
        rw [List.pairwise_map]
        refine List.Pairwise.imp_of_mem ?_ (List.nodup_range (n := 255))
        intro i j hi hj hij h
        exact hij (pw_inj g (List.mem_range.1 hi) (List.mem_range.1 hj) h)
    unfold List.Nodup
    rw [List.pairwise_map]
    refine List.Pairwise.imp_of_mem ?_ hnd
    intro b c hb hc hbc h
    have h1 := hpos b hb
    have h2 := hpos c hc
    have h3 : b.toNat ≠ 0 := fun e => h1 (UInt8.toNat_inj.1 e)
    have h4 : c.toNat ≠ 0 := fun e => h2 (UInt8.toNat_inj.1 e)
    exact hbc (UInt8.toNat_inj.1 (by omega))
  · intro x hx
    obtain ⟨b, _, rfl⟩ := List.mem_map.1 hx
    have := b.toNat_lt
    omega
theorem inv_ex (a : UInt8) (ha : a ≠ 0) : ∃ b, mul q a b = 1 := by
  obtain ⟨i, hi, rfl⟩ := pw_surj g a ha
  exact ⟨pw q (255 - i), by rw [pw_add, show i + (255 - i) = 255 by omega]; exact g.2⟩
theorem mul_eq_zero (a b : UInt8) : mul q a b = 0 ↔ a = 0 ∨ b = 0 := by
  constructor
  · intro h
    by_cases ha : a = 0
    · exact .inl ha
    · obtain ⟨c, hc⟩ := inv_ex g a ha
      right
      have : mul q c (mul q a b) = b := by rw [← mul_assoc, mul_comm q c a, hc, mul_one']
      rw [h, mul_zero] at this
      exact this.symm
  · rintro (rfl | rfl)
    · exact zero_mul q b
    · exact mul_zero q a
omit g in
theorem inv_unique {a b c : UInt8} (h : mul q a b = 1) (h' : mul q a c = 1) : b = c := by
  have h1 : mul q (mul q b a) c = mul q b (mul q a c) := mul_assoc q b a c
  rw [mul_comm q b a, h, h', mul_one', mul_one] at h1
  exact h1.symm
end

/-! ### the sixteen -/
def qs : List UInt8 := [0x1d, 0x2b, 0x2d, 0x4d, 0x5f, 0x63, 0x65, 0x69, 0x71, 0x87, 0x8d, 0xa9, 0xc3, 0xcf, 0xe7, 0xf5]
/-- the same test with numbers alone, fit for the kernel -/
def nx (p : Nat) (x : Nat) : Nat := let y := 2 * x; if y < 256 then y else y ^^^ p
theorem xt_nat (q a : UInt8) : (xt q a).toNat = nx (256 + q.toNat) a.toNat := by
  have h : ∀ b : Fin 256, (b.val < 128 → (xt q (UInt8.ofNat b.val)).toNat = 2 * b.val) ∧ (128 ≤ b.val → (xt q (UInt8.ofNat b.val)) = UInt8.ofNat (2 * b.val - 256) ^^^ q) := by
    intro b
    have h1 : (UInt8.ofNat b.val).toBitVec.msb = decide (128 ≤ b.val) := by revert b; decide +kernel
    have h2 : (UInt8.ofNat b.val).toBitVec <<< 1 = (UInt8.ofNat (2 * b.val - if 128 ≤ b.val then 256 else 0)).toBitVec := by revert b; decide +kernel
    constructor
    · intro hb
      have : ¬ 128 ≤ b.val := by omega
      unfold xt
      rw [h1, h2]
      simp only [this, decide_false, Bool.false_eq_true, if_false, BitVec.xor_zero, Nat.sub_zero]
      show (UInt8.ofNat (2 * b.val)).toNat = _
      rw [UInt8.toNat_ofNat']
      omega
    · intro hb
      apply UInt8.eq_of_toBitVec_eq
      unfold xt
      rw [h1, h2]
      simp [hb]
  have ha := a.toNat_lt
  have hq := q.toNat_lt
  have h3 := h ⟨a.toNat, ha⟩
  simp only [UInt8.ofNat_toNat] at h3
  unfold nx
  by_cases hb : a.toNat < 128
  · rw [h3.1 hb]; simp; omega
  · rw [h3.2 (by omega)]
    have h4 : ¬ 2 * a.toNat < 256 := by omega
    simp only [h4, if_false, UInt8.toNat_xor, UInt8.toNat_ofNat']
    rw [Nat.mod_eq_of_lt (by omega)]
    have h5 : 2 * a.toNat = 2 ^ 8 * 1 + (2 * a.toNat - 256) := by omega
    have h6 : 256 + q.toNat = 2 ^ 8 * 1 + q.toNat := by omega
    conv => rhs; rw [h5, h6]
    rw [Nat.two_pow_add_eq_or_of_lt (by omega), Nat.two_pow_add_eq_or_of_lt (by omega)]
    apply Nat.eq_of_testBit_eq
    intro i
    simp only [Nat.testBit_xor, Nat.testBit_or]
    by_cases h8 : i = 8
    · subst h8
      have e1 : (2 * a.toNat - 256).testBit 8 = false := Nat.testBit_lt_two_pow (by omega)
      have e2 : q.toNat.testBit 8 = false := Nat.testBit_lt_two_pow (by omega)
      rw [e1, e2]; decide
    · have : (2 ^ 8 * 1).testBit i = false := by
        rw [show 2 ^ 8 * 1 = 2 ^ 8 from rfl, Nat.testBit_two_pow]; simp; omega
      rw [this]; simp
def nit (p : Nat) : Nat → Nat → Nat
  | 0, x => x
  | n + 1, x => nit p n (nx p x)
theorem it_nat (q : UInt8) (n : Nat) (a : UInt8) : (it q n a).toNat = nit (256 + q.toNat) n a.toNat := by
  induction n generalizing a with
  | zero => rfl
  | succ n ih => show (it q n (xt q a)).toNat = nit _ n (nx _ _); rw [ih, xt_nat]
/-- the powers' test: from the i-th on, n more; then 1 -/
def tests (p : Nat) : Nat → Nat → Bool
  | 0, x => x == 1
  | n + 1, x => decide (1 < x) && tests p n (nx p x)
theorem tests_iff (p : Nat) : ∀ n x, tests p n x = true ↔ (∀ i, i < n → 1 < nit p i x) ∧ nit p n x = 1
  | 0, x => by simp [tests, nit]
  | n + 1, x => by
    simp only [tests, Bool.and_eq_true, decide_eq_true_eq, tests_iff p n]
    constructor
    · rintro ⟨h0, h1, h2⟩
      refine ⟨fun i hi => ?_, h2⟩
      cases i with
      | zero => exact h0
      | succ i => exact h1 i (by omega)
    · rintro ⟨h1, h2⟩
      exact ⟨h1 0 (by omega), fun i hi => h1 (i + 1) (by omega), h2⟩
theorem nit_succ (p n x : Nat) : nit p (n + 1) x = nx p (nit p n x) := by
  induction n generalizing x with
  | zero => rfl
  | succ n ih => exact ih _
theorem gen_iff (q : UInt8) : Gen q ↔ tests (256 + q.toNat) 254 2 = true := by
  have hp : ∀ i, (pw q i).toNat = nit (256 + q.toNat) i 1 := fun i => it_nat q i 1
  have h2 : nx (256 + q.toNat) 1 = 2 := rfl
  have hs : ∀ i, nit (256 + q.toNat) i 2 = (pw q (i + 1)).toNat := fun i => by rw [hp]; show _ = nit _ i (nx _ 1); rw [h2]
  rw [tests_iff]
  unfold Gen
  constructor
  · rintro ⟨h, h1⟩
    refine ⟨fun i hi => ?_, by rw [hs, h1]; rfl⟩
    rw [hs]
    obtain ⟨a, b⟩ := h (i + 1) (by omega) (by omega)
    have a' : (pw q (i + 1)).toNat ≠ 0 := fun e => a (UInt8.toNat_inj.1 e)
    have b' : (pw q (i + 1)).toNat ≠ 1 := fun e => b (UInt8.toNat_inj.1 e)
    omega
  · rintro ⟨h, h1⟩
    refine ⟨fun i h0 hi => ?_, UInt8.toNat_inj.1 (by rw [← hs 254, h1]; rfl)⟩
    have := h (i - 1) (by omega)
    rw [hs, show i - 1 + 1 = i by omega] at this
    constructor
    · intro e; rw [e] at this; exact absurd this (by decide)
    · intro e; rw [e] at this; exact absurd this (by decide)
theorem gen_sixteen : ∀ q ∈ qs, Gen q := by
  have : (qs.all fun q => tests (256 + q.toNat) 254 2) = true := by decide +kernel
  intro q hq
  rw [gen_iff]
  exact (List.all_eq_true.1 this) q hq
end Go.Proofs.Ytkklonldplekcaa.Gf
