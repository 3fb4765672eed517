/- The cyclic redundancy check of 32 bits as mathematics: steps, linearity, bursts. No program in sight. -/
namespace Go.Proofs.YtahpkknbejgnkaaDoor.Crc

def poly : BitVec 32 := 0xEDB88320#32
/-- one step of a zero bit -/
def stp (x : BitVec 32) : BitVec 32 := (x >>> 1) ^^^ (if x.getLsbD 0 then poly else 0#32)
/-- n rounds of a function -/
def rounds {α : Type} (f : α → α) : Nat → α → α
  | 0, x => x
  | n + 1, x => rounds f n (f x)

theorem rounds_add {α : Type} (f : α → α) (m n : Nat) (x : α) : rounds f (m + n) x = rounds f n (rounds f m x) := by
  induction m generalizing x with
  | zero => simp [rounds]
  | succ m ih => rw [Nat.succ_add]; exact ih (f x)
theorem rounds_succ' {α : Type} (f : α → α) (n : Nat) (x : α) : rounds f (n + 1) x = f (rounds f n x) := by rw [rounds_add]; rfl
theorem rounds_mul {α : Type} (f : α → α) (m n : Nat) (x : α) : rounds (rounds f m) n x = rounds f (m * n) x := by
  induction n generalizing x with
  | zero => rfl
  | succ n ih => show rounds (rounds f m) n (rounds f m x) = rounds f (m * n + m) x; rw [ih, Nat.add_comm, rounds_add]

theorem rounds_half {α : Type} (f : α → α) (n : Nat) (x : α) : rounds f n x = rounds (fun y => f (f y)) (n / 2) (if n % 2 = 1 then f x else x) := by
  have h2 : (fun y => f (f y)) = rounds f 2 := rfl
  rw [h2, rounds_mul]
  split
  · rename_i h
    conv => lhs; rw [show n = 2 * (n / 2) + 1 by omega]
    rfl
  · rename_i h
    conv => lhs; rw [show n = 2 * (n / 2) by omega]
def Lin (f : BitVec 32 → BitVec 32) : Prop := ∀ x y, f (x ^^^ y) = f x ^^^ f y
theorem Lin.zero {f : BitVec 32 → BitVec 32} (h : Lin f) : f 0#32 = 0#32 := by
  have := h 0#32 0#32
  simp at this; exact this
theorem Lin.rounds {f : BitVec 32 → BitVec 32} (h : Lin f) (n : Nat) : Lin (rounds f n) := by
  intro x y
  induction n generalizing x y with
  | zero => rfl
  | succ n ih => show Crc.rounds f n (f (x ^^^ y)) = _; rw [h]; exact ih _ _

theorem stp_lin : Lin stp := by
  intro x y
  unfold stp
  rw [BitVec.ushiftRight_xor_distrib, BitVec.getLsbD_xor]
  cases x.getLsbD 0 <;> cases y.getLsbD 0 <;> simp
  · ac_rfl
  · ac_rfl
  · have : ∀ a b p : BitVec 32, a ^^^ b = a ^^^ p ^^^ (b ^^^ p) := by
      intro a b p
      have : a ^^^ p ^^^ (b ^^^ p) = (a ^^^ b) ^^^ (p ^^^ p) := by ac_rfl
      rw [this]; simp
    exact this _ _ _

theorem stp_inj0 (x : BitVec 32) (h : stp x = 0#32) : x = 0#32 := by
  unfold stp at h
  apply BitVec.eq_of_getLsbD_eq
  intro i hi
  have h31 : (x >>> 1 ^^^ if x.getLsbD 0 = true then poly else 0#32).getLsbD 31 = false := by rw [h]; simp
  rw [BitVec.getLsbD_xor, BitVec.getLsbD_ushiftRight] at h31
  have hx0 : x.getLsbD 0 = false := by
    cases hb : x.getLsbD 0
    · rfl
    · rw [hb] at h31; simp [poly] at h31
  rw [hx0] at h
  simp at h
  cases i with
  | zero => rw [hx0]; simp
  | succ j =>
    have hj : (x >>> 1).getLsbD j = false := by rw [h]; simp
    rw [BitVec.getLsbD_ushiftRight] at hj
    rw [Nat.add_comm] at hj
    rw [hj]; simp

theorem rounds_stp0 (n : Nat) : ∀ (x : BitVec 32), rounds stp n x = 0#32 → x = 0#32 := by
  induction n with
  | zero => exact fun _ h => h
  | succ n ih => exact fun x h => stp_inj0 _ (ih _ h)

/-- a byte's step of zeros -/
def Z (x : BitVec 32) : BitVec 32 := rounds stp 8 x
theorem Z_lin : Lin Z := stp_lin.rounds 8
def zx (b : UInt8) : BitVec 32 := BitVec.setWidth 32 b.toBitVec
def stepB (x : BitVec 32) (b : UInt8) : BitVec 32 := Z (x ^^^ zx b)
theorem stepB_zero (x : BitVec 32) : stepB x 0 = Z x := by
  unfold stepB; rw [show zx 0 = 0#32 from rfl]; simp
def crc (x : BitVec 32) (l : List UInt8) : BitVec 32 := l.foldl stepB x
def ones : BitVec 32 := 0xFFFFFFFF#32
def sumOf (l : List UInt8) : BitVec 32 := ~~~ crc ones l

/-! ### the table of sixteen -/
def tab : List (BitVec 32) := [0#32, 498536548#32, 997073096#32, 651767980#32, 1994146192#32, 1802195444#32, 1303535960#32, 1342533948#32, 3988292384#32, 4027552580#32, 3604390888#32, 3412177804#32, 2607071920#32, 2262029012#32, 2685067896#32, 3183342108#32]
def half (x : BitVec 32) : BitVec 32 := tab.getD (x &&& 15#32).toNat 0#32 ^^^ (x >>> 4)
theorem half_low : ∀ n : Fin 16, tab.getD n.val 0#32 = rounds stp 4 (BitVec.ofNat 32 n.val) := by decide
theorem stp_shl (z : BitVec 32) (k : Nat) (hz : ∀ i, 31 - k ≤ i → z.getLsbD i = false) : stp (z <<< (k + 1)) = z <<< k := by
  have h0 : (z <<< (k + 1)).getLsbD 0 = false := by simp
  unfold stp
  rw [h0]
  simp
  apply BitVec.eq_of_getLsbD_eq
  intro i hi
  simp [BitVec.getLsbD_shiftLeft, hi]
  by_cases h1 : i < k
  · have : 1 + i < k + 1 := by omega
    simp [h1, this]
  · have e1 : 1 + i - (k + 1) = i - k := by omega
    have e2 : ¬ (1 + i < k + 1) := by omega
    have h3 : z[i - k]'(by omega) = z.getLsbD (i - k) := rfl
    simp only [h1, e1, e2, decide_false, Bool.not_false, Bool.and_true, Bool.true_and]
    by_cases h2 : 1 + i < 32
    · simp [h2, h3]
    · have := hz (i - k) (by omega)
      simp [h2, this, h3]
theorem stp4_shl (z : BitVec 32) (hz : ∀ i, 28 ≤ i → z.getLsbD i = false) : rounds stp 4 (z <<< 4) = z := by
  show stp (stp (stp (stp (z <<< 4)))) = z
  rw [stp_shl z 3 (fun i hi => hz i (by omega)), stp_shl z 2 (fun i hi => hz i (by omega)), stp_shl z 1 (fun i hi => hz i (by omega)), stp_shl z 0 (fun i hi => hz i (by omega))]
  simp
theorem low_high (x : BitVec 32) : x = (x &&& 15#32) ^^^ ((x >>> 4) <<< 4) := by
  apply BitVec.eq_of_getLsbD_eq
  intro i hi
  simp [hi]
  by_cases h : i < 4
  · have : (15#32).getLsbD i = true := by
      have : i = 0 ∨ i = 1 ∨ i = 2 ∨ i = 3 := by omega
      rcases this with rfl | rfl | rfl | rfl <;> decide
    simp [this, h]
  · have : (15#32).getLsbD i = false := by
      rw [show (15#32) = BitVec.ofNat 32 (2 ^ 4 - 1) from rfl, BitVec.getLsbD_ofNat, Nat.testBit_two_pow_sub_one]
      simp; omega
    have e : 4 + (i - 4) = i := by omega
    rw [BitVec.getLsbD_eq_getElem hi] at this
    simp [this, h, e, BitVec.getLsbD_eq_getElem hi]
theorem and15_lt (x : BitVec 32) : (x &&& 15#32).toNat < 16 := by
  rw [BitVec.toNat_and]; exact Nat.lt_of_le_of_lt Nat.and_le_right (by decide)
theorem half_eq (x : BitVec 32) : half x = rounds stp 4 x := by
  have h := half_low ⟨(x &&& 15#32).toNat, and15_lt x⟩
  conv => rhs; rw [low_high x]
  rw [stp_lin.rounds 4, stp4_shl _ (fun i hi => by rw [BitVec.getLsbD_ushiftRight]; exact BitVec.getLsbD_of_ge _ _ (by omega))]
  unfold half
  rw [show tab.getD (x &&& 15#32).toNat 0#32 = _ from h]
  simp
theorem half_half (x : BitVec 32) : half (half x) = Z x := by
  rw [half_eq, half_eq, ← rounds_add]; rfl

/-! ### sums of parts -/
theorem crc_append (x : BitVec 32) (k l : List UInt8) : crc x (k ++ l) = crc (crc x k) l := by simp [crc, List.foldl_append]
theorem crc_snoc (x : BitVec 32) (l : List UInt8) (k : Nat) (h : k < l.length) : crc x (l.take (k + 1)) = stepB (crc x (l.take k)) (l.getD k 0) := by
  rw [List.take_succ_eq_append_getElem h]; simp [crc, List.foldl_append, h, -List.take_append_getElem]
/-- the state differs by the difference taken on -/
theorem crc_xor (x d : BitVec 32) (l : List UInt8) : crc (x ^^^ d) l = crc x l ^^^ rounds Z l.length d := by
  induction l generalizing x d with
  | nil => rfl
  | cons b l ih =>
    show crc (stepB (x ^^^ d) b) l = crc (stepB x b) l ^^^ rounds Z l.length (Z d)
    have : stepB (x ^^^ d) b = stepB x b ^^^ Z d := by
      unfold stepB
      rw [show x ^^^ d ^^^ zx b = x ^^^ zx b ^^^ d by ac_rfl, Z_lin]
    rw [this, ih]
theorem join_sums (x y : List UInt8) : rounds Z y.length (sumOf x) ^^^ sumOf y = sumOf (x ++ y) := by
  unfold sumOf
  rw [crc_append]
  have h1 : crc ones x = ones ^^^ ~~~ crc ones x := by
    rw [show ones = BitVec.allOnes 32 from by decide, BitVec.allOnes_xor, BitVec.not_not]
  conv => rhs; rw [h1, crc_xor]
  simp [BitVec.not_xor_left, BitVec.xor_comm]

/-! ### a linear map by its pictures -/
def ofMap (l : Nat → BitVec 32) (x : BitVec 32) : Nat → BitVec 32
  | 0 => 0#32
  | i + 1 => ofMap l x i ^^^ (if x.getLsbD i then l i else 0#32)
def bit (i : Nat) : BitVec 32 := BitVec.ofNat 32 (2 ^ i)
theorem bit_get (i j : Nat) (hi : i < 32) : (bit i).getLsbD j = decide (i = j) := by
  unfold bit; rw [BitVec.getLsbD_ofNat, Nat.testBit_two_pow]; by_cases h : i = j <;> simp [h] <;> omega
theorem ofMap_low (x : BitVec 32) (n : Nat) (j : Nat) : (ofMap bit x n).getLsbD j = (decide (j < n) && x.getLsbD j) := by
  induction n with
  | zero => simp [ofMap]
  | succ n ih =>
    unfold ofMap
    rw [BitVec.getLsbD_xor, ih]
    by_cases hn : n < 32
    · by_cases hj : j = n
      · subst hj
        cases hx : x.getLsbD j <;> simp [bit_get j j hn]
      · have : decide (j < n + 1) = decide (j < n) := by simp; omega
        rw [this]
        cases hx : x.getLsbD n <;> simp [bit_get n j hn, Ne.symm hj]
    · have h0 : x.getLsbD n = false := BitVec.getLsbD_of_ge _ _ (by omega)
      rw [h0]
      by_cases hj : j = n
      · subst hj; simp [h0]
      · have : decide (j < n + 1) = decide (j < n) := by simp; omega
        rw [this]; simp
theorem ofMap_bit (x : BitVec 32) : ofMap bit x 32 = x := by
  apply BitVec.eq_of_getLsbD_eq
  intro i hi
  rw [ofMap_low x 32]; simp [hi]
theorem ofMap_lin {f : BitVec 32 → BitVec 32} (hf : Lin f) (x : BitVec 32) (n : Nat) : ofMap (fun i => f (bit i)) x n = f (ofMap bit x n) := by
  induction n with
  | zero => exact hf.zero.symm
  | succ n ih =>
    unfold ofMap
    rw [ih, hf]
    cases x.getLsbD n <;> simp [hf.zero]
theorem ofMap_eq {f : BitVec 32 → BitVec 32} (hf : Lin f) (x : BitVec 32) : ofMap (fun i => f (bit i)) x 32 = f x := by
  rw [ofMap_lin hf, ofMap_bit]
theorem ofMap_congr {l l' : Nat → BitVec 32} (x : BitVec 32) (n : Nat) (h : ∀ i, i < n → l i = l' i) : ofMap l x n = ofMap l' x n := by
  induction n with
  | zero => rfl
  | succ n ih => unfold ofMap; rw [ih (fun i hi => h i (by omega)), h n (by omega)]

/-! ### bit by bit -/
def b1 (b : Bool) : BitVec 32 := if b then 1#32 else 0#32
def crcBits (c : BitVec 32) (l : List Bool) : BitVec 32 := l.foldl (fun c b => stp (c ^^^ b1 b)) c
theorem crcBits_snoc (c : BitVec 32) (l : List Bool) (b : Bool) : crcBits c (l ++ [b]) = stp (crcBits c l ^^^ b1 b) := by simp [crcBits]
theorem crcBits_append (c : BitVec 32) (l m : List Bool) : crcBits c (l ++ m) = crcBits (crcBits c l) m := by simp [crcBits]
theorem stp_bit (i : Nat) (h : i + 1 < 32) : stp (bit (i + 1)) = bit i := by
  unfold stp
  rw [bit_get (i + 1) 0 h]
  simp
  apply BitVec.eq_of_getLsbD_eq
  intro j hj
  rw [BitVec.getLsbD_ushiftRight, bit_get _ _ h, bit_get _ _ (by omega)]
  simp; omega
theorem rounds_bit (i : Nat) (h : i < 32) : rounds stp i (bit i) = 1#32 := by
  induction i with
  | zero => rfl
  | succ i ih => show rounds stp i (stp (bit (i + 1))) = _; rw [stp_bit i h]; exact ih (by omega)
def bitsOf (q : BitVec 32) (n : Nat) : List Bool := (List.range n).map q.getLsbD
theorem crcBits_bits (c q : BitVec 32) (n : Nat) : crcBits c (bitsOf q n) = rounds stp n (c ^^^ ofMap bit q n) := by
  induction n with
  | zero => simp [bitsOf, crcBits, rounds, ofMap]
  | succ n ih =>
    have e : bitsOf q (n + 1) = bitsOf q n ++ [q.getLsbD n] := by simp [bitsOf, List.range_succ]
    rw [e, crcBits_snoc, ih, rounds_succ']
    congr 1
    show _ = rounds stp n (c ^^^ (ofMap bit q n ^^^ _))
    rw [← BitVec.xor_assoc, stp_lin.rounds n (c ^^^ ofMap bit q n) _]
    congr 1
    cases hq : q.getLsbD n
    · simp [b1, (stp_lin.rounds n).zero]
    · have : n < 32 := by
        rcases Nat.lt_or_ge n 32 with h | h
        · exact h
        · rw [BitVec.getLsbD_of_ge _ _ h] at hq; cases hq
      simp [b1, rounds_bit n this]
theorem stepB_bits (c : BitVec 32) (b : UInt8) : stepB c b = crcBits c (bitsOf (zx b) 8) := by
  rw [crcBits_bits]
  unfold stepB Z
  congr 2
  apply BitVec.eq_of_getLsbD_eq
  intro i hi
  rw [ofMap_low]
  by_cases h : i < 8
  · simp [h]
  · have : b.toBitVec.getLsbD i = false := BitVec.getLsbD_of_ge _ _ (by omega)
    simp [h, zx, BitVec.getLsbD_setWidth, this]
/-- bit k of a text -/
def tbit (l : List UInt8) (k : Nat) : Bool := (l.getD (k / 8) 0).toBitVec.getLsbD (k % 8)
def tb (l : List UInt8) : List Bool := (List.range (8 * l.length)).map (tbit l)
theorem tb_snoc (l : List UInt8) (b : UInt8) : tb (l ++ [b]) = tb l ++ bitsOf (zx b) 8 := by
  unfold tb bitsOf
  rw [show 8 * (l ++ [b]).length = 8 * l.length + 8 by simp; omega, List.range_add, List.map_append, List.map_map]
  congr 1
  · apply List.map_congr_left
    intro k hk
    rw [List.mem_range] at hk
    unfold tbit
    congr 2
    rw [List.getD_eq_getElem?_getD, List.getD_eq_getElem?_getD, List.getElem?_append_left (by omega)]
  · apply List.map_congr_left
    intro k hk
    rw [List.mem_range] at hk
    simp only [Function.comp, tbit]
    have e1 : (8 * l.length + k) / 8 = l.length := by omega
    have e2 : (8 * l.length + k) % 8 = k := by omega
    rw [e1, e2]
    simp [zx, BitVec.getLsbD_setWidth]; omega
theorem crc_bits (c : BitVec 32) (l : List UInt8) : crc c l = crcBits c (tb l) := by
  have : ∀ n (l : List UInt8), l.length = n → crc c l = crcBits c (tb l) := by
    intro n
    induction n with
    | zero => intro l h; obtain rfl := List.length_eq_zero_iff.1 h; rfl
    | succ n ih =>
      intro l h
      have hne : l ≠ [] := by intro e; simp [e] at h
      rw [← List.dropLast_concat_getLast hne, tb_snoc, crcBits_append, ← ih _ (by simp; omega), ← stepB_bits, crc_append]
      rfl
  exact this _ l rfl

/-! ### bursts -/
def ebit (at_ : Nat) (p : BitVec 32) (k : Nat) : Bool := decide (at_ ≤ k) && p.getLsbD (k - at_)
def ebyte (at_ : Nat) (p : BitVec 32) (i : Nat) : UInt8 := ⟨if at_ ≤ 8 * i then (p >>> (8 * i - at_)).setWidth 8 else p.setWidth 8 <<< (at_ - 8 * i)⟩
theorem ebyte_bit (at_ : Nat) (p : BitVec 32) (i j : Nat) (hj : j < 8) : (ebyte at_ p i).toBitVec.getLsbD j = ebit at_ p (8 * i + j) := by
  unfold ebyte ebit
  split
  · rename_i h
    simp only [BitVec.getLsbD_setWidth, BitVec.getLsbD_ushiftRight]
    have e : 8 * i - at_ + j = 8 * i + j - at_ := by omega
    have : at_ ≤ 8 * i + j := by omega
    rw [e]; simp [hj, this]
  · rename_i h
    simp only [BitVec.getLsbD_shiftLeft, BitVec.getLsbD_setWidth]
    by_cases h2 : at_ ≤ 8 * i + j
    · have e : j - (at_ - 8 * i) = 8 * i + j - at_ := by omega
      have e2 : ¬ (j < at_ - 8 * i) := by omega
      have e3 : 8 * i + j - at_ < 8 := by omega
      rw [e]; simp [hj, h2, e2, e3]
    · have e2 : j < at_ - 8 * i := by omega
      simp [hj, h2, e2]
def turn (at_ : Nat) (p : BitVec 32) (l : List UInt8) : List UInt8 := l.mapIdx fun i b => b ^^^ ebyte at_ p i
theorem turn_length (at_ : Nat) (p : BitVec 32) (l : List UInt8) : (turn at_ p l).length = l.length := by simp [turn]
theorem turn_get (at_ : Nat) (p : BitVec 32) (l : List UInt8) (i : Nat) (hi : i < l.length) : (turn at_ p l).getD i 0 = l.getD i 0 ^^^ ebyte at_ p i := by
  simp [turn, hi]
theorem tbit_turn (at_ : Nat) (p : BitVec 32) (l : List UInt8) (k : Nat) (hk : k < 8 * l.length) : tbit (turn at_ p l) k = (tbit l k ^^ ebit at_ p k) := by
  unfold tbit
  rw [turn_get _ _ _ _ (by omega), UInt8.toBitVec_xor, BitVec.getLsbD_xor, ebyte_bit _ _ _ _ (by omega)]
  congr 2; omega
theorem crcBits_xor (c d : BitVec 32) (f g : Nat → Bool) (n : Nat) : crcBits (c ^^^ d) ((List.range n).map fun k => f k ^^ g k) = crcBits c ((List.range n).map f) ^^^ crcBits d ((List.range n).map g) := by
  induction n with
  | zero => rfl
  | succ n ih =>
    simp only [List.range_succ, List.map_append, List.map_cons, List.map_nil, crcBits_snoc]
    rw [ih, ← stp_lin]
    congr 1
    have : b1 (f n ^^ g n) = b1 (f n) ^^^ b1 (g n) := by cases f n <;> cases g n <;> rfl
    rw [this]; ac_rfl
theorem crcBits_ebit (at_ : Nat) (p : BitVec 32) (n : Nat) : crcBits 0#32 ((List.range n).map (ebit at_ p)) = rounds stp (n - at_) (ofMap bit p (n - at_)) := by
  induction n with
  | zero => simp [crcBits, rounds, ofMap]
  | succ n ih =>
    simp only [List.range_succ, List.map_append, List.map_cons, List.map_nil, crcBits_snoc]
    rw [ih]
    by_cases h : at_ ≤ n
    · have e : n + 1 - at_ = (n - at_) + 1 := by omega
      rw [e, rounds_succ']
      congr 1
      show _ = rounds stp (n - at_) (ofMap bit p (n - at_) ^^^ _)
      rw [stp_lin.rounds]
      congr 1
      unfold ebit
      cases hq : p.getLsbD (n - at_)
      · simp [b1, (stp_lin.rounds _).zero]
      · have : n - at_ < 32 := by
          rcases Nat.lt_or_ge (n - at_) 32 with h | h
          · exact h
          · rw [BitVec.getLsbD_of_ge _ _ h] at hq; cases hq
        simp [b1, h, rounds_bit _ this]
    · have e : n + 1 - at_ = 0 := by omega
      have e1 : n - at_ = 0 := by omega
      rw [e, e1]
      simp [rounds, ofMap, ebit, h, b1]
      rfl
/-- a burst is told -/
theorem burst (c : BitVec 32) (at_ : Nat) (p : BitVec 32) (l : List UInt8) : crc c (turn at_ p l) = crc c l ↔ turn at_ p l = l := by
  constructor
  · intro h
    rw [crc_bits, crc_bits] at h
    have e : tb (turn at_ p l) = (List.range (8 * l.length)).map fun k => tbit l k ^^ ebit at_ p k := by
      unfold tb
      rw [turn_length]
      apply List.map_congr_left
      intro k hk
      exact tbit_turn _ _ _ _ (by simpa using hk)
    rw [e] at h
    have hx := crcBits_xor c 0#32 (tbit l) (ebit at_ p) (8 * l.length)
    rw [show c ^^^ 0#32 = c by simp] at hx
    rw [hx] at h
    have h0 : crcBits 0#32 ((List.range (8 * l.length)).map (ebit at_ p)) = 0#32 := by
      have : ∀ a b : BitVec 32, a ^^^ b = a → b = 0#32 := by
        intro a b h
        have : a ^^^ (a ^^^ b) = b := by rw [← BitVec.xor_assoc]; simp
        rw [h] at this; simpa using this.symm
      exact this _ _ h
    rw [crcBits_ebit] at h0
    have h1 := rounds_stp0 _ _ h0
    apply List.ext_getElem
    · exact turn_length _ _ _
    · intro i h2 h3
      have h4 := turn_get at_ p l i h3
      rw [List.getD_eq_getElem?_getD, List.getD_eq_getElem?_getD, List.getElem?_eq_getElem h2, List.getElem?_eq_getElem h3] at h4
      simp only [Option.getD_some] at h4
      rw [h4]
      have : ebyte at_ p i = 0 := by
        apply UInt8.eq_of_toBitVec_eq
        apply BitVec.eq_of_getLsbD_eq
        intro j hj
        rw [ebyte_bit _ _ _ _ hj]
        unfold ebit
        by_cases h5 : at_ ≤ 8 * i + j
        · have := ofMap_low p (8 * l.length - at_) (8 * i + j - at_)
          rw [h1] at this
          have h6 : 8 * i + j - at_ < 8 * l.length - at_ := by omega
          simp [h6] at this
          simp [this]
        · simp [h5]
      rw [this]; simp
  · intro h; rw [h]

/-! ### a text with its sum behind it -/
def four (x : BitVec 32) : List UInt8 := [⟨x.setWidth 8⟩, ⟨(x >>> 8).setWidth 8⟩, ⟨(x >>> 16).setWidth 8⟩, ⟨(x >>> 24).setWidth 8⟩]
theorem crc_four (c x : BitVec 32) : crc c (four x) = rounds stp 32 (c ^^^ x) := by
  rw [crc_bits]
  have : tb (four x) = bitsOf x 32 := by
    unfold tb bitsOf
    show (List.range 32).map _ = _
    apply List.map_congr_left
    intro k hk
    rw [List.mem_range] at hk
    unfold tbit
    have h : k / 8 = 0 ∨ k / 8 = 1 ∨ k / 8 = 2 ∨ k / 8 = 3 := by omega
    have hm : k % 8 < 8 := by omega
    rcases h with h | h | h | h <;> rw [h] <;> simp only [four, List.getD_cons_zero, List.getD_cons_succ, BitVec.getLsbD_setWidth, BitVec.getLsbD_ushiftRight, hm, decide_true, Bool.true_and] <;> congr 1 <;> omega
  rw [this, crcBits_bits, ofMap_bit]
theorem xor_not_ones (x : BitVec 32) : x ^^^ ~~~x = ones := by
  rw [show ones = BitVec.allOnes 32 from by decide]
  apply BitVec.eq_of_getLsbD_eq
  intro i hi
  rw [BitVec.getLsbD_xor, BitVec.getLsbD_not, BitVec.getLsbD_allOnes]
  simp [hi]
theorem residue (l : List UInt8) : sumOf (l ++ four (sumOf l)) = 0x2144DF1C#32 := by
  unfold sumOf
  rw [crc_append, crc_four]
  rw [xor_not_ones]
  decide
theorem residue_burst (at_ : Nat) (p : BitVec 32) (l : List UInt8) (h : sumOf l = 0x2144DF1C#32) : sumOf (turn at_ p l) = 0x2144DF1C#32 ↔ turn at_ p l = l := by
  rw [← burst ones at_ p l, ← h]
  unfold sumOf
  constructor
  · intro h; exact BitVec.not_inj.1 h
  · intro h; rw [h]

end Go.Proofs.YtahpkknbejgnkaaDoor.Crc
