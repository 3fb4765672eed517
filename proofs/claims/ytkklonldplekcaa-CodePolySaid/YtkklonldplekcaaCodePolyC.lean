/- Lagrange's sum: plain Lean, no program in sight. -/
import Derived.Test.YtkklonldplekcaaCodeTellsC
namespace Go.Proofs.Ytkklonldplekcaa.Gf
open Mx
open Classical in
/-- an inverse, where there is one -/
noncomputable def lv (q b : UInt8) : UInt8 := if h : ∃ c, mul q b c = 1 then h.choose else 0
theorem lv_mul {q : UInt8} (hg : Gen q) {b : UInt8} (hb : b ≠ 0) : mul q b (lv q b) = 1 := by
  unfold lv
  rw [dif_pos (inv_ex hg b hb)]
  exact (inv_ex hg b hb).choose_spec
/-- the running product of one place, its numerator and its denominator -/
noncomputable def lT (q : UInt8) (y : Nat → UInt8) (v z : UInt8) (i : Nat) : Nat → UInt8
  | 0 => v
  | j + 1 => if j = i then lT q y v z i j else mul q (lT q y v z i j) (mul q (z ^^^ y j) (lv q (y i ^^^ y j)))
def lN (q : UInt8) (y : Nat → UInt8) (i : Nat) (x : UInt8) : Nat → UInt8
  | 0 => 1
  | j + 1 => if j = i then lN q y i x j else mul q (lN q y i x j) (x ^^^ y j)
noncomputable def lI (q : UInt8) (y : Nat → UInt8) (i : Nat) : Nat → UInt8
  | 0 => 1
  | j + 1 => if j = i then lI q y i j else mul q (lI q y i j) (lv q (y i ^^^ y j))
theorem lT_eq (q : UInt8) (y : Nat → UInt8) (v z : UInt8) (i : Nat) : ∀ j, lT q y v z i j = mul q (mul q v (lI q y i j)) (lN q y i z j)
  | 0 => by simp only [lT, lI, lN]; rw [mul_one, mul_one]
  | j + 1 => by
    simp only [lT, lI, lN]
    split
    · exact lT_eq q y v z i j
    · rw [lT_eq q y v z i j]
      generalize lI q y i j = a
      generalize lN q y i z j = b
      generalize lv q (y i ^^^ y j) = c
      generalize z ^^^ y j = d
      rw [mul_assoc, mul_assoc, mul_assoc, mul_assoc]
      congr 2
      rw [← mul_assoc, ← mul_assoc, mul_comm q c, mul_assoc, mul_comm q d c, mul_assoc]
theorem lN_poly (q : UInt8) (y : Nat → UInt8) (i : Nat) : ∀ j, (j ≤ i → PolyFn q (j + 1) fun x => lN q y i x j) ∧ (i < j → PolyFn q j fun x => lN q y i x j)
  | 0 => ⟨fun _ => ⟨[1], rfl, fun x => by simp [evalFrom, lN, zero_mul]⟩, fun h => by omega⟩
  | j + 1 => by
    obtain ⟨h1, h2⟩ := lN_poly q y i j
    refine ⟨fun h => ?_, fun h => ?_⟩
    · have e : (fun x => lN q y i x (j + 1)) = fun x => mul q (lN q y i x j) (x ^^^ y j) := by funext x; simp only [lN]; rw [if_neg (by omega)]
      rw [e]; exact (h1 (by omega)).mulx _
    · by_cases e : j = i
      · have e2 : (fun x => lN q y i x (j + 1)) = fun x => lN q y i x j := by funext x; simp only [lN]; rw [if_pos e]
        rw [e2]; exact h1 (by omega)
      · have e2 : (fun x => lN q y i x (j + 1)) = fun x => mul q (lN q y i x j) (x ^^^ y j) := by funext x; simp only [lN]; rw [if_neg e]
        rw [e2]; exact (h2 (by omega)).mulx _
theorem lN_zero {q : UInt8} {y : Nat → UInt8} {i m : Nat} (h : m ≠ i) : ∀ k, m < k → lN q y i (y m) k = 0
  | 0, h => by omega
  | k + 1, hk => by
    simp only [lN]
    by_cases e : m = k
    · subst e; rw [if_neg h, UInt8.xor_self, mul_zero]
    · rw [lN_zero h k (by omega)]; split <;> simp [zero_mul]
theorem lN_one {q : UInt8} (g : Gen q) {y : Nat → UInt8} {i : Nat} : ∀ k, (∀ j, j < k → y i = y j → i = j) → mul q (lI q y i k) (lN q y i (y i) k) = 1
  | 0, _ => by simp only [lI, lN]; rw [mul_one]
  | k + 1, h => by
    have ih := lN_one g k fun j hj => h j (by omega)
    simp only [lI, lN]
    split
    · exact ih
    · rename_i e
      have hne : y i ^^^ y k ≠ 0 := fun e2 => e (h k (by omega) (xor_eq_zero.1 e2)).symm
      have hl := lv_mul g hne
      generalize lI q y i k = a at *
      generalize lN q y i (y i) k = b at *
      generalize lv q (y i ^^^ y k) = c at *
      generalize y i ^^^ y k = d at *
      have e1 : mul q (mul q a c) (mul q b d) = mul q (mul q a b) (mul q d c) := by
        rw [mul_assoc, mul_assoc, ← mul_assoc q c, mul_comm q c b, mul_assoc, mul_comm q c d]
      rw [e1, ih, hl, mul_one]
theorem PolyFn.sum {q : UInt8} {d : Nat} {f : Nat → UInt8 → UInt8} : ∀ k, (∀ i, i < k → PolyFn q d (f i)) → PolyFn q d fun x => sm k fun i => f i x
  | 0, _ => PolyFn.zero q d
  | k + 1, h => (PolyFn.sum k fun i hi => h i (by omega)).add (h k (by omega))
theorem sm_lone {f : Nat → UInt8} {m : Nat} : ∀ k, m < k → (∀ i, i < k → i ≠ m → f i = 0) → sm k f = f m
  | 0, h, _ => by omega
  | k + 1, h, hz => by
    show sm k f ^^^ f k = f m
    by_cases e : m = k
    · subst e
      rw [sm_null m fun i hi => hz i (by omega) (by omega), UInt8.zero_xor]
    · rw [sm_lone k (by omega) fun i hi hne => hz i (by omega) hne, hz k (by omega) (by omega), UInt8.xor_zero]
/-- what Lagrange's sum says -/
theorem lagrange {q : UInt8} (g : Gen q) {k : Nat} {F : UInt8 → UInt8} (hF : PolyFn q k F) (y : Nat → UInt8) (hy : ∀ i j, i < k → j < k → y i = y j → i = j) (z : UInt8) : sm k (fun i => lT q y (F (y i)) z i k) = F z := by
  have hR : PolyFn q k fun x => F x ^^^ sm k fun i => mul q (mul q (F (y i)) (lI q y i k)) (lN q y i x k) := hF.add (PolyFn.sum k fun i hi => ((lN_poly q y i k).2 hi).scale _)
  have h0 := hR.null g y hy (fun m hm => by
    show F (y m) ^^^ sm k (fun i => mul q (mul q (F (y i)) (lI q y i k)) (lN q y i (y m) k)) = 0
    rw [sm_lone k hm fun i hi hne => by rw [lN_zero (Ne.symm hne) k hm, mul_zero], mul_assoc, lN_one g k fun j hj => hy m j hm hj, mul_one, UInt8.xor_self]) z
  have e : sm k (fun i => lT q y (F (y i)) z i k) = sm k fun i => mul q (mul q (F (y i)) (lI q y i k)) (lN q y i z k) := sm_congr k fun i _ => lT_eq _ _ _ _ _ _
  rw [e]
  exact (xor_eq_zero.1 h0).symm
end Go.Proofs.Ytkklonldplekcaa.Gf
namespace Go.Proofs.Ytkklonldplekcaa
open Go.RowKit
/-- at each place the rows lie on a polynomial -/
theorem row_poly {n k s : Nat} {G D : List (List UInt8)} (hG : GenOf n k G) (hD : D.length = k) (p : Nat) (hp : p < s) : ∃ F, Mx.PolyFn 0x1d k F ∧ ∀ q, q < n → (comb (G.getD q []) D s).getD p 0 = F (UInt8.ofNat q) := by
  obtain ⟨X, h1, h2, h3⟩ := hG
  refine ⟨fun x => Mx.sm k fun l => Gf.mul 0x1d (Mx.pwr 0x1d x l) (Mx.ap 0x1d X k (fun j => ent D j p) l), ⟨(List.range k).map fun l => Mx.ap 0x1d X k (fun j => ent D j p) l, by simp, fun x => ?_⟩, fun q hq => ?_⟩
  · rw [Mx.eval_sm, List.length_map, List.length_range]
    exact Mx.sm_congr k fun l hl => by simp [hl]
  · rw [comb_get _ _ _ _ hp, hD]
    show Mx.ap 0x1d (ent G) k (fun j => ent D j p) q = _
    have e : Mx.ap 0x1d (ent G) k (fun j => ent D j p) q = Mx.ap 0x1d (Mx.prod 0x1d VM X k) k (fun j => ent D j p) q := Mx.sm_congr k fun j hj => by rw [h3 q j hq hj]
    rw [e, ap_prod]
    rfl
/-- what the walk computes at a place -/
theorem poly_law (g : Gf.Gen 0x1d) {n k s : Nat} {G D : List (List UInt8)} {f : Nat → Nat} (hG : GenOf n k G) (hn : n ≤ 255) (hkn : k < n) (hord : Ord n f) (hD : D.length = k) (p : Nat) (hp : p < s) : ∃ (T : Nat → Nat → UInt8) (V : Nat → UInt8), (∀ i, i < k → T i 0 = (comb (G.getD (f i) []) D s).getD p 0) ∧ (∀ i, T i (i + 1) = T i i) ∧ (∀ i j, j ≠ i → T i (j + 1) = Gf.mul 0x1d (T i j) (Gf.mul 0x1d (UInt8.ofNat (f k) ^^^ UInt8.ofNat (f j)) (Gf.lv 0x1d (UInt8.ofNat (f i) ^^^ UInt8.ofNat (f j))))) ∧ V 0 = 0 ∧ (∀ i, V (i + 1) = V i ^^^ T i k) ∧ V k = (comb (G.getD (f k) []) D s).getD p 0 := by
  obtain ⟨F, hF, hFq⟩ := row_poly hG hD p hp
  refine ⟨fun i j => Gf.lT 0x1d (fun a => UInt8.ofNat (f a)) (F (UInt8.ofNat (f i))) (UInt8.ofNat (f k)) i j, fun i => Mx.sm i fun a => Gf.lT 0x1d (fun a => UInt8.ofNat (f a)) (F (UInt8.ofNat (f a))) (UInt8.ofNat (f k)) a k, fun i hi => ?_, fun i => ?_, fun i j hne => ?_, rfl, fun i => rfl, ?_⟩
  · rw [hFq _ (hord.1 i (by omega))]; rfl
  · show Gf.lT _ _ _ _ i (i + 1) = _
    simp only [Gf.lT, if_pos]
  · show Gf.lT _ _ _ _ i (j + 1) = _
    simp only [Gf.lT]; rw [if_neg hne]
  · rw [hFq _ (hord.1 k hkn)]
    exact Gf.lagrange g hF (fun a => UInt8.ofNat (f a)) (fun i j hi hj e => hord.2 i j (by omega) (by omega) (ofNat_inj (by have := hord.1 i (by omega); omega) (by have := hord.1 j (by omega); omega) e)) (UInt8.ofNat (f k))
theorem gen_unit {n k : Nat} {G : List (List UInt8)} (hG : GenOf n k G) (hkn : k ≤ n) {i j : Nat} (hi : i < k) (hj : j < k) : (G.getD i []).getD j 0 = if i = j then 1 else 0 := by
  obtain ⟨X, h1, _, h3⟩ := hG
  show ent G i j = _
  rw [h3 i j (by omega) hj, h1 i j hi hj]; rfl
theorem lv_ofNat (g : Gf.Gen 0x1d) {n : Nat} {f : Nat → Nat} (hn : n ≤ 255) (hord : Ord n f) {i j : Nat} (hi : i < n) (hj : j < n) (hne : j ≠ i) : Gf.mul 0x1d (UInt8.ofNat (f i) ^^^ UInt8.ofNat (f j)) (Gf.lv 0x1d (UInt8.ofNat (f i) ^^^ UInt8.ofNat (f j))) = 1 :=
  Gf.lv_mul g fun e => hne (hord.2 j i hj hi (ofNat_inj (by have := hord.1 j hj; omega) (by have := hord.1 i hi; omega) (UInt8.xor_eq_zero_iff.1 e).symm))
theorem xor_of (a b : Nat) (ha : a < 256) (hb : b < 256) : bits .xor .u8 (a : Int) (b : Int) = ((UInt8.ofNat a ^^^ UInt8.ofNat b).toNat : Int) := by
  have := xor8 (UInt8.ofNat a) (UInt8.ofNat b)
  rwa [UInt8.toNat_ofNat_of_lt' ha, UInt8.toNat_ofNat_of_lt' hb] at this
end Go.Proofs.Ytkklonldplekcaa
