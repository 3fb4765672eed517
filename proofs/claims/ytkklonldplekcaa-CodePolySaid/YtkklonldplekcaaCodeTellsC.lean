/- Parts that were changed tell: plain Lean, no program in sight. -/
import Derived.Test.YtkklonldplekcaaCodeHidesW
namespace Go.Proofs.Ytkklonldplekcaa
open Go.RowKit
/-- any k rows of the generator have no null vector -/
theorem null_any (g : Gf.Gen 0x1d) {n k : Nat} {G : List (List UInt8)} (hG : GenOf n k G) (hn : n ≤ 255) (idx : Nat → Nat) (hi : ∀ i, i < k → idx i < n) (hinj : ∀ i j, i < k → j < k → idx i = idx j → i = j) (x : Nat → UInt8) (hx : ∀ i, i < k → Mx.ap 0x1d (ent G) k x (idx i) = 0) : ∀ j, j < k → x j = 0 := by
  obtain ⟨X, h1, h2, h3⟩ := hG
  have hy : ∀ l, l < k → Mx.ap 0x1d X k x l = 0 := Mx.vander_null g k (fun i => UInt8.ofNat (idx i)) (fun i j hi' hj' e => hinj i j hi' hj' (ofNat_inj (by have := hi i hi'; omega) (by have := hi j hj'; omega) e)) (Mx.ap 0x1d X k x) fun i hi' => by
    have h0 := hx i hi'
    have e : Mx.ap 0x1d (ent G) k x (idx i) = Mx.ap 0x1d (Mx.prod 0x1d VM X k) k x (idx i) := Mx.sm_congr k fun j hj => by rw [h3 (idx i) j (hi i hi') hj]
    rw [e, ap_prod] at h0
    exact h0
  intro j hj
  have e1 : Mx.ap 0x1d (Mx.prod 0x1d VM X k) k x j = x j := by
    have e2 : Mx.ap 0x1d (Mx.prod 0x1d VM X k) k x j = Mx.ap 0x1d Mx.unitM k x j := Mx.sm_congr k fun l hl => by rw [h1 j l hj hl]
    rw [e2, ap_col, Mx.prod_unit_l _ _ _ _ _ hj]
  rw [← e1, ap_prod]
  exact Mx.sm_null k fun l hl => by rw [hy l hl, Gf.mul_zero]
/-- any k rows of the code determine the data -/
theorem det_any (g : Gf.Gen 0x1d) {n k s : Nat} {G D D2 : List (List UInt8)} (hG : GenOf n k G) (hn : n ≤ 255) (idx : Nat → Nat) (hi : ∀ i, i < k → idx i < n) (hinj : ∀ i j, i < k → j < k → idx i = idx j → i = j) (hD : D.length = k) (hD2 : D2.length = k) (hDs : ∀ i, i < k → (D.getD i []).length = s) (hDs2 : ∀ i, i < k → (D2.getD i []).length = s) (h : ∀ i, i < k → comb (G.getD (idx i) []) D s = comb (G.getD (idx i) []) D2 s) : D = D2 := by
  refine rows_eq (n := s) (by rw [hD, hD2]) (fun i hi => hDs i (by omega)) (fun i hi => hDs2 i (by omega)) fun i t hi' ht => ?_
  have h0 := null_any g hG hn idx hi hinj (fun j => ent D j t ^^^ ent D2 j t) (fun i hi => by
    have e : (comb (G.getD (idx i) []) D s).getD t 0 = (comb (G.getD (idx i) []) D2 s).getD t 0 := by rw [h i hi]
    rw [comb_get _ _ _ _ ht, comb_get _ _ _ _ ht, hD, hD2] at e
    have e2 : Mx.ap 0x1d (ent G) k (fun j => ent D j t ^^^ ent D2 j t) (idx i) = Mx.sm k (fun j => Gf.mul 0x1d (ent G (idx i) j) (ent D j t) ^^^ Gf.mul 0x1d (ent G (idx i) j) (ent D2 j t)) := Mx.sm_congr k fun j _ => Gf.mul_xor _ _ _ _
    rw [e2, Mx.sm_xor]
    have e3 : Mx.sm k (fun j => Gf.mul 0x1d (ent G (idx i) j) (ent D j t)) = Mx.sm k (fun j => Gf.mul 0x1d (ent G (idx i) j) (ent D2 j t)) := e
    rw [e3, UInt8.xor_self]) i (by omega)
  exact UInt8.xor_eq_zero_iff.1 h0
theorem tells (g : Gf.Gen 0x1d) {n k s c : Nat} {G D D2 M : List (List UInt8)} {f : Nat → Nat} (hG : GenOf n k G) (hn : n ≤ 255) (hord : Ord n f) (hD : D.length = k) (hDs : ∀ i, i < k → (D.getD i []).length = s) (hD2 : D2.length = k) (hDs2 : ∀ i, i < k → (D2.getD i []).length = s) (hall : ∀ i, i < n → comb (G.getD (f i) []) D2 s = M.getD i []) (hc : c + k ≤ n) (hk : 0 < n) (hsame : ∀ i, c ≤ i → i < n → M.getD i [] = comb (G.getD (f i) []) D s) (hne : M.getD 0 [] ≠ comb (G.getD (f 0) []) D s) : False := by
  have e := det_any g hG hn (fun i => f (c + i)) (fun i hi => hord.1 _ (by omega)) (fun i j hi hj e => by have := hord.2 (c + i) (c + j) (by omega) (by omega) e; omega) hD hD2 hDs hDs2 (fun i hi => by rw [hall (c + i) (by omega), hsame (c + i) (by omega) (by omega)])
  subst e
  exact hne (hall 0 hk).symm
/-- a row with another byte is another row -/
theorem set_ne {L : List UInt8} {p : Nat} {b : UInt8} (hp : p < L.length) (hb : b ≠ L.getD p 0) : L.set p b ≠ L := fun e => hb (by
  have := congrArg (fun r => r.getD p 0) e
  simp only [List.getD_eq_getElem?_getD] at this ⊢
  rw [← this, List.getElem?_set_self hp]; rfl)
theorem turn_ne (a t : UInt8) (ht : t ≠ 0) : a ^^^ t ≠ a := fun e => ht (by
  have : a ^^^ (a ^^^ t) = a ^^^ a := by rw [e]
  rwa [← UInt8.xor_assoc, UInt8.xor_self, UInt8.zero_xor] at this)
theorem or1_ : ∀ k : Fin 256, bits .or .u8 (k.val : Int) 1 = ((UInt8.ofNat k.val ||| 1).toNat : Int) ∧ (UInt8.ofNat k.val ||| 1) ≠ 0 := by decide +kernel
theorem or1 (b : UInt8) : bits .or .u8 (b.toNat : Int) 1 = ((b ||| 1).toNat : Int) := by
  have := (or1_ ⟨b.toNat, UInt8.toNat_lt b⟩).1
  simpa using this
theorem or1_ne (b : UInt8) : b ||| 1 ≠ 0 := by
  have := (or1_ ⟨b.toNat, UInt8.toNat_lt b⟩).2
  rwa [UInt8.ofNat_toNat] at this
/-- any k rows have data that have them -/
theorem hides_any {k s : Nat} {G X : List (List UInt8)} {ps : List (Int × List UInt8)} (hX : X.length = k) (hp : ∀ i j, i < k → j < k → Mx.prod 0x1d (ent (hRows G ps k)) (ent X) k i j = Mx.unitM i j) (hs : ∀ i, i < k → (prt ps i).2.length = s) (i : Nat) (hi : i < k) : comb (G.getD (ixOf ps i) []) (enc X (gRows ps k) s) s = (prt ps i).2 := by
  have hgl : (gRows ps k).length = k := by simp [gRows]
  apply List.ext_getElem (by rw [comb_length, hs i hi])
  intro t h1 h2
  rw [comb_length] at h1
  have e1 : ∀ j, j < k → ent (enc X (gRows ps k) s) j t = Mx.prod 0x1d (ent X) (ent (gRows ps k)) k j t := fun j hj => by
    show ((enc X (gRows ps k) s).getD j []).getD t 0 = _
    rw [enc_get _ _ _ _ (by omega), comb_get _ _ _ _ h1, hgl]; rfl
  have e2 : (comb (G.getD (ixOf ps i) []) (enc X (gRows ps k) s) s).getD t 0 = ent (gRows ps k) i t := by
    rw [comb_get _ _ _ _ h1, enc_length, hX]
    have e3 : (Mx.sm k fun j => Gf.mul 0x1d ((G.getD (ixOf ps i) []).getD j 0) (ent (enc X (gRows ps k) s) j t)) = Mx.prod 0x1d (ent (hRows G ps k)) (Mx.prod 0x1d (ent X) (ent (gRows ps k)) k) k i t := Mx.sm_congr k fun j hj => by
      rw [e1 j hj]
      show _ = Gf.mul 0x1d (((hRows G ps k).getD i []).getD j 0) _
      rw [hRows_get hi]
    rw [e3, ← Mx.prod_assoc, Mx.prod_congr (A' := Mx.unitM) (B' := ent (gRows ps k)) (fun l hl => hp i l hi hl) (fun _ _ => rfl), Mx.prod_unit_l _ _ _ _ _ hi]
  have e4 : ent (gRows ps k) i t = (prt ps i).2[t] := by
    unfold ent
    rw [gRows_get hi, List.getD_eq_getElem?_getD, List.getElem?_eq_getElem h2]; rfl
  rw [e4, List.getD_eq_getElem?_getD, List.getElem?_eq_getElem (by rw [comb_length]; exact h1)] at e2
  exact e2
/-- one more part is changed -/
theorem tell_step {M : List (List UInt8)} {n s j p : Nat} {C : Nat → List UInt8} {t : UInt8} (hM : M.length = n) (hj : j < n) (hs : ∀ i, i < n → (M.getD i []).length = s) (hp : p < s) (ht : t ≠ 0) (hun : ∀ i, j ≤ i → i < n → M.getD i [] = C i) (hne : 0 < j → M.getD 0 [] ≠ C 0) : (M.set j ((M.getD j []).set p ((M.getD j []).getD p 0 ^^^ t))).length = n ∧ (∀ i, i < n → ((M.set j ((M.getD j []).set p ((M.getD j []).getD p 0 ^^^ t))).getD i []).length = s) ∧ (∀ i, j + 1 ≤ i → i < n → (M.set j ((M.getD j []).set p ((M.getD j []).getD p 0 ^^^ t))).getD i [] = C i) ∧ (0 < j + 1 → (M.set j ((M.getD j []).set p ((M.getD j []).getD p 0 ^^^ t))).getD 0 [] ≠ C 0) := by
  have ho : ∀ i (L : List UInt8), i ≠ j → (M.set j L).getD i [] = M.getD i [] := fun i L h => by
    rw [List.getD_eq_getElem?_getD, List.getElem?_set_ne (by omega), ← List.getD_eq_getElem?_getD]
  have he : ∀ L : List UInt8, (M.set j L).getD j [] = L := fun L => by
    rw [List.getD_eq_getElem?_getD, List.getElem?_set_self (by omega)]; rfl
  refine ⟨by rw [List.length_set]; exact hM, rows_set_len hs (by rw [List.length_set]; exact hs j hj), fun i h1 h2 => by rw [ho i _ (by omega)]; exact hun i (by omega) h2, fun _ => ?_⟩
  by_cases h0 : j = 0
  · subst h0
    rw [he, hun 0 (Nat.le_refl _) hj]
    refine set_ne ?_ (turn_ne _ _ ht)
    rw [← hun 0 (Nat.le_refl _) hj, hs 0 hj]; exact hp
  · rw [ho 0 _ (by omega)]
    exact hne (by omega)
end Go.Proofs.Ytkklonldplekcaa
