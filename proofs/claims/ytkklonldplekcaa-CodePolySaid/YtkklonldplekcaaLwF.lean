/- What Decode answers of parts that are right; of too few. -/
import Derived.Test.YtkklonldplekcaaLwD
import Derived.Test.YtkklonldplekcaaLwE
namespace Go.Proofs.Ytkklonldplekcaa
open Go.RowKit
theorem ret_int_inj {a b : Int} (h : Ending.returned (.int .i64 a) = Ending.returned (.int .i64 b)) : a = b := by
  injection h with h
  injection h with _ h
theorem rf_zero {n k : Nat} {ps : List (Int × List UInt8)} {w w' : World} {r : Int} (h : RfE n k ps w (.returned (.int .i64 r)) w') (h1 : InR n ps ps.length) (h2 : ¬ Dup ps ps.length) (h3 : SameS ps) (h4 : k ≤ ps.length) : r = 0 := by
  obtain ⟨_, ⟨e, g⟩ | ⟨e, _, g⟩ | ⟨e, _, _, g⟩ | ⟨e, _, _, _, g⟩ | ⟨e, _⟩⟩ := h
  · exact absurd h1 g
  · exact absurd g h2
  · exact absurd h3 g
  · omega
  · exact ret_int_inj e
theorem rf_few {n k : Nat} {ps : List (Int × List UInt8)} {w w' : World} {r : Int} (h : RfE n k ps w (.returned (.int .i64 r)) w') (h1 : InR n ps ps.length) (h2 : ¬ Dup ps ps.length) (h3 : SameS ps) (h4 : ps.length < k) : r = 20 := by
  obtain ⟨_, ⟨e, g⟩ | ⟨e, _, g⟩ | ⟨e, _, _, g⟩ | ⟨e, _, _, _, g⟩ | ⟨e, _, _, _, g⟩⟩ := h
  · exact absurd h1 g
  · exact absurd g h2
  · exact absurd h3 g
  · exact ret_int_inj e
  · omega
/-- the data come back -/
theorem dec_data {k s : Nat} {G D X : List (List UInt8)} {ps : List (Int × List UInt8)} (hD : D.length = k) (hDs : ∀ i, i < k → (D.getD i []).length = s) (hX : X.length = k) (hp : ∀ i j, i < k → j < k → Mx.prod 0x1d (ent X) (ent (hRows G ps k)) k i j = Mx.unitM i j) (hg : ∀ j, j < k → (prt ps j).2 = comb (G.getD (ixOf ps j) []) D s) : enc X (gRows ps k) s = D := by
  refine rows_eq (n := s) (by rw [enc_length, hX, hD]) (fun i hi => by rw [enc_length] at hi; rw [enc_get _ _ _ _ hi, comb_length]) (fun i hi => hDs i (by omega)) fun i t hi ht => ?_
  rw [enc_length] at hi
  have e1 : ∀ j, j < k → ent (gRows ps k) j t = Mx.prod 0x1d (ent (hRows G ps k)) (ent D) k j t := fun j hj => by
    unfold ent
    rw [gRows_get hj, hg j hj, comb_get _ _ _ _ ht, hD]
    exact Mx.sm_congr k fun l _ => by
      show _ = Gf.mul 0x1d (((hRows G ps k).getD j []).getD l 0) _
      rw [hRows_get hj]; rfl
  have e2 : ent (enc X (gRows ps k) s) i t = Mx.prod 0x1d (ent X) (Mx.prod 0x1d (ent (hRows G ps k)) (ent D) k) k i t := by
    show ((enc X (gRows ps k) s).getD i []).getD t 0 = _
    rw [enc_get _ _ _ _ hi, comb_get _ _ _ _ ht]
    rw [show (gRows ps k).length = k by simp [gRows]]
    exact Mx.sm_congr k fun j hj => by rw [e1 j hj]; rfl
  rw [e2, ← Mx.prod_assoc, Mx.prod_congr (A' := Mx.unitM) (B' := ent D) (fun l hl => hp i l (by omega) hl) (fun _ _ => rfl), Mx.prod_unit_l _ _ _ _ _ (by omega)]
section
variable {w : World} {c n k s m : Nat} {G D : List (List UInt8)} {f : Nat → Nat} {l : List (Nat × Value)} {v : Value}
theorem good_parts (hord : Ord n f) (hm : m ≤ n) (hl : l.length = m) (hlf : ∀ i, i < m → (l.getD i (0, .slice none 0 0)).1 = f i) (M : List (List UInt8)) (hML : M.length = m) (hM : ∀ i, i < m → (M.getD i []).length = s) : InR n (psOf l M) (psOf l M).length ∧ ¬ Dup (psOf l M) (psOf l M).length ∧ SameS (psOf l M) ∧ (psOf l M).length = m ∧ ∀ i, i < m → ixOf (psOf l M) i = f i ∧ prt (psOf l M) i = ((f i : Int), M.getD i []) := by
  have hlen : (psOf l M).length = m := by rw [psOf_length, hML]
  have hp : ∀ i, i < m → prt (psOf l M) i = ((f i : Int), M.getD i []) := fun i hi => by rw [psOf_get l M i (by omega), hlf i hi]
  refine ⟨fun i hi => ?_, ?_, fun i hi => ?_, hlen, fun i hi => ⟨?_, hp i hi⟩⟩
  · rw [hp i (by omega)]
    have := hord.1 i (by omega)
    exact ⟨by show (0 : Int) ≤ (f i : Int); omega, by show (f i : Int) < (n : Int); omega⟩
  · rintro ⟨a, b, h1, h2, h3⟩
    rw [hp a (by omega), hp b (by omega)] at h3
    have := hord.2 a b (by omega) (by omega) (by have h3 : (f a : Int) = (f b : Int) := h3; omega)
    omega
  · rw [hp i (by omega), hp 0 (by omega)]
    show (M.getD i []).length = (M.getD 0 []).length
    rw [hM i (by omega), hM 0 (by omega)]
  · unfold ixOf
    rw [hp i hi]
    show (f i : Int).toNat = f i
    omega
/-- Decode of some of the rows -/
theorem Decode_good (h : CodeAt w c n k G) (hgen : GenOf n k G) (hD : D.length = k) (hDs : ∀ i, i < k → (D.getD i []).length = s) (hs : s ≤ 1099511627776) (hord : Ord n f) (hm : m ≤ n) (hkm : k ≤ m) (hl : l.length = m) (hlf : ∀ i, i < m → (l.getD i (0, .slice none 0 0)).1 = f i) (hv : SlP w v (psOf l (someR (enc G D s) f m))) :
    Calls Try.prog 48 #[.pointer (some ⟨c, 0, none⟩), v] w fun e w' => ∃ y, e = .returned (.tuple #[y, .int .i64 0]) ∧ ToldN w.heap.size w w' [] D k y := by
  have hrow : ∀ i, i < m → (someR (enc G D s) f m).getD i [] = comb (G.getD (f i) []) D s := fun i hi => by
    rw [someR_get _ _ _ _ hi, enc_get _ _ _ _ (by rw [h.len]; exact hord.1 i (by omega))]
  obtain ⟨g1, g2, g3, g4, g5⟩ := good_parts hord hm hl hlf (someR (enc G D s) f m) (someR_length _ _ _) (fun i hi => by rw [hrow i hi, comb_length])
  have hk1 := h.k1
  have hn := h.n255
  refine (Decode_any w c n k G h hgen v _ hv (by rw [g4]; omega) (fun i hi => by rw [(g5 i (by omega)).2]; show ((someR (enc G D s) f m).getD i []).length ≤ _; rw [hrow i (by omega), comb_length]; exact hs)).mono ?_
  rintro e w' (⟨r, hr, _, hrf⟩ | ⟨_, _, _, _, X, hX, _, _, hp2, hend⟩)
  · exact absurd (rf_zero hrf g1 g2 g3 (by omega)) hr
  · have hp : ∀ i, i < m → (prt (psOf l (someR (enc G D s) f m)) i).2 = comb (G.getD (ixOf (psOf l (someR (enc G D s) f m)) i) []) D s := fun i hi => by
      rw [(g5 i hi).1, (g5 i hi).2]; exact hrow i hi
    have hs0 : (prt (psOf l (someR (enc G D s) f m)) 0).2.length = s := by rw [hp 0 (by omega), comb_length]
    rw [hs0, dec_data hD hDs hX hp2 (fun j hj => hp j (by omega))] at hend
    rcases hend with ⟨_, y, rfl, ht⟩ | ⟨⟨i, h1, h2, h3⟩, _⟩
    · exact ⟨y, rfl, ht⟩
    · exact absurd (hp i (by omega)).symm h3
/-- Decode of too few -/
theorem Decode_few (h : CodeAt w c n k G) (hgen : GenOf n k G) (hs : s ≤ 1099511627776) (hord : Ord n f) (hm : m ≤ n) (hkm : m < k) (hl : l.length = m) (hlf : ∀ i, i < m → (l.getD i (0, .slice none 0 0)).1 = f i) (hv : SlP w v (psOf l (someR (enc G D s) f m))) :
    Calls Try.prog 48 #[.pointer (some ⟨c, 0, none⟩), v] w fun e w' => e = .returned (.tuple #[.slice none 0 0, .int .i64 20]) ∧ Below w.heap.size w w' := by
  have hrow : ∀ i, i < m → (someR (enc G D s) f m).getD i [] = comb (G.getD (f i) []) D s := fun i hi => by
    rw [someR_get _ _ _ _ hi, enc_get _ _ _ _ (by rw [h.len]; exact hord.1 i (by omega))]
  obtain ⟨g1, g2, g3, g4, g5⟩ := good_parts hord hm hl hlf (someR (enc G D s) f m) (someR_length _ _ _) (fun i hi => by rw [hrow i hi, comb_length])
  have hn := h.n255
  refine (Decode_any w c n k G h hgen v _ hv (by rw [g4]; omega) (fun i hi => by rw [(g5 i (by omega)).2]; show ((someR (enc G D s) f m).getD i []).length ≤ _; rw [hrow i (by omega), comb_length]; exact hs)).mono ?_
  rintro e w' (⟨r, hr, rfl, hrf⟩ | ⟨_, _, _, h4, _⟩)
  · rw [rf_few hrf g1 g2 g3 (by omega)]
    exact ⟨rfl, hrf.1⟩
  · omega
end
end Go.Proofs.Ytkklonldplekcaa
