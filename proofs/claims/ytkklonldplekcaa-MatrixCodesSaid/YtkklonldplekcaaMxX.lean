/- Rows that are told, with one more behind them. -/
import Derived.Test.YtkklonldplekcaaMatrixSolvesW
namespace Go.Proofs.Ytkklonldplekcaa
open Go.RowKit
/-- one row more behind rows that are told -/
theorem app_rows {B : Nat} {w0 w w' : World} {ts : List Thing} {v v' u : Value} {vs : List Value} {M : List (List UInt8)} {S : List UInt8} (h : Fam B w0 w (ts ++ gridT v vs M)) (hl : vs.length = M.length) (ho : w'.ownsRow 0 22 1 v' (M.length + 1) (vs ++ [u])) (hg : w.grownBy w' v.ownBlock) (hn : ∀ k, v'.ownBlock = some k → v.ownBlock = some k ∨ w.heap.size ≤ k) (hu : SlB w' u S) : SlBB w' v' (M ++ [S]) ∧ Below B w0 w' := by
  have h1 := h.grow (i := ts.length + 0) (e := 22) (s := 1) (n := M.length) (v := v) (xs := vs) (by rw [get_at]; rfl) ho hg hn
  rw [set_at] at h1
  refine ⟨⟨fun i => (vs ++ [u]).getD i (.slice none 0 0), ?_, fun i hi => ?_⟩, h1.base⟩
  · have e : vs ++ [u] = (List.range (M.length + 1)).map fun i => (vs ++ [u]).getD i (.slice none 0 0) := by
      apply List.ext_getElem
      · simp [hl]
      · intro i h1 h2
        simp only [List.length_append, List.length_singleton] at h1
        rw [List.getElem_map, List.getElem_range, List.getD_eq_getElem?_getD, List.getElem?_eq_getElem (by simpa using h1)]; rfl
    rw [e] at ho
    have := own_sl ho
    rw [List.length_append, List.length_singleton]
    exact this
  · rw [List.length_append, List.length_singleton] at hi
    by_cases hi' : i < M.length
    · have h2 := h1.rowAt (i := ts.length + (i + 1)) (v := vs.getD i (.slice none 0 0)) (l := M.getD i []) (by rw [get_at]; exact grid_at (Rv := v) hl hi')
      have e1 : (vs ++ [u]).getD i (.slice none 0 0) = vs.getD i (.slice none 0 0) := by rw [List.getD_eq_getElem?_getD, List.getElem?_append_left (by omega), ← List.getD_eq_getElem?_getD]
      have e2 : (M ++ [S]).getD i [] = M.getD i [] := by rw [List.getD_eq_getElem?_getD, List.getElem?_append_left hi', ← List.getD_eq_getElem?_getD]
      show SlB w' ((vs ++ [u]).getD i (.slice none 0 0)) ((M ++ [S]).getD i [])
      rw [e1, e2]
      exact h2.sl
    · obtain rfl : i = M.length := by omega
      show SlB w' ((vs ++ [u]).getD M.length (.slice none 0 0)) ((M ++ [S]).getD M.length [])
      rw [List.getD_eq_getElem?_getD, List.getElem?_append_right (by omega), hl, Nat.sub_self, List.getD_eq_getElem?_getD, List.getElem?_append_right (by omega), Nat.sub_self]
      exact hu
theorem rows_snoc_len {M : List (List UInt8)} {S : List UInt8} {n : Nat} (h : ∀ i, i < M.length → (M.getD i []).length = n) (hs : S.length = n) : ∀ i, i < (M ++ [S]).length → ((M ++ [S]).getD i []).length = n := by
  intro i hi
  rw [List.length_append, List.length_singleton] at hi
  by_cases hi' : i < M.length
  · rw [List.getD_eq_getElem?_getD, List.getElem?_append_left hi', ← List.getD_eq_getElem?_getD]; exact h i hi'
  · rw [List.getD_eq_getElem?_getD, List.getElem?_append_right (by omega), show i - M.length = 0 by omega]; exact hs
theorem ent_snoc (M : List (List UInt8)) (S : List UInt8) (i j : Nat) (hi : i < M.length) : ent (M ++ [S]) i j = ent M i j := by
  unfold ent
  rw [List.getD_eq_getElem?_getD (l := M ++ [S]), List.getElem?_append_left hi, ← List.getD_eq_getElem?_getD]
theorem ent_last (M : List (List UInt8)) (S : List UInt8) (j : Nat) : ent (M ++ [S]) M.length j = S.getD j 0 := by
  unfold ent
  rw [List.getD_eq_getElem?_getD (l := M ++ [S]), List.getElem?_append_right (Nat.le_refl _), Nat.sub_self]; rfl
/-- the list of rows that is told: it is read, and one may be appended -/
theorem Told.parts {B : Nat} {w0 W : World} {M : List (List UInt8)} {v : Value} (h : Told B w0 W [] M M.length v) : ∃ R c vs, v = .slice (some ⟨R, 0, none⟩) M.length c ∧ vs.length = M.length ∧ Fam B w0 W ([] ++ gridT v vs M) := by
  obtain ⟨R, c, vs, e, hl, hf⟩ := h
  rw [List.take_length] at hf
  exact ⟨R, c, vs, e, hl, hf⟩
end Go.Proofs.Ytkklonldplekcaa
