/- How matrices lie in memory: rows of bytes, each in a block of its own. -/
import Derived.Test.YtkklonldplekcaaFamM
import Derived.Test.YtkklonldplekcaaMxI
import Derived.Test.YtkklonldplekcaaGfA
import Derived.Test.YtkklonldplekcaaGfN
namespace Go.Proofs.Ytkklonldplekcaa
open Go.RowKit
def rowsT : List Value → List (List UInt8) → List Thing
  | v :: vs, l :: M => rowT v l :: rowsT vs M
  | _, _ => []
theorem rowsT_length : ∀ (vs : List Value) (M : List (List UInt8)), vs.length = M.length → (rowsT vs M).length = M.length
  | [], [], _ => rfl
  | v :: vs, l :: M, h => by simp [rowsT, rowsT_length vs M (by simpa using h)]
theorem rowsT_at : ∀ (vs : List Value) (M : List (List UInt8)) (i : Nat) (v : Value) (l : List UInt8), vs[i]? = some v → M[i]? = some l → (rowsT vs M)[i]? = some (rowT v l)
  | [], _, _, _, _, h, _ => by simp at h
  | v :: vs, [], _, _, _, _, h => by simp at h
  | v :: vs, l :: M, 0, u, k, h1, h2 => by simp at h1 h2; subst h1 h2; rfl
  | v :: vs, l :: M, i + 1, u, k, h1, h2 => by
    have := rowsT_at vs M i u k (by simpa using h1) (by simpa using h2)
    simpa [rowsT] using this
theorem rowsT_set : ∀ (vs : List Value) (M : List (List UInt8)) (i : Nat) (v : Value) (l : List UInt8), vs[i]? = some v → (rowsT vs M).set i (rowT v l) = rowsT vs (M.set i l)
  | [], _, _, _, _, h => by simp at h
  | v :: vs, [], _, _, _, _ => by simp [rowsT]
  | v :: vs, k :: M, 0, u, l, h1 => by simp at h1; subst h1; rfl
  | v :: vs, k :: M, i + 1, u, l, h1 => by
    have := rowsT_set vs M i u l (by simpa using h1)
    simp only [rowsT, List.set_cons_succ, this]
/-- another value takes row i's place, with other bytes -/
theorem rowsT_put : ∀ (vs : List Value) (M : List (List UInt8)) (i : Nat) (v : Value) (l : List UInt8), vs.length = M.length → (rowsT vs M).set i (rowT v l) = rowsT (vs.set i v) (M.set i l)
  | [], [], _, _, _, _ => by simp [rowsT]
  | v :: vs, k :: M, 0, u, l, _ => rfl
  | v :: vs, k :: M, i + 1, u, l, h => by
    have := rowsT_put vs M i u l (by simpa using h)
    simp only [rowsT, List.set_cons_succ, this]
theorem rowsT_snoc : ∀ (vs : List Value) (M : List (List UInt8)) (v : Value) (l : List UInt8), vs.length = M.length → rowsT (vs ++ [v]) (M ++ [l]) = rowsT vs M ++ [rowT v l]
  | [], [], _, _, _ => rfl
  | v :: vs, k :: M, u, l, h => by simp [rowsT, rowsT_snoc vs M u l (by simpa using h)]
/-- a list of rows: the values in a row of their own, each row's bytes in a block of its own -/
def gridT (Rv : Value) (vs : List Value) (M : List (List UInt8)) : List Thing := ownT 22 1 Rv M.length vs :: rowsT vs M
/-- its elements -/
def ent (M : List (List UInt8)) : Nat → Nat → UInt8 := fun i j => (M.getD i []).getD j 0
theorem getD_set (M : List (List UInt8)) (a i : Nat) (l : List UInt8) (ha : a < M.length) : (M.set a l).getD i [] = if i = a then l else M.getD i [] := by
  rw [List.getD_eq_getElem?_getD, List.getD_eq_getElem?_getD, List.getElem?_set]
  by_cases h : a = i
  · subst h
    rw [if_pos rfl, if_pos ha, if_pos rfl]; rfl
  · rw [if_neg h, if_neg (Ne.symm h)]
theorem ent_set (M : List (List UInt8)) (a : Nat) (l : List UInt8) (ha : a < M.length) : ent (M.set a l) = fun i j => if i = a then l.getD j 0 else ent M i j := by
  funext i j
  unfold ent
  rw [getD_set M a i l ha]
  split <;> rfl
theorem infoG : (Try.prog.info? 22).map (fun i => (i.zero, i.size, i.bytes)) = some (some (.slice none 0 0), 1, 24) := by kernel_rfl
section
variable {B : Nat} {w0 w w' : World} {ts : List Thing} {Rv : Value} {vs : List Value} {M : List (List UInt8)}
theorem grid_at (hl : vs.length = M.length) {i : Nat} (hi : i < M.length) : (gridT Rv vs M)[i + 1]? = some (rowT (vs.getD i (.slice none 0 0)) (M.getD i [])) :=
  rowsT_at vs M i _ _ (by rw [List.getD_eq_getElem?_getD, List.getElem?_eq_getElem (show i < vs.length by omega)]; rfl) (by rw [List.getD_eq_getElem?_getD, List.getElem?_eq_getElem hi]; rfl)
theorem grid_set (hl : vs.length = M.length) {i : Nat} (hi : i < M.length) (l : List UInt8) : (gridT Rv vs M).set (i + 1) (rowT (vs.getD i (.slice none 0 0)) l) = gridT Rv vs (M.set i l) := by
  unfold gridT
  rw [List.set_cons_succ, rowsT_set vs M i _ l (by rw [List.getD_eq_getElem?_getD, List.getElem?_eq_getElem (show i < vs.length by omega)]; rfl), List.length_set]
/-- where a row's value lies -/
theorem Fam.gridVal {R c n : Nat} (h : Fam B w0 w (ts ++ gridT (.slice (some ⟨R, 0, none⟩) n c) vs M)) (hn : n = M.length) (hl : vs.length = M.length) (i : Nat) (hi : i < M.length) : w.cell? ⟨R, i, none⟩ = some (vs.getD i (.slice none 0 0)) ∧ w.frozen? ⟨R, i, none⟩ = false := by
  subst hn
  have ho := (h.own (i := ts.length + 0) (by rw [get_at]; rfl)).1
  refine ⟨?_, World.ownsRow.frozenAt ho i⟩
  rw [World.ownsRow.cellAt ho i (by omega), List.getD_eq_getElem?_getD, List.getElem?_eq_getElem (show i < vs.length by omega)]; rfl
theorem Fam.gridOwn (h : Fam B w0 w (ts ++ gridT Rv vs M)) (hl : vs.length = M.length) (i : Nat) (hi : i < M.length) : OwnB w 0 (vs.getD i (.slice none 0 0)) (M.getD i []) :=
  h.rowAt (i := ts.length + (i + 1)) (by rw [get_at]; exact grid_at hl hi)
/-- the rows, as they are read -/
theorem Fam.slBB {R c n : Nat} (h : Fam B w0 w (ts ++ gridT (.slice (some ⟨R, 0, none⟩) n c) vs M)) (hn : n = M.length) (hl : vs.length = M.length) : SlBB w (.slice (some ⟨R, 0, none⟩) n c) M := by
  subst hn
  have ho := (h.own (i := ts.length + 0) (by rw [get_at]; rfl)).1
  refine ⟨fun i => vs.getD i (.slice none 0 0), ?_, fun i hi => (h.gridOwn hl i hi).sl⟩
  have e : vs = (List.range M.length).map fun i => vs.getD i (.slice none 0 0) := by
    apply List.ext_getElem
    · simp [hl]
    · intro i h1 h2
      simp [h1]
  rw [e] at ho
  simpa using own_sl ho
end
/-- a matrix that is told: it never changes -/
structure MatAt (w : World) (m : Nat) (q : UInt8) (M : List (List UInt8)) (n : Nat) : Prop where
  ex : ∃ fg Rv, w.heap[m]? = some (.cells #[.pointer (some ⟨fg, 0, none⟩), Rv] 104 (0, 0)) ∧ FieldAt w fg q ∧ SlBB w Rv M
  len : ∀ i, i < M.length → (M.getD i []).length = n
  pos : 0 < M.length ∧ 0 < n
  le : M.length ≤ 512 ∧ n ≤ 512
theorem MatAt.below {w w' : World} {m : Nat} {q : UInt8} {M : List (List UInt8)} {n : Nat} (h : MatAt w m q M n) (hb : Below w.heap.size w w') : MatAt w' m q M n := by
  obtain ⟨⟨fg, Rv, h1, h2, h3⟩, h4, h5, h6⟩ := h
  exact ⟨⟨fg, Rv, (hb.block m (blk_lt h1)).trans h1, h2.next hb, h3.below hb⟩, h4, h5, h6⟩
theorem make_rows (w : World) (n : Nat) (hn : n ≤ 1099511627776) : ∃ w', (Instr.makeSlice 35 (.int .i64 (n : Int)) (.int .i64 (n : Int))).run Try.prog w = .ok (.slice (some ⟨w.heap.size, 0, none⟩) n n) w' ∧
    w'.ownsRow w.heap.size 22 1 (.slice (some ⟨w.heap.size, 0, none⟩) n n) n (List.replicate n (.slice none 0 0)) ∧ Below w.heap.size w w' := by
  obtain ⟨i, hi, hz0, hz1, hz2⟩ := info_parts infoG
  obtain ⟨w', h1, h2, h3⟩ := run_make_full (P := Try.prog) w w.heap.size 35 22 i (.slice none 0 0) 1 Try.underlying35 hi hz0 hz1 .i64 .i64 n (by rw [hz2]; omega) (by unfold maxLen; omega) (Nat.le_refl _)
  refine ⟨w', h1, ?_, (Below.refl _ _).grown h3 (Nat.le_refl _) (fun k hk => by cases hk)⟩
  rw [Nat.mul_one] at h2
  rw [show (Value.slice none 0 0).cells = #[.slice none 0 0] from rfl, toList_madeCells_one] at h2
  exact h2
end Go.Proofs.Ytkklonldplekcaa
