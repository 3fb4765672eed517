/- A list of ints that is handed in: what it reads, its range and its length. -/
import Derived.Test.YtkklonldplekcaaMxV
import Derived.Test.YtkklonldplekcaaOpenL
namespace Go.Proofs.Ytkklonldplekcaa
open Go.RowKit Go.ChangeShapes Go.WideShapes
section
variable {H : Type} {enc : TypeId × Value → H} {w : World} {spare : Nat → Bool} {held : Bool} {v : Value} {d : DataW H} {ps : List MemPlace} {base : Nat} {r : Reach}
set_option maxRecDepth 100000 in
theorem arg_intsb {t e : TypeId} (ht : Try.prog.underlying t = some (.slice e)) (he : Try.prog.underlying e = some (.int .i64)) (hc : Try.prog.cellsOf e = 1) (hv : Value.okWide Try.prog w r base t v) (h : DataW.Trod enc Try.prog w 0 spare held t v d ps) :
    ∃ l : List Int, SlI w v l ∧ (∀ n ∈ l, -9223372036854775808 ≤ n ∧ n ≤ 9223372036854775807) ∧ l.length ≤ maxLen := by
  obtain ⟨a, n, c, rfl⟩ := okWide_slice ht hv
  obtain ⟨fuel, h⟩ := h
  obtain ⟨A0, len0, cap0, _, _, _, _, e0, hle, hmx, _⟩ := op_slice ht (by omega) h
  obtain ⟨u, l, e1, ⟨A, c2, ys, e2, h1, h2, h3, h4⟩, _, _⟩ := op_list (fun _ ys n => ys = [.int .i64 n] ∧ -9223372036854775808 ≤ n ∧ n ≤ 9223372036854775807) (fun _ => 0) ht (by omega) (fun n ys y hy _ => by
    obtain ⟨k, hk, k0, k1⟩ := op_i64 he hy
    exact ⟨k, ⟨hk, k0, k1⟩, Nat.zero_le _⟩) h
  simp only [Value.cells] at e0 e1
  injection e0 with e0
  injection e1 with e1
  subst e1
  injection e0 with e3 e4 e5
  injection e2 with e6 e7 e8
  rw [hc] at h3 h4
  refine ⟨l, ⟨A, c2, by rw [e6, e7, e8], h1, h2, fun h0 => ?_⟩, fun n hn => ?_, by omega⟩
  · obtain ⟨b, off, eA, hcell⟩ := h4 h0
    refine ⟨b, off, eA, fun i hi => ?_⟩
    have := hcell i hi 0 (by omega)
    rw [Nat.mul_one, Nat.add_zero, (h3 i _ (List.getElem?_eq_getElem hi)).2.1] at this
    rw [this]
    simp [hi]
  · obtain ⟨i, hi, rfl⟩ := List.getElem_of_mem hn
    exact (h3 i _ (List.getElem?_eq_getElem hi)).2.2
end
end Go.Proofs.Ytkklonldplekcaa
