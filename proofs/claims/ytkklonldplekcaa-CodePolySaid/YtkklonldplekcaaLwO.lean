/- What the argument of the code laws reads: numbers, rows, picks, bytes. -/
import Derived.Test.YtkklonldplekcaaLwA
import Derived.Test.YtkklonldplekcaaOpenL
namespace Go.Proofs.Ytkklonldplekcaa
open Go.RowKit Go.ChangeShapes Go.WideShapes
section
variable {H : Type} {enc : TypeId × Value → H} {w : World} {spare : Nat → Bool} {held : Bool} {v : Value} {d : DataW H} {ps : List MemPlace} {base : Nat} {r : Reach}
/-- a list of numbers with their range -/
def SlIb (w : World) (v : Value) (l : List Int) : Prop := SlI w v l ∧ ∀ n ∈ l, -9223372036854775808 ≤ n ∧ n ≤ 9223372036854775807
theorem op_intsb {t e : TypeId} {cs : List Value} {fuel : Nat} {x : DataW H × List MemPlace} (ht : Try.prog.underlying t = some (.slice e)) (he : Try.prog.underlying e = some (.int .i64)) (hc : Try.prog.cellsOf e = 1) (h : DataW.trod enc Try.prog w 0 spare held fuel t cs = some x) :
    ∃ (v : Value) (l : List Int), cs = [v] ∧ SlIb w v l := by
  obtain ⟨v, l, e0, ⟨A, c, ys, e1, h1, h2, h3, h4⟩, _, _⟩ := op_list (fun _ ys n => ys = [.int .i64 n] ∧ -9223372036854775808 ≤ n ∧ n ≤ 9223372036854775807) (fun _ => 0) ht (by omega) (fun n ys y hy _ => by
    obtain ⟨k, hk, k0, k1⟩ := op_i64 he hy
    exact ⟨k, ⟨hk, k0, k1⟩, Nat.zero_le _⟩) h
  rw [hc] at h3 h4
  refine ⟨v, l, e0, ⟨A, c, e1, h1, h2, fun h0 => ?_⟩, fun n hn => ?_⟩
  · obtain ⟨b, off, eA, hcell⟩ := h4 h0
    refine ⟨b, off, eA, fun i hi => ?_⟩
    have := hcell i hi 0 (by omega)
    rw [Nat.mul_one, Nat.add_zero, (h3 i _ (List.getElem?_eq_getElem hi)).2.1] at this
    rw [this]
    simp [hi]
  · obtain ⟨i, hi, rfl⟩ := List.getElem_of_mem hn
    exact (h3 i _ (List.getElem?_eq_getElem hi)).2.2
set_option maxRecDepth 100000 in
theorem arg_try (hv : Value.okWide Try.prog w r base 55 v) (h : DataW.Trod enc Try.prog w 0 spare held 55 v d ps) : ∃ (a b : Int) (vr vp vb : Value) (ll : List (List UInt8)) (pk : List Int) (X : List UInt8), v = .agg #[.int .i64 a, .int .i64 b, vr, vp, vb] ∧ (-9223372036854775808 ≤ a ∧ a ≤ 9223372036854775807) ∧ (-9223372036854775808 ≤ b ∧ b ≤ 9223372036854775807) ∧ SlBB w vr ll ∧ SlIb w vp pk ∧ SlB w vb X ∧ X.length ≤ maxLen := by
  obtain ⟨cs, rfl⟩ := op_agg Try.underlying55 hv
  obtain ⟨fuel, h⟩ := h
  obtain ⟨xs, m, hd, hlen, hxs, each⟩ := op_struct Try.underlying55 h
  rw [show Try.prog.cellsOf 55 = 5 by kernel_rfl] at hlen
  obtain ⟨c0, c1, c2, c3, c4, rfl⟩ := len5 (l := cs) hlen
  obtain ⟨y0, z0, g0⟩ := each 0 _ rfl
  obtain ⟨y1, z1, g1⟩ := each 1 _ rfl
  obtain ⟨y2, z2, g2⟩ := each 2 _ rfl
  obtain ⟨y3, z3, g3⟩ := each 3 _ rfl
  obtain ⟨y4, z4, g4⟩ := each 4 _ rfl
  have s1 : Try.prog.cellsOf 3 = 1 := by kernel_rfl
  have s2 : Try.prog.cellsOf 35 = 1 := by kernel_rfl
  have s3 : Try.prog.cellsOf 51 = 1 := by kernel_rfl
  have s4 : Try.prog.cellsOf 22 = 1 := by kernel_rfl
  change DataW.trod enc Try.prog w 0 spare held m 3 (List.take (Try.prog.cellsOf 3) (List.drop 0 [c0, c1, c2, c3, c4])) = some y0 at g0
  change DataW.trod enc Try.prog w 0 spare held m 3 (List.take (Try.prog.cellsOf 3) (List.drop 1 [c0, c1, c2, c3, c4])) = some y1 at g1
  change DataW.trod enc Try.prog w 0 spare held m 35 (List.take (Try.prog.cellsOf 35) (List.drop 2 [c0, c1, c2, c3, c4])) = some y2 at g2
  change DataW.trod enc Try.prog w 0 spare held m 51 (List.take (Try.prog.cellsOf 51) (List.drop 3 [c0, c1, c2, c3, c4])) = some y3 at g3
  change DataW.trod enc Try.prog w 0 spare held m 22 (List.take (Try.prog.cellsOf 22) (List.drop 4 [c0, c1, c2, c3, c4])) = some y4 at g4
  rw [s1] at g0 g1
  rw [s2] at g2
  rw [s3] at g3
  rw [s4] at g4
  obtain ⟨a, e0, a0, a1⟩ := op_i64 Try.underlying3 g0
  obtain ⟨b, e1, b0, b1⟩ := op_i64 Try.underlying3 g1
  obtain ⟨vr, ll, e2, hr, _, _, _⟩ := op_rows Try.underlying35 Try.underlying22 Try.underlying5 (by kernel_rfl) (by kernel_rfl) (by kernel_rfl) (by kernel_rfl) g2
  obtain ⟨vp, pk, e3, hp⟩ := op_intsb Try.underlying51 Try.underlying3 (by kernel_rfl) g3
  obtain ⟨vb, X, e4, hx, _, _, hm⟩ := op_bytes Try.underlying22 Try.underlying5 (by kernel_rfl) (by kernel_rfl) g4
  simp at e0 e1 e2 e3 e4
  subst e0 e1 e2 e3 e4
  exact ⟨a, b, _, _, _, ll, pk, X, rfl, ⟨a0, a1⟩, ⟨b0, b1⟩, hr, hp, hx, hm⟩
end
end Go.Proofs.Ytkklonldplekcaa
