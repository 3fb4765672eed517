/- The matrices that a law holds; what a struct of a shape reads. -/
import Derived.Test.YtkklonldplekcaaMxT
import Derived.Test.YtkklonldplekcaaOpen
namespace Go.Proofs.Ytkklonldplekcaa
open Go.RowKit
def Mats (w : World) (l : List (Nat × List (List UInt8) × Nat)) : Prop := ∀ m T n, (m, T, n) ∈ l → MatAt w m 0x1d T n
theorem Mats.below {w w' : World} {l : List (Nat × List (List UInt8) × Nat)} (h : Mats w l) (hb : Below w.heap.size w w') : Mats w' l := fun m T n hm => (h m T n hm).below hb
theorem Mats.cons {w w' : World} {l : List (Nat × List (List UInt8) × Nat)} (h : Mats w l) (hb : Below w.heap.size w w') {m n : Nat} {T : List (List UInt8)} (hm : MatAt w' m 0x1d T n) : Mats w' ((m, T, n) :: l) := fun m' T' n' h' => by
  rcases List.mem_cons.1 h' with e | e
  · injection e with e1 e
    injection e with e2 e3
    subst e1 e2 e3
    exact hm
  · exact (h m' T' n' e).below hb
theorem Mats.nil (w : World) : Mats w [] := fun _ _ _ h => by cases h
theorem sz6_le (n : Int) : 1 ≤ sz6 n ∧ sz6 n ≤ 6 := by unfold sz6; omega
theorem inv_prod {q : UInt8} {A X O : List (List UInt8)} {n : Nat} {P : List (List UInt8)} (hl : P.length = n) (hn : ∀ i, i < P.length → (P.getD i []).length = n) (hO : O.length = n) (hOn : ∀ i, i < O.length → (O.getD i []).length = n) (h : ∀ i j, i < n → j < n → ent P i j = Mx.prod q (ent A) (ent X) n i j) (hp : ∀ i j, i < n → j < n → Mx.prod q (ent A) (ent X) n i j = Mx.unitM i j) (ho : ∀ i j, i < n → j < n → ent O i j = Mx.unitM i j) : P = O :=
  rows_eq (by omega) hn hOn fun i j hi hj => by rw [h i j (by omega) hj, hp i j (by omega) hj, ho i j (by omega) hj]
section
open Go.ChangeShapes Go.WideShapes
variable {H : Type} {enc : TypeId × Value → H} {w : World} {spare : Nat → Bool} {held : Bool} {v : Value} {d : DataW H} {ps : List MemPlace} {base : Nat} {r : Reach}
set_option maxRecDepth 100000 in
theorem arg_shape (hv : Value.okWide Try.prog w r base 24 v) (h : DataW.Trod enc Try.prog w 0 spare held 24 v d ps) : ∃ (a b : Int) (u : Value) (C : List UInt8), v = .agg #[.int .i64 a, .int .i64 b, u] ∧ (-9223372036854775808 ≤ a ∧ a ≤ 9223372036854775807) ∧ (-9223372036854775808 ≤ b ∧ b ≤ 9223372036854775807) ∧ SlB w u C ∧ C.length ≤ maxLen := by
  obtain ⟨cs, rfl⟩ := op_agg Try.underlying24 hv
  obtain ⟨fuel, h⟩ := h
  obtain ⟨xs, m, hd, hlen, hxs, each⟩ := op_struct Try.underlying24 h
  rw [show Try.prog.cellsOf 24 = 3 by kernel_rfl] at hlen
  obtain ⟨c0, c1, c2, rfl⟩ := len3 (l := cs) hlen
  obtain ⟨y0, z0, g0⟩ := each 0 _ rfl
  obtain ⟨y1, z1, g1⟩ := each 1 _ rfl
  obtain ⟨y2, z2, g2⟩ := each 2 _ rfl
  have s1 : Try.prog.cellsOf 3 = 1 := by kernel_rfl
  have s4 : Try.prog.cellsOf 22 = 1 := by kernel_rfl
  change DataW.trod enc Try.prog w 0 spare held m 3 (List.take (Try.prog.cellsOf 3) (List.drop 0 [c0, c1, c2])) = some y0 at g0
  change DataW.trod enc Try.prog w 0 spare held m 3 (List.take (Try.prog.cellsOf 3) (List.drop 1 [c0, c1, c2])) = some y1 at g1
  change DataW.trod enc Try.prog w 0 spare held m 22 (List.take (Try.prog.cellsOf 22) (List.drop 2 [c0, c1, c2])) = some y2 at g2
  rw [s1] at g0 g1
  rw [s4] at g2
  obtain ⟨a, e0, a0, a1⟩ := op_i64 Try.underlying3 g0
  obtain ⟨b, e1, b0, b1⟩ := op_i64 Try.underlying3 g1
  obtain ⟨u, C, e2, hu, _, _, hm⟩ := op_bytes Try.underlying22 Try.underlying5 (by kernel_rfl) (by kernel_rfl) g2
  simp at e0 e1 e2
  subst e0 e1 e2
  exact ⟨a, b, _, C, rfl, ⟨a0, a1⟩, ⟨b0, b1⟩, hu, hm⟩
end
end Go.Proofs.Ytkklonldplekcaa
