/- The law's own words of calls: a struct of a kind, a number, a byte, bytes, a text. -/
import Derived.Test.YtamhlfhblgmhoaaOpenL
import Derived.Test.YtamhlfhblgmhoaaPkM
import Derived.Deep.MidRow
namespace Go.Proofs.Ytamhlfhblgmhoaa
open Go.RowKit Go.ChangeShapes Go.WideShapes
structure POp where
  kind : Int
  n : Int
  b : UInt8
  l : List UInt8
  s : ByteArray
def POp.vals (o : POp) (v : Value) : List Value := [.int .i64 o.kind, .int .i64 o.n, B o.b, v, .string o.s]
def POp.R (w : World) (ys : List Value) (o : POp) : Prop := (∃ v, ys = o.vals v ∧ SlB w v o.l) ∧ -9223372036854775808 ≤ o.n ∧ o.n ≤ 9223372036854775807
def POp.m (o : POp) : Nat := o.l.length + o.s.data.toList.length + 3
theorem POp.R.below {w w' : World} {ys : List Value} {o : POp} (hb : Below w.heap.size w w') (h : POp.R w ys o) : POp.R w' ys o := by
  obtain ⟨⟨v, h1, h2⟩, h3⟩ := h
  exact ⟨⟨v, h1, h2.below hb⟩, h3⟩
section
variable {H : Type} {enc : TypeId × Value → H} {w : World} {spare : Nat → Bool} {held : Bool}
theorem op_pop (n : Nat) (ys : List Value) (y : DataW H × List MemPlace) (h : DataW.trod enc Try.prog w 0 spare held n 41 ys = some y) (hl : ys.length = Try.prog.cellsOf 41) :
    ∃ o, POp.R w ys o ∧ o.m ≤ Rows.uptoBulk y.1 := by
  obtain ⟨xs, m, hd, hlen, hxs, each⟩ := op_struct Try.underlying41 h
  rw [show Try.prog.cellsOf 41 = 5 by kernel_rfl] at hl
  match ys, hl with
  | [c0, c1, c2, c3, c4], _ =>
    obtain ⟨y0, z0, g0⟩ := each 0 _ rfl
    obtain ⟨y1, z1, g1⟩ := each 1 _ rfl
    obtain ⟨y2, z2, g2⟩ := each 2 _ rfl
    obtain ⟨y3, z3, g3⟩ := each 3 _ rfl
    obtain ⟨y4, z4, g4⟩ := each 4 _ rfl
    have s1 : Try.prog.cellsOf 3 = 1 := by kernel_rfl
    have s2 : Try.prog.cellsOf 2 = 1 := by kernel_rfl
    have s3 : Try.prog.cellsOf 5 = 1 := by kernel_rfl
    have s4 : Try.prog.cellsOf 28 = 1 := by kernel_rfl
    have s5 : Try.prog.cellsOf 9 = 1 := by kernel_rfl
    change DataW.trod enc Try.prog w 0 spare held m 3 (List.take (Try.prog.cellsOf 3) (List.drop 0 [c0, c1, c2, c3, c4])) = some y0 at g0
    change DataW.trod enc Try.prog w 0 spare held m 2 (List.take (Try.prog.cellsOf 2) (List.drop 1 [c0, c1, c2, c3, c4])) = some y1 at g1
    change DataW.trod enc Try.prog w 0 spare held m 5 (List.take (Try.prog.cellsOf 5) (List.drop 2 [c0, c1, c2, c3, c4])) = some y2 at g2
    change DataW.trod enc Try.prog w 0 spare held m 28 (List.take (Try.prog.cellsOf 28) (List.drop 3 [c0, c1, c2, c3, c4])) = some y3 at g3
    change DataW.trod enc Try.prog w 0 spare held m 9 (List.take (Try.prog.cellsOf 9) (List.drop 4 [c0, c1, c2, c3, c4])) = some y4 at g4
    rw [s1] at g0
    rw [s2] at g1
    rw [s3] at g2
    rw [s4] at g3
    rw [s5] at g4
    simp only [List.drop_succ_cons, List.drop_zero, List.take_succ_cons, List.take_zero] at g0 g1 g2 g3 g4
    obtain ⟨k, hk, _⟩ := op_i64 Try.underlying3 g0
    obtain ⟨i, hi, i0, i1⟩ := op_i64 Try.underlying2 g1
    obtain ⟨b, hb⟩ := op_u8 Try.underlying5 g2
    obtain ⟨v, l, hv, hsl, _, hbl, _⟩ := op_bytes Try.underlying28 Try.underlying5 (by kernel_rfl) (by kernel_rfl) g3
    obtain ⟨s, hs, hy4, _⟩ := DataW.trod_string Try.underlying9 g4
    injection hk with hk; injection hi with hi; injection hb with hb; injection hv with hv; injection hs with hs
    subst hk hi hb hv hs
    refine ⟨⟨k, i, b, l, s⟩, ⟨⟨c3, rfl, hsl⟩, i0, i1⟩, ?_⟩
    match xs, hxs with
    | [x0, x1, x2, x3, x4], _ =>
      simp at z0 z1 z2 z3 z4
      subst z0 z1 z2 z3 z4
      rw [hd]
      have b0 := bulk_one x0.1
      have b1 := bulk_one x1.1
      have b2 := bulk_one x2.1
      have b4 : Rows.uptoBulk x4.1 = s.data.toList.length + 1 := by rw [hy4]; simp [Rows.uptoBulk]
      simp only [POp.m, List.map_cons, List.map_nil, Rows.uptoBulk, Rows.uptoBulkAll]
      omega
end
end Go.Proofs.Ytamhlfhblgmhoaa
