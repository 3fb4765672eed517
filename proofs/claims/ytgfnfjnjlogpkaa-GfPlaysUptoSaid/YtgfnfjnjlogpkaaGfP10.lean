/- The law's own words of calls; nil fields; the walk of the law GfPlays. -/
import Derived.Test.YtgfnfjnjlogpkaaGfP9
import Derived.Test.YtgfnfjnjlogpkaaOpenL
import Derived.Deep.MidRow
namespace Go.Proofs.Ytgfnfjnjlogpkaa
open Go.RowKit Go.ChangeShapes Go.WideShapes
structure Gop where
  kind : Int
  a : UInt8
  b : UInt8
  n : Int
  l : List UInt8
  m : List UInt8
def Gop.vals (o : Gop) (v u : Value) : List Value := [.int .i64 o.kind, B o.a, B o.b, .int .i64 o.n, v, u]
def Gop.R (w : World) (ys : List Value) (o : Gop) : Prop := (∃ v u, ys = o.vals v u ∧ SlB w v o.l ∧ SlB w u o.m) ∧ -9223372036854775808 ≤ o.n ∧ o.n ≤ 9223372036854775807
def Gop.size (o : Gop) : Nat := o.l.length + o.m.length + 2
section
variable {H : Type} {enc : TypeId × Value → H} {w : World} {spare : Nat → Bool} {held : Bool}
theorem op_gop (n : Nat) (ys : List Value) (y : DataW H × List MemPlace) (h : DataW.trod enc Try.prog w 0 spare held n 57 ys = some y) (hl : ys.length = Try.prog.cellsOf 57) :
    ∃ o, Gop.R w ys o ∧ o.size ≤ Rows.uptoBulk y.1 := by
  obtain ⟨xs, m, hd, hlen, hxs, each⟩ := op_struct Try.underlying57 h
  rw [show Try.prog.cellsOf 57 = 6 by kernel_rfl] at hl
  match ys, hl with
  | [c0, c1, c2, c3, c4, c5], _ =>
    obtain ⟨y0, z0, g0⟩ := each 0 _ rfl
    obtain ⟨y1, z1, g1⟩ := each 1 _ rfl
    obtain ⟨y2, z2, g2⟩ := each 2 _ rfl
    obtain ⟨y3, z3, g3⟩ := each 3 _ rfl
    obtain ⟨y4, z4, g4⟩ := each 4 _ rfl
    obtain ⟨y5, z5, g5⟩ := each 5 _ rfl
    have s1 : Try.prog.cellsOf 3 = 1 := by kernel_rfl
    have s3 : Try.prog.cellsOf 5 = 1 := by kernel_rfl
    have s4 : Try.prog.cellsOf 22 = 1 := by kernel_rfl
    change DataW.trod enc Try.prog w 0 spare held m 3 (List.take (Try.prog.cellsOf 3) (List.drop 0 [c0, c1, c2, c3, c4, c5])) = some y0 at g0
    change DataW.trod enc Try.prog w 0 spare held m 5 (List.take (Try.prog.cellsOf 5) (List.drop 1 [c0, c1, c2, c3, c4, c5])) = some y1 at g1
    change DataW.trod enc Try.prog w 0 spare held m 5 (List.take (Try.prog.cellsOf 5) (List.drop 2 [c0, c1, c2, c3, c4, c5])) = some y2 at g2
    change DataW.trod enc Try.prog w 0 spare held m 3 (List.take (Try.prog.cellsOf 3) (List.drop 3 [c0, c1, c2, c3, c4, c5])) = some y3 at g3
    change DataW.trod enc Try.prog w 0 spare held m 22 (List.take (Try.prog.cellsOf 22) (List.drop 4 [c0, c1, c2, c3, c4, c5])) = some y4 at g4
    change DataW.trod enc Try.prog w 0 spare held m 22 (List.take (Try.prog.cellsOf 22) (List.drop 5 [c0, c1, c2, c3, c4, c5])) = some y5 at g5
    rw [s1] at g0 g3
    rw [s3] at g1 g2
    rw [s4] at g4 g5
    simp only [List.drop_succ_cons, List.drop_zero, List.take_succ_cons, List.take_zero] at g0 g1 g2 g3 g4 g5
    obtain ⟨k, hk, _⟩ := op_i64 Try.underlying3 g0
    obtain ⟨a, ha⟩ := op_u8 Try.underlying5 g1
    obtain ⟨b, hb⟩ := op_u8 Try.underlying5 g2
    obtain ⟨i, hi, i0, i1⟩ := op_i64 Try.underlying3 g3
    obtain ⟨v, l, hv, hsl, _, hbl, _⟩ := op_bytes Try.underlying22 Try.underlying5 (by kernel_rfl) (by kernel_rfl) g4
    obtain ⟨u, l2, hu, hsu, _, hbu, _⟩ := op_bytes Try.underlying22 Try.underlying5 (by kernel_rfl) (by kernel_rfl) g5
    injection hk with hk; injection hi with hi; injection ha with ha; injection hb with hb; injection hv with hv; injection hu with hu
    subst hk hi ha hb hv hu
    refine ⟨⟨k, a, b, i, l, l2⟩, ⟨⟨c4, c5, rfl, hsl, hsu⟩, i0, i1⟩, ?_⟩
    match xs, hxs with
    | [x0, x1, x2, x3, x4, x5], _ =>
      simp at z0 z1 z2 z3 z4 z5
      subst z0 z1 z2 z3 z4 z5
      rw [hd]
      simp only [Gop.size, List.map_cons, List.map_nil, Rows.uptoBulk, Rows.uptoBulkAll]
      omega
end
theorem gop_at {w : World} {b off c n : Nat} {ops : List Gop} (h : SlR Gop.R 6 w (.slice (some ⟨b, off, none⟩) n c) ops) (i : Nat) (o : Gop) (hi : ops[i]? = some o) :
    ∃ v u, w.rangeAt b (off + i * 6) (o.vals v u) ∧ SlB w v o.l ∧ SlB w u o.m ∧ -9223372036854775808 ≤ o.n ∧ o.n ≤ 9223372036854775807 := by
  obtain ⟨A, c', ys, e1, h1, h2, h3, h4⟩ := h
  injection e1 with e1 e2 e3
  have hil := (List.getElem?_eq_some_iff.1 hi).1
  obtain ⟨b', off', eA, hc⟩ := h4 (by omega)
  rw [← e1] at eA
  injection eA with eA
  injection eA with ea eb
  subst ea eb
  obtain ⟨_, ⟨v, u, hv, hs, hs2⟩, n0, n1⟩ := h3 i o hi
  refine ⟨v, u, fun j x hj => ?_, hs, hs2, n0, n1⟩
  have hj5 : j < 6 := (List.getElem?_eq_some_iff.1 hj).1
  have := hc i hil j hj5
  rw [hv, hj] at this
  rw [Nat.add_assoc]
  exact this
theorem gcells_at {w : World} {b p : Nat} {o : Gop} {v u : Value} (h : w.rangeAt b p (o.vals v u)) (W : World) (hb : Below w.heap.size w W) :
    W.cell? ⟨b, p, none⟩ = some (.int .i64 o.kind) ∧ W.cell? ⟨b, p + 1, none⟩ = some (B o.a) ∧ W.cell? ⟨b, p + 2, none⟩ = some (B o.b) ∧ W.cell? ⟨b, p + 3, none⟩ = some (.int .i64 o.n) ∧ W.cell? ⟨b, p + 4, none⟩ = some v ∧ W.cell? ⟨b, p + 5, none⟩ = some u := by
  have key : ∀ (j : Nat) (x : Value), (o.vals v u)[j]? = some x → W.cell? ⟨b, p + j, none⟩ = some x := fun j x hx =>
    (hb.cell (World.block_lt_of_cell? w _ (h j x hx))).trans (h j x hx)
  exact ⟨key 0 _ rfl, key 1 _ rfl, key 2 _ rfl, key 3 _ rfl, key 4 _ rfl, key 5 _ rfl⟩
theorem size_le {ops : List Gop} {o : Gop} (h : o ∈ ops) : o.size ≤ (ops.map Gop.size).sum := by
  induction ops with
  | nil => cases h
  | cons a l ih =>
    simp only [List.map_cons, List.sum_cons]
    rcases List.mem_cons.1 h with rfl | h
    · omega
    · have := ih h; omega
set_option maxRecDepth 100000 in
set_option maxHeartbeats 2000000 in
theorem silent_any (w : World) : Calls Try.prog 29 #[] w fun e w' => e = .returned (.bool true) ∧ Below w.heap.size w w' := by
  go_enter Try.func29, Try.ntmps29
  go_wp2_with (first
    | (go_at_call 23; refine Calls.mono (Inv_nil 3 _) ?_; rintro e w' ⟨rfl, rfl⟩)
    | (go_at_call 20; refine Calls.mono (Log_nil 3 _) ?_; rintro e w' ⟨rfl, rfl⟩)
    | (go_at_call 21; refine Calls.mono (Pow_nil 3 4 _) ?_; rintro e w' ⟨rfl, rfl⟩)
    | (go_at_call 16; refine Calls.mono (Poly_nil _) ?_; rintro e w' ⟨rfl, rfl⟩)
    | (go_at_call 13; refine Calls.mono (Mul_nil 3 4 _) ?_; rintro e w' ⟨rfl, rfl⟩)
    | (go_at_call 19; refine Calls.mono (Exp_nil 4 _) ?_; rintro e w' ⟨rfl, rfl⟩)
    | (go_at_call 12; refine Calls.mono (Eval_nil _ 1 _) ?_; rintro e w' ⟨rfl, rfl⟩)
    | (go_at_call 14; refine Calls.mono (Div_nil 1 0 _) ?_; rintro e w' ⟨rfl, rfl⟩)
    | (go_at_call 17; refine Calls.mono (Dot_nil _ _ _) ?_; rintro e w' ⟨rfl, rfl⟩)
    | (go_at_call 18; refine Calls.mono (AddMul_nil _ _ 1 _) ?_; rintro e w' ⟨rfl, rfl⟩))
  go_ret
  exact ⟨rfl, (Below.refl _ _).alloc (Nat.le_refl _) _⟩
end Go.Proofs.Ytgfnfjnjlogpkaa
