/- A step's word, read from an argument. (Printed by gennop.py.) -/
import Derived.Test.YtahpkknbejgnkaaDoorNetPlaysW
import Derived.Test.YtahpkknbejgnkaaDoorOpenL
import Derived.Deep.MidRow
namespace Go.Proofs.YtahpkknbejgnkaaDoor
open Go.RowKit Go.ChangeShapes Go.WideShapes
section
variable {H : Type} {enc : TypeId × Value → H} {w : World} {spare : Nat → Bool} {held : Bool}
theorem op_node (n : Nat) (ys : List Value) (y : DataW H × List MemPlace) (h : DataW.trod enc Tryd.prog w 0 spare held n 29 ys = some y) (hl : ys.length = 2) :
    ∃ k i : Int, ys = [.int .i64 k, .int .i64 i] := by
  obtain ⟨xs, m, hd, hlen, hxs, each⟩ := op_struct Tryd.underlying29 h
  match ys, hl with
  | [a, b], _ =>
    obtain ⟨y0, z0, g0⟩ := each 0 _ rfl
    obtain ⟨y1, z1, g1⟩ := each 1 _ rfl
    change DataW.trod enc Tryd.prog w 0 spare held m 3 (List.take (Tryd.prog.cellsOf 3) (List.drop 0 [a, b])) = some y0 at g0
    rw [show Tryd.prog.cellsOf 3 = 1 by kernel_rfl] at g0
    change DataW.trod enc Tryd.prog w 0 spare held m 3 (List.take (Tryd.prog.cellsOf 3) (List.drop 1 [a, b])) = some y1 at g1
    rw [show Tryd.prog.cellsOf 3 = 1 by kernel_rfl] at g1
    simp only [List.drop_succ_cons, List.drop_zero, List.take_succ_cons, List.take_zero] at g0 g1
    obtain ⟨k, hk, _⟩ := op_i64 Tryd.underlying3 g0
    obtain ⟨i, hi, _⟩ := op_i64 Tryd.underlying3 g1
    injection hk with hk; injection hi with hi
    subst hk hi
    exact ⟨k, i, rfl⟩
theorem op_pkt (n : Nat) (ys : List Value) (y : DataW H × List MemPlace) (h : DataW.trod enc Tryd.prog w 0 spare held n 32 ys = some y) (hl : ys.length = 6) :
    ∃ (p : Pkt) (v : Value), ys = [.int .i64 p.fk, .int .i64 p.fi, .int .i64 p.tk, .int .i64 p.ti, v, .bool p.lost] ∧ SlB w v p.data ∧ p.data.length + 1 ≤ Rows.uptoBulk y.1 := by
  obtain ⟨xs, m, hd, hlen, hxs, each⟩ := op_struct Tryd.underlying32 h
  match ys, hl with
  | [a, b, c, d, e, f], _ =>
    obtain ⟨y0, z0, g0⟩ := each 0 _ rfl
    obtain ⟨y1, z1, g1⟩ := each 1 _ rfl
    obtain ⟨y2, z2, g2⟩ := each 2 _ rfl
    obtain ⟨y3, z3, g3⟩ := each 3 _ rfl
    change DataW.trod enc Tryd.prog w 0 spare held m 29 (List.take (Tryd.prog.cellsOf 29) (List.drop 0 [a, b, c, d, e, f])) = some y0 at g0
    rw [show Tryd.prog.cellsOf 29 = 2 by kernel_rfl] at g0
    change DataW.trod enc Tryd.prog w 0 spare held m 29 (List.take (Tryd.prog.cellsOf 29) (List.drop 2 [a, b, c, d, e, f])) = some y1 at g1
    rw [show Tryd.prog.cellsOf 29 = 2 by kernel_rfl] at g1
    change DataW.trod enc Tryd.prog w 0 spare held m 30 (List.take (Tryd.prog.cellsOf 30) (List.drop 4 [a, b, c, d, e, f])) = some y2 at g2
    rw [show Tryd.prog.cellsOf 30 = 1 by kernel_rfl] at g2
    change DataW.trod enc Tryd.prog w 0 spare held m 4 (List.take (Tryd.prog.cellsOf 4) (List.drop 5 [a, b, c, d, e, f])) = some y3 at g3
    rw [show Tryd.prog.cellsOf 4 = 1 by kernel_rfl] at g3
    simp only [List.drop_succ_cons, List.drop_zero, List.take_succ_cons, List.take_zero] at g0 g1 g2 g3
    obtain ⟨k, i, h0⟩ := op_node _ _ _ g0 rfl
    obtain ⟨k2, i2, h1⟩ := op_node _ _ _ g1 rfl
    obtain ⟨v, l, hv, hsl, _, hbl, _⟩ := op_bytes Tryd.underlying30 Tryd.underlying5 (by kernel_rfl) (by kernel_rfl) g2
    obtain ⟨bb, hb, _⟩ := DataW.trod_bool Tryd.underlying4 g3
    simp only [List.cons.injEq, and_true] at h0 h1 hv hb
    obtain ⟨rfl, rfl⟩ := h0
    obtain ⟨rfl, rfl⟩ := h1
    subst hv hb
    refine ⟨⟨k, i, k2, i2, l, bb⟩, _, rfl, hsl, ?_⟩
    match xs, hxs with
    | [x0, x1, x2, x3], _ =>
      simp at z0 z1 z2 z3
      subst z0 z1 z2 z3
      rw [hd]
      simp only [List.map_cons, List.map_nil, Rows.uptoBulk, Rows.uptoBulkAll] at *
      omega
theorem op_nop (n : Nat) (ys : List Value) (y : DataW H × List MemPlace) (h : DataW.trod enc Tryd.prog w 0 spare held n 49 ys = some y) (hl : ys.length = 11) :
    ∃ o, Nop.R w ys o ∧ o.p.data.length + 1 ≤ Rows.uptoBulk y.1 := by
  obtain ⟨xs, m, hd, hlen, hxs, each⟩ := op_struct Tryd.underlying49 h
  match ys, hl with
  | [c0, c1, c2, c3, c4, c5, c6, c7, c8, c9, c10], _ =>
    obtain ⟨y0, z0, g0⟩ := each 0 _ rfl
    obtain ⟨y1, z1, g1⟩ := each 1 _ rfl
    obtain ⟨y2, z2, g2⟩ := each 2 _ rfl
    obtain ⟨y3, z3, g3⟩ := each 3 _ rfl
    obtain ⟨y4, z4, g4⟩ := each 4 _ rfl
    obtain ⟨y5, z5, g5⟩ := each 5 _ rfl
    change DataW.trod enc Tryd.prog w 0 spare held m 3 (List.take (Tryd.prog.cellsOf 3) (List.drop 0 [c0, c1, c2, c3, c4, c5, c6, c7, c8, c9, c10])) = some y0 at g0
    rw [show Tryd.prog.cellsOf 3 = 1 by kernel_rfl] at g0
    change DataW.trod enc Tryd.prog w 0 spare held m 3 (List.take (Tryd.prog.cellsOf 3) (List.drop 1 [c0, c1, c2, c3, c4, c5, c6, c7, c8, c9, c10])) = some y1 at g1
    rw [show Tryd.prog.cellsOf 3 = 1 by kernel_rfl] at g1
    change DataW.trod enc Tryd.prog w 0 spare held m 32 (List.take (Tryd.prog.cellsOf 32) (List.drop 2 [c0, c1, c2, c3, c4, c5, c6, c7, c8, c9, c10])) = some y2 at g2
    rw [show Tryd.prog.cellsOf 32 = 6 by kernel_rfl] at g2
    change DataW.trod enc Tryd.prog w 0 spare held m 3 (List.take (Tryd.prog.cellsOf 3) (List.drop 8 [c0, c1, c2, c3, c4, c5, c6, c7, c8, c9, c10])) = some y3 at g3
    rw [show Tryd.prog.cellsOf 3 = 1 by kernel_rfl] at g3
    change DataW.trod enc Tryd.prog w 0 spare held m 3 (List.take (Tryd.prog.cellsOf 3) (List.drop 9 [c0, c1, c2, c3, c4, c5, c6, c7, c8, c9, c10])) = some y4 at g4
    rw [show Tryd.prog.cellsOf 3 = 1 by kernel_rfl] at g4
    change DataW.trod enc Tryd.prog w 0 spare held m 47 (List.take (Tryd.prog.cellsOf 47) (List.drop 10 [c0, c1, c2, c3, c4, c5, c6, c7, c8, c9, c10])) = some y5 at g5
    rw [show Tryd.prog.cellsOf 47 = 1 by kernel_rfl] at g5
    simp only [List.drop_succ_cons, List.drop_zero, List.take_succ_cons, List.take_zero] at g0 g1 g2 g3 g4 g5
    obtain ⟨k, hk, _⟩ := op_i64 Tryd.underlying3 g0
    obtain ⟨nt, hnt, n0, n1⟩ := op_i64 Tryd.underlying3 g1
    obtain ⟨p, v, hp, hsl, hbl⟩ := op_pkt _ _ _ g2 rfl
    obtain ⟨i, hi, _⟩ := op_i64 Tryd.underlying3 g3
    obtain ⟨nn, hn, _, m1⟩ := op_i64 Tryd.underlying3 g4
    obtain ⟨pt, hpt⟩ := op_u32 Tryd.underlying47 g5
    simp only [List.cons.injEq, and_true] at hk hnt hp hi hn hpt
    obtain ⟨rfl, rfl, rfl, rfl, rfl, rfl⟩ := hp
    subst hk hnt hi hn hpt
    refine ⟨⟨k, nt, p, i, nn, pt⟩, ⟨⟨_, rfl, hsl⟩, m1, n0, n1⟩, ?_⟩
    match xs, hxs with
    | [x0, x1, x2, x3, x4, x5], _ =>
      simp at z0 z1 z2 z3 z4 z5
      subst z0 z1 z2 z3 z4 z5
      rw [hd]
      simp only [List.map_cons, List.map_nil, Rows.uptoBulk, Rows.uptoBulkAll] at *
      omega
end
theorem sum_mem {α : Type} (m : α → Nat) : ∀ (l : List α) (a : α), a ∈ l → m a ≤ (l.map m).sum
  | b :: l, a, h => by
    simp only [List.map_cons, List.sum_cons]
    rcases List.mem_cons.1 h with rfl | h
    · omega
    · have := sum_mem m l a h; omega
end Go.Proofs.YtahpkknbejgnkaaDoor
