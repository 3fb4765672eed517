/- The law's own words of calls, as they are read. -/
import Derived.Test.YtcadacljacbipaaDkX
import Derived.Test.YtcadacljacbipaaDkQ
import Derived.Test.YtcadacljacbipaaOpenL
import Derived.Deep.MidRow
namespace Go.Proofs.Ytcadacljacbipaa
open Go.RowKit Go.ChangeShapes Go.WideShapes
def Dop.R (w : World) (ys : List Value) (o : Dop) : Prop :=
  (∃ v a b c, ys = o.vals v a b c ∧ SlB w v o.data ∧ SlB w a o.sa ∧ SlB w b o.sb ∧ SlZ w c o.ch) ∧ (-9223372036854775808 ≤ o.slot ∧ o.slot ≤ 9223372036854775807) ∧ (-9223372036854775808 ≤ o.n ∧ o.n ≤ 9223372036854775807) ∧ (-9223372036854775808 ≤ o.d ∧ o.d ≤ 9223372036854775807)
def Dop.m (o : Dop) : Nat := o.data.length + o.sa.length + o.sb.length + o.ch.length + 1
section
variable {H : Type} {enc : TypeId × Value → H} {w : World} {spare : Nat → Bool} {held : Bool}
/-- numbers, with their range -/
theorem op_ints {P : Program} {t e : TypeId} {cs : List Value} {fuel : Nat} {x : DataW H × List MemPlace} (ht : P.underlying t = some (.slice e)) (he : P.underlying e = some (.int .i64)) (hc : P.cellsOf e = 1) (h : DataW.trod enc P w 0 spare held fuel t cs = some x) :
    ∃ (v : Value) (l : List Int), cs = [v] ∧ SlZ w v l ∧ l.length + 1 ≤ Rows.uptoBulk x.1 := by
  obtain ⟨v, l, e0, ⟨A, c, ys, e1, h1, h2, h3, h4⟩, _, hb⟩ := op_list (fun _ ys n => ys = [.int .i64 n] ∧ -9223372036854775808 ≤ n ∧ n ≤ 9223372036854775807) (fun _ => 0) ht (by omega) (fun n ys y hy _ => by
    obtain ⟨k, hk, k0, k1⟩ := op_i64 he hy
    exact ⟨k, ⟨hk, k0, k1⟩, Nat.zero_le _⟩) h
  rw [hc] at h3 h4
  refine ⟨v, l, e0, ⟨⟨A, c, e1, h1, h2, fun h0 => ?_⟩, fun n hn => ?_⟩, hb⟩
  · obtain ⟨b, off, eA, hcell⟩ := h4 h0
    refine ⟨b, off, eA, fun i hi => ?_⟩
    have := hcell i hi 0 (by omega)
    rw [Nat.mul_one, Nat.add_zero, (h3 i _ (List.getElem?_eq_getElem hi)).2.1] at this
    rw [this]
    simp [hi]
  · obtain ⟨i, hi, rfl⟩ := List.getElem_of_mem hn
    exact (h3 i _ (List.getElem?_eq_getElem hi)).2.2
theorem op_dop (n : Nat) (ys : List Value) (y : DataW H × List MemPlace) (h : DataW.trod enc Try.prog w 0 spare held n 51 ys = some y) (hl : ys.length = Try.prog.cellsOf 51) :
    ∃ o, Dop.R w ys o ∧ o.m ≤ Rows.uptoBulk y.1 := by
  obtain ⟨xs, m, hd, hlen, hxs, each⟩ := op_struct Try.underlying51 h
  rw [show Try.prog.cellsOf 51 = 9 by kernel_rfl] at hl
  match ys, hl with
  | [c0, c1, c2, c3, c4, c5, c6, c7, c8], _ =>
    obtain ⟨y0, z0, g0⟩ := each 0 _ rfl
    obtain ⟨y1, z1, g1⟩ := each 1 _ rfl
    obtain ⟨y2, z2, g2⟩ := each 2 _ rfl
    obtain ⟨y3, z3, g3⟩ := each 3 _ rfl
    obtain ⟨y4, z4, g4⟩ := each 4 _ rfl
    obtain ⟨y5, z5, g5⟩ := each 5 _ rfl
    obtain ⟨y6, z6, g6⟩ := each 6 _ rfl
    obtain ⟨y7, z7, g7⟩ := each 7 _ rfl
    have s1 : Try.prog.cellsOf 3 = 1 := by kernel_rfl
    have s2 : Try.prog.cellsOf 4 = 1 := by kernel_rfl
    have s4 : Try.prog.cellsOf 22 = 1 := by kernel_rfl
    have s5 : Try.prog.cellsOf 24 = 1 := by kernel_rfl
    have s6 : Try.prog.cellsOf 32 = 2 := by kernel_rfl
    change DataW.trod enc Try.prog w 0 spare held m 3 (List.take (Try.prog.cellsOf 3) (List.drop 0 [c0, c1, c2, c3, c4, c5, c6, c7, c8])) = some y0 at g0
    change DataW.trod enc Try.prog w 0 spare held m 3 (List.take (Try.prog.cellsOf 3) (List.drop 1 [c0, c1, c2, c3, c4, c5, c6, c7, c8])) = some y1 at g1
    change DataW.trod enc Try.prog w 0 spare held m 3 (List.take (Try.prog.cellsOf 3) (List.drop 2 [c0, c1, c2, c3, c4, c5, c6, c7, c8])) = some y2 at g2
    change DataW.trod enc Try.prog w 0 spare held m 22 (List.take (Try.prog.cellsOf 22) (List.drop 3 [c0, c1, c2, c3, c4, c5, c6, c7, c8])) = some y3 at g3
    change DataW.trod enc Try.prog w 0 spare held m 3 (List.take (Try.prog.cellsOf 3) (List.drop 4 [c0, c1, c2, c3, c4, c5, c6, c7, c8])) = some y4 at g4
    change DataW.trod enc Try.prog w 0 spare held m 4 (List.take (Try.prog.cellsOf 4) (List.drop 5 [c0, c1, c2, c3, c4, c5, c6, c7, c8])) = some y5 at g5
    change DataW.trod enc Try.prog w 0 spare held m 32 (List.take (Try.prog.cellsOf 32) (List.drop 6 [c0, c1, c2, c3, c4, c5, c6, c7, c8])) = some y6 at g6
    change DataW.trod enc Try.prog w 0 spare held m 24 (List.take (Try.prog.cellsOf 24) (List.drop 8 [c0, c1, c2, c3, c4, c5, c6, c7, c8])) = some y7 at g7
    rw [s1] at g0 g1 g2 g4
    rw [s4] at g3
    rw [s2] at g5
    rw [s6] at g6
    rw [s5] at g7
    simp only [List.drop_succ_cons, List.drop_zero, List.take_succ_cons, List.take_zero] at g0 g1 g2 g3 g4 g5 g6 g7
    obtain ⟨k, hk, _⟩ := op_i64 Try.underlying3 g0
    obtain ⟨dd, hdd, d0, d1⟩ := op_i64 Try.underlying3 g1
    obtain ⟨sl, hs, s0, s1'⟩ := op_i64 Try.underlying3 g2
    obtain ⟨v, l, hv, hsl, _, hbl, _⟩ := op_bytes Try.underlying22 Try.underlying5 (by kernel_rfl) (by kernel_rfl) g3
    obtain ⟨nn, hn, n0, n1⟩ := op_i64 Try.underlying3 g4
    obtain ⟨bb, hb, _⟩ := DataW.trod_bool Try.underlying4 g5
    obtain ⟨es, me, _, hx6, _, hel, hea⟩ := DataW.trod_array Try.underlying32 g6
    obtain ⟨c, ch, hc, hcz, hcb⟩ := op_ints Try.underlying24 Try.underlying3 (by kernel_rfl) g7
    have ha0 := hea 0 (by omega)
    have ha1 := hea 1 (by omega)
    rw [s4] at ha0 ha1
    simp only [Nat.zero_mul, Nat.one_mul, List.drop_succ_cons, List.drop_zero, List.take_succ_cons, List.take_zero] at ha0 ha1
    match es, hel with
    | [e0, e1], _ =>
      simp at ha0 ha1
      obtain ⟨u0, la, hu0, hsa, _, hba, _⟩ := op_bytes Try.underlying22 Try.underlying5 (by kernel_rfl) (by kernel_rfl) ha0
      obtain ⟨u1, lb, hu1, hsb, _, hbb, _⟩ := op_bytes Try.underlying22 Try.underlying5 (by kernel_rfl) (by kernel_rfl) ha1
      injection hk with hk; injection hdd with hdd; injection hs with hs; injection hv with hv; injection hn with hn; injection hb with hb; injection hu0 with hu0; injection hu1 with hu1; injection hc with hc
      subst hk hdd hs hv hn hb hu0 hu1 hc
      refine ⟨⟨k, dd, sl, l, nn, bb, la, lb, ch⟩, ⟨⟨c3, c6, c7, c8, rfl, hsl, hsa, hsb, hcz⟩, ⟨s0, s1'⟩, ⟨n0, n1⟩, ⟨d0, d1⟩⟩, ?_⟩
      match xs, hxs with
      | [x0, x1, x2, x3, x4, x5, x6, x7], _ =>
        simp at z0 z1 z2 z3 z4 z5 z6 z7
        subst z0 z1 z2 z3 z4 z5 z6 z7
        rw [hd]
        have h6 : Rows.uptoBulk x6.1 = Rows.uptoBulkAll [e0.1, e1.1] + 1 := by rw [hx6]; simp [Rows.uptoBulk]
        have hall : Rows.uptoBulkAll [e0.1, e1.1] = Rows.uptoBulk e0.1 + Rows.uptoBulk e1.1 := by simp [Rows.uptoBulkAll]
        have b0 := bulk_one x0.1
        simp only [Dop.m, List.map_cons, List.map_nil, Rows.uptoBulk, Rows.uptoBulkAll] at *
        omega
theorem arg_intsz {P : Program} {t e : TypeId} {v : Value} {d : DataW H} {ps : List MemPlace} {base : Nat} {r : Reach} (ht : P.underlying t = some (.slice e)) (he : P.underlying e = some (.int .i64)) (hc : P.cellsOf e = 1) (hv : Value.okWide P w r base t v) (h : DataW.Trod enc P w 0 spare held t v d ps) :
    ∃ l : List Int, SlZ w v l ∧ l.length + 1 ≤ Rows.uptoBulk d := by
  obtain ⟨a, n, c, rfl⟩ := okWide_slice ht hv
  obtain ⟨fuel, h⟩ := h
  obtain ⟨u, l, h1, h2, h3⟩ := op_ints ht he hc h
  simp only [Value.cells] at h1
  injection h1 with h1
  subst h1
  exact ⟨l, h2, h3⟩
end
theorem bytesD_le : ∀ l : List Dop, bytesD l + l.length ≤ (l.map Dop.m).sum
  | [] => Nat.le_refl _
  | o :: l => by
    have := bytesD_le l
    simp only [bytesD, List.map_cons, List.sum_cons, List.length_cons, Dop.m] at this ⊢
    omega
end Go.Proofs.Ytcadacljacbipaa
