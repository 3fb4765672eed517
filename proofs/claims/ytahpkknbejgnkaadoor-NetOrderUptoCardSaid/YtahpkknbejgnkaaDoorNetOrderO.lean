/- Opening the arguments: rows of bytes, ints in their bounds; the table of fates. -/
import Derived.Test.YtahpkknbejgnkaaDoorNetOrderW
import Derived.Test.YtahpkknbejgnkaaDoorOpenL
import Derived.LaidMore
namespace Go.Proofs.YtahpkknbejgnkaaDoor
open Go.RowKit Go.ChangeShapes Go.WideShapes
theorem gFates : Tryd.prog.globalNamed "sherd/net.fates" = some 0 := by kernel_rfl
theorem tFates : (Tryd.prog.globals[0]?).map (·.type) = some 69 := by kernel_rfl
theorem cFate : Tryd.prog.cellsOf 68 = 1 := by kernel_rfl
theorem fates {W : World} (h : laidMetH Tryd.prog [("sherd/net.fates", Rows.laid_sherd_net_fates)] W) : FtAt W := by
  obtain ⟨g, t, cs, fuel, p, hg, ht, hv, hd⟩ := h.funcs (List.mem_singleton.2 rfl)
  obtain rfl := Option.some.inj (gFates.symm.trans hg)
  obtain rfl := Option.some.inj (tFates.symm.trans ht)
  have hd' : DataW.trod (funcToken Tryd.prog) Tryd.prog W 0 (fun _ => true) true fuel 69 cs.toList = some (.agg [.held [40, 42, 115, 104, 101, 114, 100, 47, 110, 101, 116, 46, 78, 101, 116, 41, 46, 100, 114, 111, 112], .held [40, 42, 115, 104, 101, 114, 100, 47, 110, 101, 116, 46, 78, 101, 116, 41, 46, 100, 111, 117, 98, 108, 101], .held [40, 42, 115, 104, 101, 114, 100, 47, 110, 101, 116, 46, 78, 101, 116, 41, 46, 98, 117, 114, 115, 116], .held [40, 42, 115, 104, 101, 114, 100, 47, 110, 101, 116, 46, 78, 101, 116, 41, 46, 99, 117, 116], .held [40, 42, 115, 104, 101, 114, 100, 47, 110, 101, 116, 46, 78, 101, 116, 41, 46, 108, 111, 115, 101]], p) := hd
  obtain ⟨xs, m, rfl, ex, hcl, hl, hel⟩ := DataW.trod_array Tryd.underlying69 hd'
  have e3 := (DataW.agg.inj (Prod.mk.inj ex).1).symm
  match xs, hl with
  | [x0, x1, x2, x3, x4], _ =>
    simp only [List.map_cons, List.map_nil, List.cons.injEq, and_true] at e3
    obtain ⟨a0, a1, a2, a3, a4⟩ := e3
    rw [show Tryd.prog.cellsOf 69 = 5 by kernel_rfl] at hcl
    obtain ⟨c0, c1, c2, c3, c4, rfl⟩ := len5 hcl
    have h0 := hel 0 (by decide)
    have h1 := hel 1 (by decide)
    have h2 := hel 2 (by decide)
    have h3 := hel 3 (by decide)
    have h4 := hel 4 (by decide)
    obtain ⟨x0, y0⟩ := x0
    obtain ⟨x1, y1⟩ := x1
    obtain ⟨x2, y2⟩ := x2
    obtain ⟨x3, y3⟩ := x3
    obtain ⟨x4, y4⟩ := x4
    simp only at a0 a1 a2 a3 a4
    subst a0 a1 a2 a3 a4
    rw [cFate] at h0 h1 h2 h3 h4
    obtain rfl := func_of_trod (f0 := 60) Tryd.underlying68 (by kernel_rfl) h0
    obtain rfl := func_of_trod (f0 := 61) Tryd.underlying68 (by kernel_rfl) h1
    obtain rfl := func_of_trod (f0 := 62) Tryd.underlying68 (by kernel_rfl) h2
    obtain rfl := func_of_trod (f0 := 63) Tryd.underlying68 (by kernel_rfl) h3
    obtain rfl := func_of_trod (f0 := 64) Tryd.underlying68 (by kernel_rfl) h4
    exact ⟨World.var?_cell hg hv 0, World.var?_cell hg hv 1, World.var?_cell hg hv 2, World.var?_cell hg hv 3, World.var?_cell hg hv 4⟩
section
variable {H : Type} {enc : TypeId × Value → H} {w : World} {spare : Nat → Bool} {held : Bool}
theorem arg_rows {P : Program} {t e e2 : TypeId} {v : Value} {d : DataW H} {ps : List MemPlace} {base : Nat} {r : Reach} (ht : P.underlying t = some (.slice e)) (he : P.underlying e = some (.slice e2)) (he2 : P.underlying e2 = some (.int .u8)) (hc : P.cellsOf e = 1) (hc2 : P.cellsOf e2 = 1) (hb : P.bytesOf e = 24) (hb2 : P.bytesOf e2 = 1)
    (hv : Value.okWide P w r base t v) (h : DataW.Trod enc P w 0 spare held t v d ps) : ∃ ll : List (List UInt8), SlBB w v ll ∧ (ll.map List.length).sum + ll.length + 1 ≤ Rows.uptoBulk d := by
  obtain ⟨a, n, c, rfl⟩ := okWide_slice ht hv
  obtain ⟨fuel, h⟩ := h
  obtain ⟨u, ll, h1, h2, h3, h4, _⟩ := op_rows ht he he2 hc hc2 hb hb2 h
  simp only [Value.cells] at h1
  injection h1 with h1
  subst h1
  exact ⟨ll, h2, h4⟩
theorem arg_intsb {P : Program} {t e : TypeId} {v : Value} {d : DataW H} {ps : List MemPlace} {base : Nat} {r : Reach} (ht : P.underlying t = some (.slice e)) (he : P.underlying e = some (.int .i64)) (hc : P.cellsOf e = 1) (hv : Value.okWide P w r base t v) (h : DataW.Trod enc P w 0 spare held t v d ps) :
    ∃ l : List Int, SlZ w v l ∧ (∀ x ∈ l, -9223372036854775808 ≤ x ∧ x ≤ 9223372036854775807) ∧ l.length + 1 ≤ Rows.uptoBulk d := by
  obtain ⟨l, ⟨A, c, ys, e1, h1, h2, h3, h4⟩, _, hb⟩ := arg_list (fun _ ys n => ys = [.int .i64 n] ∧ -9223372036854775808 ≤ n ∧ n ≤ 9223372036854775807) (fun _ => 0) ht (by omega) (fun n ys y hy _ => by
    obtain ⟨k, hk, hk1, hk2, _⟩ := op_int he hy
    exact ⟨k, ⟨hk, hk1, hk2⟩, Nat.zero_le _⟩) hv h
  rw [hc] at h3 h4
  refine ⟨l, ⟨A, c, e1, h1, h2, fun h0 => ?_⟩, fun x hx => ?_, hb⟩
  · obtain ⟨b, off, eA, hcell⟩ := h4 h0
    refine ⟨b, off, eA, fun i hi => ?_⟩
    have := hcell i hi 0 (by omega)
    rw [Nat.mul_one, Nat.add_zero, (h3 i _ (List.getElem?_eq_getElem hi)).2.1] at this
    rw [this]
    simp [hi]
  · obtain ⟨i, hi⟩ := List.getElem?_of_mem hx
    exact (h3 i x hi).2.2
end
theorem len_of_sum {ll : List (List UInt8)} {n : Nat} (h : (ll.map List.length).sum ≤ n) : ∀ l ∈ ll, l.length ≤ n := fun l hl => by
  obtain ⟨i, hi⟩ := List.getElem?_of_mem hl
  have := getD_len_le ll i
  rw [List.getD_eq_getElem?_getD, hi] at this
  simp at this
  omega
end Go.Proofs.YtahpkknbejgnkaaDoor
