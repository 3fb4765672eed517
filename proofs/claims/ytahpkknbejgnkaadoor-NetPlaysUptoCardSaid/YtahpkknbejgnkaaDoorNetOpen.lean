/- What the row's list gives: the table of fates. -/
import Derived.Test.YtahpkknbejgnkaaDoorNetFh
import Derived.Test.YtahpkknbejgnkaaDoorOpenL
import Derived.LaidMore
namespace Go.Proofs.YtahpkknbejgnkaaDoor
open Go.RowKit Go.ChangeShapes Go.WideShapes
theorem gFates : Tryd.prog.globalNamed "sherd/net.fates" = some 0 := by kernel_rfl
theorem tFates : (Tryd.prog.globals[0]?).map (·.type) = some 69 := by kernel_rfl
theorem cFate : Tryd.prog.cellsOf 68 = 1 := by kernel_rfl
theorem fates {W : World} (h : laidMetH Tryd.prog [("sherd/net.fates", Rows.laid_sherd_net_fates)] W) : FtAt W := by
  obtain ⟨g, t, cs, fuel, p, hg, ht, hv, hd⟩ := h.funcs (List.mem_singleton.2 rfl)
  obtain rfl := Option.some.inj (gFates.symm.trans hg)
  obtain rfl := Option.some.inj (tFates.symm.trans ht)
  have hd' : DataW.trod (funcToken Tryd.prog) Tryd.prog W 0 (fun _ => true) true fuel 69 cs.toList = some (.agg [.held [40, 42, 115, 104, 101, 114, 100, 47, 110, 101, 116, 46, 78, 101, 116, 41, 46, 100, 114, 111, 112], .held [40, 42, 115, 104, 101, 114, 100, 47, 110, 101, 116, 46, 78, 101, 116, 41, 46, 100, 111, 117, 98, 108, 101], .held [40, 42, 115, 104, 101, 114, 100, 47, 110, 101, 116, 46, 78, 101, 116, 41, 46, 98, 117, 114, 115, 116], .held [40, 42, 115, 104, 101, 114, 100, 47, 110, 101, 116, 46, 78, 101, 116, 41, 46, 99, 117, 116], .held [40, 42, 115, 104, 101, 114, 100, 47, 110, 101, 116, 46, 78, 101, 116, 41, 46, 108, 111, 115, 101]], p) := hd
  obtain ⟨xs, m, rfl, ex, hcl, hl, hel⟩ := DataW.trod_array Tryd.underlying69 hd'
  have e3 := (DataW.agg.inj (Prod.mk.inj ex).1).symm
  match xs, hl with
  | [x0, x1, x2, x3, x4], _ =>
    simp only [List.map_cons, List.map_nil, List.cons.injEq, and_true] at e3
    obtain ⟨a0, a1, a2, a3, a4⟩ := e3
    rw [show Tryd.prog.cellsOf 69 = 5 by kernel_rfl] at hcl
    obtain ⟨c0, c1, c2, c3, c4, rfl⟩ := len5 hcl
    have h0 := hel 0 (by decide)
    have h1 := hel 1 (by decide)
    have h2 := hel 2 (by decide)
    have h3 := hel 3 (by decide)
    have h4 := hel 4 (by decide)
    obtain ⟨x0, y0⟩ := x0
    obtain ⟨x1, y1⟩ := x1
    obtain ⟨x2, y2⟩ := x2
    obtain ⟨x3, y3⟩ := x3
    obtain ⟨x4, y4⟩ := x4
    simp only at a0 a1 a2 a3 a4
    subst a0 a1 a2 a3 a4
    rw [cFate] at h0 h1 h2 h3 h4
    obtain rfl := func_of_trod (f0 := 60) Tryd.underlying68 (by kernel_rfl) h0
    obtain rfl := func_of_trod (f0 := 61) Tryd.underlying68 (by kernel_rfl) h1
    obtain rfl := func_of_trod (f0 := 62) Tryd.underlying68 (by kernel_rfl) h2
    obtain rfl := func_of_trod (f0 := 63) Tryd.underlying68 (by kernel_rfl) h3
    obtain rfl := func_of_trod (f0 := 64) Tryd.underlying68 (by kernel_rfl) h4
    exact ⟨World.var?_cell hg hv 0, World.var?_cell hg hv 1, World.var?_cell hg hv 2, World.var?_cell hg hv 3, World.var?_cell hg hv 4⟩
end Go.Proofs.YtahpkknbejgnkaaDoor
