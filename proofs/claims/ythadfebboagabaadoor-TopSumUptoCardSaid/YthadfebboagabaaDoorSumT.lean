/- What the row's list gives: the table of sixteen lies where it lies. -/
import Derived.Test.YthadfebboagabaaDoorSumW
import Derived.Test.YthadfebboagabaaDoorRows
import Derived.Lib.LaidTab
namespace Go.Proofs.YthadfebboagabaaDoor
open Go.RowKit
theorem gSteps : Tryd.prog.globalNamed "sherd/sum.steps" = some 0 := by kernel_rfl
theorem table {W : World} (h : laidMetH Tryd.prog [("sherd/sum.steps", Rows.laid_sherd_sum_steps)] W) : TabAt W := by
  have h1 : Lib.TabIs Tryd.prog W "sherd/sum.steps" .u32 (Crc.tab.map fun x => (x.toNat : Int)) :=
    Lib.tabIs_of_head (rest := []) gSteps (by kernel_rfl) Tryd.underlying68 Tryd.underlying23 (by kernel_rfl) (by kernel_rfl) h
  intro i hi
  have := h1.cell gSteps i (by simpa [Crc.tab] using hi)
  rw [this]
  have h2 : i < Crc.tab.length := by simpa [Crc.tab] using hi
  simp [h2]
end Go.Proofs.YthadfebboagabaaDoor
