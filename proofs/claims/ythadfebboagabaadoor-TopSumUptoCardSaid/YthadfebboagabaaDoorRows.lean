/-
  NARROWER THAN 'FOR EVERY INPUT', by the rows' own cells (each row's printed sentence says how): SumLong: laid · SumGrows: laid · SumBursts: laid · SumJoins: laid · SumAll: laid · TopSum: laid.
  DERIVED. THE GIVEN ROWS OF THIS SEAT. 6 by the template 'for every input the law returns true; each argument reads behind the call as it read before'; 0 by the template 'total and deterministic' (their statements: YthadfebboagabaaDoorTotals.lean).
  GIVEN WITH THE SEED: the statements are not yours to turn. If you find one false, say at which input.
  Laid BY PROGRAM, IN A SANDBOX (cutbox-rows.mjs): the forced cells as the released guide's own fill.sh prints them over the translation 5cb99e2e2a8b005c… (all of the seat's roots in one cut). By AI agents, Wed Nov 11 2026. No macro, syntax, notation, axiom, sorry.
-/
import Derived.Test.YthadfebboagabaaDoorChecked
import GoSem.Claim
import GoSem.ClaimJoined
import GoSem.ClaimMapViews
import Derived.JoinedTies
import Derived.KernelRfl
namespace Go.Proofs.YthadfebboagabaaDoor
/- THE CELL 'sum', in the pinned program and in every row, IS THE sha256 OF THE DUMP (.gsa) THAT YthadfebboagabaaDoorProg.lean LOADS. Nothing in Lean hashes anything: it is a label: what it is worth is what the hold of that sum in a sandbox is worth. -/
noncomputable def Tryd.pinned : Pinned := { name := "ythadfebboagabaadoor", sum := "5cb99e2e2a8b005cea9b54813604c8ae0458ec73713a29d1b70d503cdf08830d", checked := Tryd.checked }
namespace Rows
def none {H : Type} : Left H := { results := [], args := [] }

/- WHAT THE LISTED PACKAGE-LEVEL VARIABLES READ AS WHEN THE CALL BEGINS. Each datum BY PROGRAM (the guide's laid-datum.mjs) off the statement by which the dump's own 'gosem.cut.vars' lays the variable. In a bare row this is a premise. The card (YthadfebboagabaaDoorCards.lean) ties it to the program's text. -/
def laid_sherd_sum_steps {H : Type} : DataW H := .agg [.lit (.int .u32 0), .lit (.int .u32 498536548), .lit (.int .u32 997073096), .lit (.int .u32 651767980), .lit (.int .u32 1994146192), .lit (.int .u32 1802195444), .lit (.int .u32 1303535960), .lit (.int .u32 1342533948), .lit (.int .u32 3988292384), .lit (.int .u32 4027552580), .lit (.int .u32 3604390888), .lit (.int .u32 3412177804), .lit (.int .u32 2607071920), .lit (.int .u32 2262029012), .lit (.int .u32 2685067896), .lit (.int .u32 3183342108)]

/-- 'sherdlaw06.SumLong': WHATEVER THE INPUT: true; the input reads as it did. -/
def sumLongSpec : ChangeSpec := { name := "sumLong", fn := fun _ => fun
  | [d] => { results := [.lit (.bool true)], args := [d] }
  | _ => none }
def sumLongRow : OpenClaim := { program := "ythadfebboagabaadoor", sum := "5cb99e2e2a8b005cea9b54813604c8ae0458ec73713a29d1b70d503cdf08830d", func := "sherd/sherdlaw06.SumLong", spec := "sumLong", named := ["sherd/sum.steps"], apart := false, laid := [("sherd/sum.steps", laid_sherd_sum_steps)] }
def SumLongSaid : Prop := sumLongRow.holds Tryd.pinned (OpenSpec.ofChange sumLongSpec)

/-- ITS FALSE NEIGHBOUR: 'it returns false'. Refute it at one input. -/
def sumLongWrong : ChangeSpec := { name := "sumLong", fn := fun _ => fun
  | [d] => { results := [.lit (.bool false)], args := [d] }
  | _ => none }
def SumLongWrongFalsely : Prop := sumLongRow.holds Tryd.pinned (OpenSpec.ofChange sumLongWrong)

/-- 'sherdlaw06.SumGrows': WHATEVER THE INPUT: true; the input reads as it did. -/
def sumGrowsSpec : ChangeSpec := { name := "sumGrows", fn := fun _ => fun
  | [d] => { results := [.lit (.bool true)], args := [d] }
  | _ => none }
def sumGrowsRow : OpenClaim := { program := "ythadfebboagabaadoor", sum := "5cb99e2e2a8b005cea9b54813604c8ae0458ec73713a29d1b70d503cdf08830d", func := "sherd/sherdlaw06.SumGrows", spec := "sumGrows", named := ["sherd/sum.steps"], apart := false, laid := [("sherd/sum.steps", laid_sherd_sum_steps)] }
def SumGrowsSaid : Prop := sumGrowsRow.holds Tryd.pinned (OpenSpec.ofChange sumGrowsSpec)

/-- ITS FALSE NEIGHBOUR: 'it returns false'. Refute it at one input. -/
def sumGrowsWrong : ChangeSpec := { name := "sumGrows", fn := fun _ => fun
  | [d] => { results := [.lit (.bool false)], args := [d] }
  | _ => none }
def SumGrowsWrongFalsely : Prop := sumGrowsRow.holds Tryd.pinned (OpenSpec.ofChange sumGrowsWrong)

/-- 'sherdlaw06.SumBursts': WHATEVER THE INPUT: true; the input reads as it did. -/
def sumBurstsSpec : ChangeSpec := { name := "sumBursts", fn := fun _ => fun
  | [d1, d2, d3] => { results := [.lit (.bool true)], args := [d1, d2, d3] }
  | _ => none }
def sumBurstsRow : OpenClaim := { program := "ythadfebboagabaadoor", sum := "5cb99e2e2a8b005cea9b54813604c8ae0458ec73713a29d1b70d503cdf08830d", func := "sherd/sherdlaw06.SumBursts", spec := "sumBursts", named := ["sherd/sum.steps"], apart := false, laid := [("sherd/sum.steps", laid_sherd_sum_steps)] }
def SumBurstsSaid : Prop := sumBurstsRow.holds Tryd.pinned (OpenSpec.ofChange sumBurstsSpec)

/-- ITS FALSE NEIGHBOUR: 'it returns false'. Refute it at one input. -/
def sumBurstsWrong : ChangeSpec := { name := "sumBursts", fn := fun _ => fun
  | [d1, d2, d3] => { results := [.lit (.bool false)], args := [d1, d2, d3] }
  | _ => none }
def SumBurstsWrongFalsely : Prop := sumBurstsRow.holds Tryd.pinned (OpenSpec.ofChange sumBurstsWrong)

/-- 'sherdlaw06.SumJoins': WHATEVER THE INPUT: true; the input reads as it did. -/
def sumJoinsSpec : ChangeSpec := { name := "sumJoins", fn := fun _ => fun
  | [d1, d2, d3] => { results := [.lit (.bool true)], args := [d1, d2, d3] }
  | _ => none }
def sumJoinsRow : OpenClaim := { program := "ythadfebboagabaadoor", sum := "5cb99e2e2a8b005cea9b54813604c8ae0458ec73713a29d1b70d503cdf08830d", func := "sherd/sherdlaw06.SumJoins", spec := "sumJoins", named := ["sherd/sum.steps"], apart := false, laid := [("sherd/sum.steps", laid_sherd_sum_steps)] }
def SumJoinsSaid : Prop := sumJoinsRow.holds Tryd.pinned (OpenSpec.ofChange sumJoinsSpec)

/-- ITS FALSE NEIGHBOUR: 'it returns false'. Refute it at one input. -/
def sumJoinsWrong : ChangeSpec := { name := "sumJoins", fn := fun _ => fun
  | [d1, d2, d3] => { results := [.lit (.bool false)], args := [d1, d2, d3] }
  | _ => none }
def SumJoinsWrongFalsely : Prop := sumJoinsRow.holds Tryd.pinned (OpenSpec.ofChange sumJoinsWrong)

/-- 'sherdlaw06.SumAll': WHATEVER THE INPUT: true; the input reads as it did. -/
def sumAllSpec : ChangeSpec := { name := "sumAll", fn := fun _ => fun
  | [d] => { results := [.lit (.bool true)], args := [d] }
  | _ => none }
def sumAllRow : OpenClaim := { program := "ythadfebboagabaadoor", sum := "5cb99e2e2a8b005cea9b54813604c8ae0458ec73713a29d1b70d503cdf08830d", func := "sherd/sherdlaw06.SumAll", spec := "sumAll", named := ["sherd/sum.steps"], apart := false, laid := [("sherd/sum.steps", laid_sherd_sum_steps)] }
def SumAllSaid : Prop := sumAllRow.holds Tryd.pinned (OpenSpec.ofChange sumAllSpec)

/-- ITS FALSE NEIGHBOUR: 'it returns false'. Refute it at one input. -/
def sumAllWrong : ChangeSpec := { name := "sumAll", fn := fun _ => fun
  | [d] => { results := [.lit (.bool false)], args := [d] }
  | _ => none }
def SumAllWrongFalsely : Prop := sumAllRow.holds Tryd.pinned (OpenSpec.ofChange sumAllWrong)

/-- 'sherdtop.TopSum': WHATEVER THE INPUT: true; the input reads as it did. -/
def topSumSpec : ChangeSpec := { name := "topSum", fn := fun _ => fun
  | [d] => { results := [.lit (.bool true)], args := [d] }
  | _ => none }
def topSumRow : OpenClaim := { program := "ythadfebboagabaadoor", sum := "5cb99e2e2a8b005cea9b54813604c8ae0458ec73713a29d1b70d503cdf08830d", func := "sherd/sherdtop.TopSum", spec := "topSum", named := ["sherd/sum.steps"], apart := false, laid := [("sherd/sum.steps", laid_sherd_sum_steps)] }
def TopSumSaid : Prop := topSumRow.holds Tryd.pinned (OpenSpec.ofChange topSumSpec)

/-- ITS FALSE NEIGHBOUR: 'it returns false'. Refute it at one input. -/
def topSumWrong : ChangeSpec := { name := "topSum", fn := fun _ => fun
  | [d] => { results := [.lit (.bool false)], args := [d] }
  | _ => none }
def TopSumWrongFalsely : Prop := topSumRow.holds Tryd.pinned (OpenSpec.ofChange topSumWrong)

/- THE SECOND FORM. 'bulk': how many values and letters a reading holds, each counted each time it is reached (what is shared counts as often as it is met; a slice's spare places count too). A statement '..UptoSaid' is the law's where the arguments, and the package variables that the reading takes, are together of bulk at most 1048576: NARROWER than '..Said'. Prove '..Said' where nothing that the law and all that it calls make is longer than what came in: it says more and counts as full. Else prove '..UptoSaid'. A law counts once. -/
mutual
def uptoBulk {H : Type} : DataW H → Nat
  | .lit (.string bytes) => bytes.length + 1
  | .lit _ => 1
  | .nil => 1
  | .ptr d => uptoBulk d + 1
  | .slice elems spare => uptoBulkAll elems + uptoBulkAll spare + 1
  | .agg parts => uptoBulkAll parts + 1
  | .iface _ d => uptoBulk d + 1
  | .map entries => uptoBulkEntries entries + 1
  | .held _ => 1
def uptoBulkAll {H : Type} : List (DataW H) → Nat
  | [] => 0
  | d :: r => uptoBulk d + uptoBulkAll r
def uptoBulkEntries {H : Type} : List (Lit × DataW H) → Nat
  | [] => 0
  | x :: r => uptoBulkEntry x + uptoBulkEntries r
def uptoBulkEntry {H : Type} : Lit × DataW H → Nat
  | (.string bytes, d) => bytes.length + uptoBulk d + 1
  | (_, d) => uptoBulk d + 1
 end
def uptoSmall : (H : Type) → List (DataW H) → Bool := fun _ ds => decide (uptoBulkAll ds ≤ 1048576)
def OpenSpec.upto (s : _root_.Go.ChangeSpec) : _root_.Go.OpenSpec := { _root_.Go.OpenSpec.ofChange s with cond := some uptoSmall }

/-- 'sherdlaw06.SumLong', WHERE WHAT IT READS IS OF BULK AT MOST 1048576: true; the input reads as it did. -/
def sumLongUptoRow : OpenClaim := { program := "ythadfebboagabaadoor", sum := "5cb99e2e2a8b005cea9b54813604c8ae0458ec73713a29d1b70d503cdf08830d", func := "sherd/sherdlaw06.SumLong", spec := "sumLong", named := ["sherd/sum.steps"], apart := false, laid := [("sherd/sum.steps", laid_sherd_sum_steps)], narrowed := true }
def SumLongUptoSaid : Prop := sumLongUptoRow.holds Tryd.pinned (OpenSpec.upto sumLongSpec)

/-- 'sherdlaw06.SumGrows', WHERE WHAT IT READS IS OF BULK AT MOST 1048576: true; the input reads as it did. -/
def sumGrowsUptoRow : OpenClaim := { program := "ythadfebboagabaadoor", sum := "5cb99e2e2a8b005cea9b54813604c8ae0458ec73713a29d1b70d503cdf08830d", func := "sherd/sherdlaw06.SumGrows", spec := "sumGrows", named := ["sherd/sum.steps"], apart := false, laid := [("sherd/sum.steps", laid_sherd_sum_steps)], narrowed := true }
def SumGrowsUptoSaid : Prop := sumGrowsUptoRow.holds Tryd.pinned (OpenSpec.upto sumGrowsSpec)

/-- 'sherdlaw06.SumBursts', WHERE WHAT IT READS IS OF BULK AT MOST 1048576: true; the input reads as it did. -/
def sumBurstsUptoRow : OpenClaim := { program := "ythadfebboagabaadoor", sum := "5cb99e2e2a8b005cea9b54813604c8ae0458ec73713a29d1b70d503cdf08830d", func := "sherd/sherdlaw06.SumBursts", spec := "sumBursts", named := ["sherd/sum.steps"], apart := false, laid := [("sherd/sum.steps", laid_sherd_sum_steps)], narrowed := true }
def SumBurstsUptoSaid : Prop := sumBurstsUptoRow.holds Tryd.pinned (OpenSpec.upto sumBurstsSpec)

/-- 'sherdlaw06.SumJoins', WHERE WHAT IT READS IS OF BULK AT MOST 1048576: true; the input reads as it did. -/
def sumJoinsUptoRow : OpenClaim := { program := "ythadfebboagabaadoor", sum := "5cb99e2e2a8b005cea9b54813604c8ae0458ec73713a29d1b70d503cdf08830d", func := "sherd/sherdlaw06.SumJoins", spec := "sumJoins", named := ["sherd/sum.steps"], apart := false, laid := [("sherd/sum.steps", laid_sherd_sum_steps)], narrowed := true }
def SumJoinsUptoSaid : Prop := sumJoinsUptoRow.holds Tryd.pinned (OpenSpec.upto sumJoinsSpec)

/-- 'sherdlaw06.SumAll', WHERE WHAT IT READS IS OF BULK AT MOST 1048576: true; the input reads as it did. -/
def sumAllUptoRow : OpenClaim := { program := "ythadfebboagabaadoor", sum := "5cb99e2e2a8b005cea9b54813604c8ae0458ec73713a29d1b70d503cdf08830d", func := "sherd/sherdlaw06.SumAll", spec := "sumAll", named := ["sherd/sum.steps"], apart := false, laid := [("sherd/sum.steps", laid_sherd_sum_steps)], narrowed := true }
def SumAllUptoSaid : Prop := sumAllUptoRow.holds Tryd.pinned (OpenSpec.upto sumAllSpec)

/-- 'sherdtop.TopSum', WHERE WHAT IT READS IS OF BULK AT MOST 1048576: true; the input reads as it did. -/
def topSumUptoRow : OpenClaim := { program := "ythadfebboagabaadoor", sum := "5cb99e2e2a8b005cea9b54813604c8ae0458ec73713a29d1b70d503cdf08830d", func := "sherd/sherdtop.TopSum", spec := "topSum", named := ["sherd/sum.steps"], apart := false, laid := [("sherd/sum.steps", laid_sherd_sum_steps)], narrowed := true }
def TopSumUptoSaid : Prop := topSumUptoRow.holds Tryd.pinned (OpenSpec.upto topSumSpec)

end Rows
end Go.Proofs.YthadfebboagabaaDoor
