/-
  No cell of these rows narrows 'for every input' (looked for: loops, veiled, ifaces, maps, wideKeys, modest, calm, conditions, laid).
  DERIVED. THE GIVEN ROWS OF THIS SEAT. 12 by the template 'for every input the law returns true; each argument reads behind the call as it read before'; 0 by the template 'total and deterministic' (their statements: YtkklonldplekcaaTotals.lean).
  GIVEN WITH THE SEED: the statements are not yours to turn. If you find one false, say at which input.
  Laid BY PROGRAM, IN A SANDBOX (cutbox-rows.mjs): the forced cells as the released guide's own fill.sh prints them over the translation 3a5af1398484a89b… (all of the seat's roots in one cut). By AI agents, Wed Nov 11 2026. No macro, syntax, notation, axiom, sorry.
-/
import Derived.Test.YtkklonldplekcaaChecked
import GoSem.Claim
import GoSem.ClaimJoined
import GoSem.ClaimMapViews
import Derived.JoinedTies
import Derived.KernelRfl
namespace Go.Proofs.Ytkklonldplekcaa
/- THE CELL 'sum', in the pinned program and in every row, IS THE sha256 OF THE DUMP (.gsa) THAT YtkklonldplekcaaProg.lean LOADS. Nothing in Lean hashes anything: it is a label: what it is worth is what the hold of that sum in a sandbox is worth. -/
noncomputable def Try.pinned : Pinned := { name := "ytkklonldplekcaa", sum := "3a5af1398484a89bbcc6f0c02aaaab1b0ee508ecc8d6e2dc7fd505a33c4a0ed6", checked := Try.checked }
namespace Rows
def none {H : Type} : Left H := { results := [], args := [] }

/-- 'sherdlaw02.MatrixInverse': WHATEVER THE INPUT: true; the input reads as it did. -/
def matrixInverseSpec : ChangeSpec := { name := "matrixInverse", fn := fun _ => fun
  | [d1, d2, d3] => { results := [.lit (.bool true)], args := [d1, d2, d3] }
  | _ => none }
def matrixInverseRow : OpenClaim := { program := "ytkklonldplekcaa", sum := "3a5af1398484a89bbcc6f0c02aaaab1b0ee508ecc8d6e2dc7fd505a33c4a0ed6", func := "sherd/sherdlaw02.MatrixInverse", spec := "matrixInverse", unfollowed := true, recurses := true, apart := false }
def MatrixInverseSaid : Prop := matrixInverseRow.holds Try.pinned (OpenSpec.ofChange matrixInverseSpec)

/-- ITS FALSE NEIGHBOUR: 'it returns false'. Refute it at one input. -/
def matrixInverseWrong : ChangeSpec := { name := "matrixInverse", fn := fun _ => fun
  | [d1, d2, d3] => { results := [.lit (.bool false)], args := [d1, d2, d3] }
  | _ => none }
def MatrixInverseWrongFalsely : Prop := matrixInverseRow.holds Try.pinned (OpenSpec.ofChange matrixInverseWrong)

/-- 'sherdlaw02.MatrixSolves': WHATEVER THE INPUT: true; the input reads as it did. -/
def matrixSolvesSpec : ChangeSpec := { name := "matrixSolves", fn := fun _ => fun
  | [d1, d2, d3] => { results := [.lit (.bool true)], args := [d1, d2, d3] }
  | _ => none }
def matrixSolvesRow : OpenClaim := { program := "ytkklonldplekcaa", sum := "3a5af1398484a89bbcc6f0c02aaaab1b0ee508ecc8d6e2dc7fd505a33c4a0ed6", func := "sherd/sherdlaw02.MatrixSolves", spec := "matrixSolves", unfollowed := true, recurses := true, apart := false }
def MatrixSolvesSaid : Prop := matrixSolvesRow.holds Try.pinned (OpenSpec.ofChange matrixSolvesSpec)

/-- ITS FALSE NEIGHBOUR: 'it returns false'. Refute it at one input. -/
def matrixSolvesWrong : ChangeSpec := { name := "matrixSolves", fn := fun _ => fun
  | [d1, d2, d3] => { results := [.lit (.bool false)], args := [d1, d2, d3] }
  | _ => none }
def MatrixSolvesWrongFalsely : Prop := matrixSolvesRow.holds Try.pinned (OpenSpec.ofChange matrixSolvesWrong)

/-- 'sherdlaw02.MatrixKeeps': WHATEVER THE INPUT: true; the input reads as it did. -/
def matrixKeepsSpec : ChangeSpec := { name := "matrixKeeps", fn := fun _ => fun
  | [d1, d2] => { results := [.lit (.bool true)], args := [d1, d2] }
  | _ => none }
def matrixKeepsRow : OpenClaim := { program := "ytkklonldplekcaa", sum := "3a5af1398484a89bbcc6f0c02aaaab1b0ee508ecc8d6e2dc7fd505a33c4a0ed6", func := "sherd/sherdlaw02.MatrixKeeps", spec := "matrixKeeps", unfollowed := true, recurses := true, apart := false }
def MatrixKeepsSaid : Prop := matrixKeepsRow.holds Try.pinned (OpenSpec.ofChange matrixKeepsSpec)

/-- ITS FALSE NEIGHBOUR: 'it returns false'. Refute it at one input. -/
def matrixKeepsWrong : ChangeSpec := { name := "matrixKeeps", fn := fun _ => fun
  | [d1, d2] => { results := [.lit (.bool false)], args := [d1, d2] }
  | _ => none }
def MatrixKeepsWrongFalsely : Prop := matrixKeepsRow.holds Try.pinned (OpenSpec.ofChange matrixKeepsWrong)

/-- 'sherdlaw03.CodeLinear': WHATEVER THE INPUT: true; the input reads as it did. -/
def codeLinearSpec : ChangeSpec := { name := "codeLinear", fn := fun _ => fun
  | [d1, d2] => { results := [.lit (.bool true)], args := [d1, d2] }
  | _ => none }
def codeLinearRow : OpenClaim := { program := "ytkklonldplekcaa", sum := "3a5af1398484a89bbcc6f0c02aaaab1b0ee508ecc8d6e2dc7fd505a33c4a0ed6", func := "sherd/sherdlaw03.CodeLinear", spec := "codeLinear", unfollowed := true, recurses := true, apart := false }
def CodeLinearSaid : Prop := codeLinearRow.holds Try.pinned (OpenSpec.ofChange codeLinearSpec)

/-- ITS FALSE NEIGHBOUR: 'it returns false'. Refute it at one input. -/
def codeLinearWrong : ChangeSpec := { name := "codeLinear", fn := fun _ => fun
  | [d1, d2] => { results := [.lit (.bool false)], args := [d1, d2] }
  | _ => none }
def CodeLinearWrongFalsely : Prop := codeLinearRow.holds Try.pinned (OpenSpec.ofChange codeLinearWrong)

/-- 'sherdlaw02.MatrixRanks': WHATEVER THE INPUT: true; the input reads as it did. -/
def matrixRanksSpec : ChangeSpec := { name := "matrixRanks", fn := fun _ => fun
  | [d1, d2, d3] => { results := [.lit (.bool true)], args := [d1, d2, d3] }
  | _ => none }
def matrixRanksRow : OpenClaim := { program := "ytkklonldplekcaa", sum := "3a5af1398484a89bbcc6f0c02aaaab1b0ee508ecc8d6e2dc7fd505a33c4a0ed6", func := "sherd/sherdlaw02.MatrixRanks", spec := "matrixRanks", unfollowed := true, recurses := true, apart := false }
def MatrixRanksSaid : Prop := matrixRanksRow.holds Try.pinned (OpenSpec.ofChange matrixRanksSpec)

/-- ITS FALSE NEIGHBOUR: 'it returns false'. Refute it at one input. -/
def matrixRanksWrong : ChangeSpec := { name := "matrixRanks", fn := fun _ => fun
  | [d1, d2, d3] => { results := [.lit (.bool false)], args := [d1, d2, d3] }
  | _ => none }
def MatrixRanksWrongFalsely : Prop := matrixRanksRow.holds Try.pinned (OpenSpec.ofChange matrixRanksWrong)

/-- 'sherdlaw02.MatrixCodes': WHATEVER THE INPUT: true; the input reads as it did. -/
def matrixCodesSpec : ChangeSpec := { name := "matrixCodes", fn := fun _ => fun
  | [d1, d2, d3] => { results := [.lit (.bool true)], args := [d1, d2, d3] }
  | _ => none }
def matrixCodesRow : OpenClaim := { program := "ytkklonldplekcaa", sum := "3a5af1398484a89bbcc6f0c02aaaab1b0ee508ecc8d6e2dc7fd505a33c4a0ed6", func := "sherd/sherdlaw02.MatrixCodes", spec := "matrixCodes", unfollowed := true, recurses := true, apart := false }
def MatrixCodesSaid : Prop := matrixCodesRow.holds Try.pinned (OpenSpec.ofChange matrixCodesSpec)

/-- ITS FALSE NEIGHBOUR: 'it returns false'. Refute it at one input. -/
def matrixCodesWrong : ChangeSpec := { name := "matrixCodes", fn := fun _ => fun
  | [d1, d2, d3] => { results := [.lit (.bool false)], args := [d1, d2, d3] }
  | _ => none }
def MatrixCodesWrongFalsely : Prop := matrixCodesRow.holds Try.pinned (OpenSpec.ofChange matrixCodesWrong)

/-- 'sherdlaw03.CodePoly': WHATEVER THE INPUT: true; the input reads as it did. -/
def codePolySpec : ChangeSpec := { name := "codePoly", fn := fun _ => fun
  | [d] => { results := [.lit (.bool true)], args := [d] }
  | _ => none }
def codePolyRow : OpenClaim := { program := "ytkklonldplekcaa", sum := "3a5af1398484a89bbcc6f0c02aaaab1b0ee508ecc8d6e2dc7fd505a33c4a0ed6", func := "sherd/sherdlaw03.CodePoly", spec := "codePoly", unfollowed := true, recurses := true, apart := false }
def CodePolySaid : Prop := codePolyRow.holds Try.pinned (OpenSpec.ofChange codePolySpec)

/-- ITS FALSE NEIGHBOUR: 'it returns false'. Refute it at one input. -/
def codePolyWrong : ChangeSpec := { name := "codePoly", fn := fun _ => fun
  | [d] => { results := [.lit (.bool false)], args := [d] }
  | _ => none }
def CodePolyWrongFalsely : Prop := codePolyRow.holds Try.pinned (OpenSpec.ofChange codePolyWrong)

/-- 'sherdlaw03.CodeHides': WHATEVER THE INPUT: true; the input reads as it did. -/
def codeHidesSpec : ChangeSpec := { name := "codeHides", fn := fun _ => fun
  | [d] => { results := [.lit (.bool true)], args := [d] }
  | _ => none }
def codeHidesRow : OpenClaim := { program := "ytkklonldplekcaa", sum := "3a5af1398484a89bbcc6f0c02aaaab1b0ee508ecc8d6e2dc7fd505a33c4a0ed6", func := "sherd/sherdlaw03.CodeHides", spec := "codeHides", unfollowed := true, recurses := true, apart := false }
def CodeHidesSaid : Prop := codeHidesRow.holds Try.pinned (OpenSpec.ofChange codeHidesSpec)

/-- ITS FALSE NEIGHBOUR: 'it returns false'. Refute it at one input. -/
def codeHidesWrong : ChangeSpec := { name := "codeHides", fn := fun _ => fun
  | [d] => { results := [.lit (.bool false)], args := [d] }
  | _ => none }
def CodeHidesWrongFalsely : Prop := codeHidesRow.holds Try.pinned (OpenSpec.ofChange codeHidesWrong)

/-- 'sherdlaw03.CodeTells': WHATEVER THE INPUT: true; the input reads as it did. -/
def codeTellsSpec : ChangeSpec := { name := "codeTells", fn := fun _ => fun
  | [d1, d2] => { results := [.lit (.bool true)], args := [d1, d2] }
  | _ => none }
def codeTellsRow : OpenClaim := { program := "ytkklonldplekcaa", sum := "3a5af1398484a89bbcc6f0c02aaaab1b0ee508ecc8d6e2dc7fd505a33c4a0ed6", func := "sherd/sherdlaw03.CodeTells", spec := "codeTells", unfollowed := true, recurses := true, apart := false }
def CodeTellsSaid : Prop := codeTellsRow.holds Try.pinned (OpenSpec.ofChange codeTellsSpec)

/-- ITS FALSE NEIGHBOUR: 'it returns false'. Refute it at one input. -/
def codeTellsWrong : ChangeSpec := { name := "codeTells", fn := fun _ => fun
  | [d1, d2] => { results := [.lit (.bool false)], args := [d1, d2] }
  | _ => none }
def CodeTellsWrongFalsely : Prop := codeTellsRow.holds Try.pinned (OpenSpec.ofChange codeTellsWrong)

/-- 'sherdlaw02.MatrixPlays': WHATEVER THE INPUT: true; the input reads as it did. -/
def matrixPlaysSpec : ChangeSpec := { name := "matrixPlays", fn := fun _ => fun
  | [d] => { results := [.lit (.bool true)], args := [d] }
  | _ => none }
def matrixPlaysRow : OpenClaim := { program := "ytkklonldplekcaa", sum := "3a5af1398484a89bbcc6f0c02aaaab1b0ee508ecc8d6e2dc7fd505a33c4a0ed6", func := "sherd/sherdlaw02.MatrixPlays", spec := "matrixPlays", unfollowed := true, recurses := true, apart := false }
def MatrixPlaysSaid : Prop := matrixPlaysRow.holds Try.pinned (OpenSpec.ofChange matrixPlaysSpec)

/-- ITS FALSE NEIGHBOUR: 'it returns false'. Refute it at one input. -/
def matrixPlaysWrong : ChangeSpec := { name := "matrixPlays", fn := fun _ => fun
  | [d] => { results := [.lit (.bool false)], args := [d] }
  | _ => none }
def MatrixPlaysWrongFalsely : Prop := matrixPlaysRow.holds Try.pinned (OpenSpec.ofChange matrixPlaysWrong)

/-- 'sherdlaw03.CodeBack': WHATEVER THE INPUT: true; the input reads as it did. -/
def codeBackSpec : ChangeSpec := { name := "codeBack", fn := fun _ => fun
  | [d] => { results := [.lit (.bool true)], args := [d] }
  | _ => none }
def codeBackRow : OpenClaim := { program := "ytkklonldplekcaa", sum := "3a5af1398484a89bbcc6f0c02aaaab1b0ee508ecc8d6e2dc7fd505a33c4a0ed6", func := "sherd/sherdlaw03.CodeBack", spec := "codeBack", unfollowed := true, recurses := true, apart := false }
def CodeBackSaid : Prop := codeBackRow.holds Try.pinned (OpenSpec.ofChange codeBackSpec)

/-- ITS FALSE NEIGHBOUR: 'it returns false'. Refute it at one input. -/
def codeBackWrong : ChangeSpec := { name := "codeBack", fn := fun _ => fun
  | [d] => { results := [.lit (.bool false)], args := [d] }
  | _ => none }
def CodeBackWrongFalsely : Prop := codeBackRow.holds Try.pinned (OpenSpec.ofChange codeBackWrong)

/-- 'sherdlaw03.CodeAll': WHATEVER THE INPUT: true; the input reads as it did. -/
def codeAllSpec : ChangeSpec := { name := "codeAll", fn := fun _ => fun
  | [d] => { results := [.lit (.bool true)], args := [d] }
  | _ => none }
def codeAllRow : OpenClaim := { program := "ytkklonldplekcaa", sum := "3a5af1398484a89bbcc6f0c02aaaab1b0ee508ecc8d6e2dc7fd505a33c4a0ed6", func := "sherd/sherdlaw03.CodeAll", spec := "codeAll", unfollowed := true, recurses := true, apart := false }
def CodeAllSaid : Prop := codeAllRow.holds Try.pinned (OpenSpec.ofChange codeAllSpec)

/-- ITS FALSE NEIGHBOUR: 'it returns false'. Refute it at one input. -/
def codeAllWrong : ChangeSpec := { name := "codeAll", fn := fun _ => fun
  | [d] => { results := [.lit (.bool false)], args := [d] }
  | _ => none }
def CodeAllWrongFalsely : Prop := codeAllRow.holds Try.pinned (OpenSpec.ofChange codeAllWrong)

/- THE SECOND FORM. 'bulk': how many values and letters a reading holds, each counted each time it is reached (what is shared counts as often as it is met; a slice's spare places count too). A statement '..UptoSaid' is the law's where the arguments, and the package variables that the reading takes, are together of bulk at most 1048576: NARROWER than '..Said'. Prove '..Said' where nothing that the law and all that it calls make is longer than what came in: it says more and counts as full. Else prove '..UptoSaid'. A law counts once. -/
mutual
def uptoBulk {H : Type} : DataW H → Nat
  | .lit (.string bytes) => bytes.length + 1
  | .lit _ => 1
  | .nil => 1
  | .ptr d => uptoBulk d + 1
  | .slice elems spare => uptoBulkAll elems + uptoBulkAll spare + 1
  | .agg parts => uptoBulkAll parts + 1
  | .iface _ d => uptoBulk d + 1
  | .map entries => uptoBulkEntries entries + 1
  | .held _ => 1
def uptoBulkAll {H : Type} : List (DataW H) → Nat
  | [] => 0
  | d :: r => uptoBulk d + uptoBulkAll r
def uptoBulkEntries {H : Type} : List (Lit × DataW H) → Nat
  | [] => 0
  | x :: r => uptoBulkEntry x + uptoBulkEntries r
def uptoBulkEntry {H : Type} : Lit × DataW H → Nat
  | (.string bytes, d) => bytes.length + uptoBulk d + 1
  | (_, d) => uptoBulk d + 1
 end
def uptoSmall : (H : Type) → List (DataW H) → Bool := fun _ ds => decide (uptoBulkAll ds ≤ 1048576)
def OpenSpec.upto (s : _root_.Go.ChangeSpec) : _root_.Go.OpenSpec := { _root_.Go.OpenSpec.ofChange s with cond := some uptoSmall }

/-- 'sherdlaw02.MatrixInverse', WHERE WHAT IT READS IS OF BULK AT MOST 1048576: true; the input reads as it did. -/
def matrixInverseUptoRow : OpenClaim := { program := "ytkklonldplekcaa", sum := "3a5af1398484a89bbcc6f0c02aaaab1b0ee508ecc8d6e2dc7fd505a33c4a0ed6", func := "sherd/sherdlaw02.MatrixInverse", spec := "matrixInverse", unfollowed := true, recurses := true, apart := false, narrowed := true }
def MatrixInverseUptoSaid : Prop := matrixInverseUptoRow.holds Try.pinned (OpenSpec.upto matrixInverseSpec)

/-- 'sherdlaw02.MatrixSolves', WHERE WHAT IT READS IS OF BULK AT MOST 1048576: true; the input reads as it did. -/
def matrixSolvesUptoRow : OpenClaim := { program := "ytkklonldplekcaa", sum := "3a5af1398484a89bbcc6f0c02aaaab1b0ee508ecc8d6e2dc7fd505a33c4a0ed6", func := "sherd/sherdlaw02.MatrixSolves", spec := "matrixSolves", unfollowed := true, recurses := true, apart := false, narrowed := true }
def MatrixSolvesUptoSaid : Prop := matrixSolvesUptoRow.holds Try.pinned (OpenSpec.upto matrixSolvesSpec)

/-- 'sherdlaw02.MatrixKeeps', WHERE WHAT IT READS IS OF BULK AT MOST 1048576: true; the input reads as it did. -/
def matrixKeepsUptoRow : OpenClaim := { program := "ytkklonldplekcaa", sum := "3a5af1398484a89bbcc6f0c02aaaab1b0ee508ecc8d6e2dc7fd505a33c4a0ed6", func := "sherd/sherdlaw02.MatrixKeeps", spec := "matrixKeeps", unfollowed := true, recurses := true, apart := false, narrowed := true }
def MatrixKeepsUptoSaid : Prop := matrixKeepsUptoRow.holds Try.pinned (OpenSpec.upto matrixKeepsSpec)

/-- 'sherdlaw03.CodeLinear', WHERE WHAT IT READS IS OF BULK AT MOST 1048576: true; the input reads as it did. -/
def codeLinearUptoRow : OpenClaim := { program := "ytkklonldplekcaa", sum := "3a5af1398484a89bbcc6f0c02aaaab1b0ee508ecc8d6e2dc7fd505a33c4a0ed6", func := "sherd/sherdlaw03.CodeLinear", spec := "codeLinear", unfollowed := true, recurses := true, apart := false, narrowed := true }
def CodeLinearUptoSaid : Prop := codeLinearUptoRow.holds Try.pinned (OpenSpec.upto codeLinearSpec)

/-- 'sherdlaw02.MatrixRanks', WHERE WHAT IT READS IS OF BULK AT MOST 1048576: true; the input reads as it did. -/
def matrixRanksUptoRow : OpenClaim := { program := "ytkklonldplekcaa", sum := "3a5af1398484a89bbcc6f0c02aaaab1b0ee508ecc8d6e2dc7fd505a33c4a0ed6", func := "sherd/sherdlaw02.MatrixRanks", spec := "matrixRanks", unfollowed := true, recurses := true, apart := false, narrowed := true }
def MatrixRanksUptoSaid : Prop := matrixRanksUptoRow.holds Try.pinned (OpenSpec.upto matrixRanksSpec)

/-- 'sherdlaw02.MatrixCodes', WHERE WHAT IT READS IS OF BULK AT MOST 1048576: true; the input reads as it did. -/
def matrixCodesUptoRow : OpenClaim := { program := "ytkklonldplekcaa", sum := "3a5af1398484a89bbcc6f0c02aaaab1b0ee508ecc8d6e2dc7fd505a33c4a0ed6", func := "sherd/sherdlaw02.MatrixCodes", spec := "matrixCodes", unfollowed := true, recurses := true, apart := false, narrowed := true }
def MatrixCodesUptoSaid : Prop := matrixCodesUptoRow.holds Try.pinned (OpenSpec.upto matrixCodesSpec)

/-- 'sherdlaw03.CodePoly', WHERE WHAT IT READS IS OF BULK AT MOST 1048576: true; the input reads as it did. -/
def codePolyUptoRow : OpenClaim := { program := "ytkklonldplekcaa", sum := "3a5af1398484a89bbcc6f0c02aaaab1b0ee508ecc8d6e2dc7fd505a33c4a0ed6", func := "sherd/sherdlaw03.CodePoly", spec := "codePoly", unfollowed := true, recurses := true, apart := false, narrowed := true }
def CodePolyUptoSaid : Prop := codePolyUptoRow.holds Try.pinned (OpenSpec.upto codePolySpec)

/-- 'sherdlaw03.CodeHides', WHERE WHAT IT READS IS OF BULK AT MOST 1048576: true; the input reads as it did. -/
def codeHidesUptoRow : OpenClaim := { program := "ytkklonldplekcaa", sum := "3a5af1398484a89bbcc6f0c02aaaab1b0ee508ecc8d6e2dc7fd505a33c4a0ed6", func := "sherd/sherdlaw03.CodeHides", spec := "codeHides", unfollowed := true, recurses := true, apart := false, narrowed := true }
def CodeHidesUptoSaid : Prop := codeHidesUptoRow.holds Try.pinned (OpenSpec.upto codeHidesSpec)

/-- 'sherdlaw03.CodeTells', WHERE WHAT IT READS IS OF BULK AT MOST 1048576: true; the input reads as it did. -/
def codeTellsUptoRow : OpenClaim := { program := "ytkklonldplekcaa", sum := "3a5af1398484a89bbcc6f0c02aaaab1b0ee508ecc8d6e2dc7fd505a33c4a0ed6", func := "sherd/sherdlaw03.CodeTells", spec := "codeTells", unfollowed := true, recurses := true, apart := false, narrowed := true }
def CodeTellsUptoSaid : Prop := codeTellsUptoRow.holds Try.pinned (OpenSpec.upto codeTellsSpec)

/-- 'sherdlaw02.MatrixPlays', WHERE WHAT IT READS IS OF BULK AT MOST 1048576: true; the input reads as it did. -/
def matrixPlaysUptoRow : OpenClaim := { program := "ytkklonldplekcaa", sum := "3a5af1398484a89bbcc6f0c02aaaab1b0ee508ecc8d6e2dc7fd505a33c4a0ed6", func := "sherd/sherdlaw02.MatrixPlays", spec := "matrixPlays", unfollowed := true, recurses := true, apart := false, narrowed := true }
def MatrixPlaysUptoSaid : Prop := matrixPlaysUptoRow.holds Try.pinned (OpenSpec.upto matrixPlaysSpec)

/-- 'sherdlaw03.CodeBack', WHERE WHAT IT READS IS OF BULK AT MOST 1048576: true; the input reads as it did. -/
def codeBackUptoRow : OpenClaim := { program := "ytkklonldplekcaa", sum := "3a5af1398484a89bbcc6f0c02aaaab1b0ee508ecc8d6e2dc7fd505a33c4a0ed6", func := "sherd/sherdlaw03.CodeBack", spec := "codeBack", unfollowed := true, recurses := true, apart := false, narrowed := true }
def CodeBackUptoSaid : Prop := codeBackUptoRow.holds Try.pinned (OpenSpec.upto codeBackSpec)

/-- 'sherdlaw03.CodeAll', WHERE WHAT IT READS IS OF BULK AT MOST 1048576: true; the input reads as it did. -/
def codeAllUptoRow : OpenClaim := { program := "ytkklonldplekcaa", sum := "3a5af1398484a89bbcc6f0c02aaaab1b0ee508ecc8d6e2dc7fd505a33c4a0ed6", func := "sherd/sherdlaw03.CodeAll", spec := "codeAll", unfollowed := true, recurses := true, apart := false, narrowed := true }
def CodeAllUptoSaid : Prop := codeAllUptoRow.holds Try.pinned (OpenSpec.upto codeAllSpec)

end Rows
end Go.Proofs.Ytkklonldplekcaa
