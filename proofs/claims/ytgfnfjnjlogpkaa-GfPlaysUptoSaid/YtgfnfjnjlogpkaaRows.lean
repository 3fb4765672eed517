/-
  No cell of these rows narrows 'for every input' (looked for: loops, veiled, ifaces, maps, wideKeys, modest, calm, conditions, laid).
  DERIVED. THE GIVEN ROWS OF THIS SEAT. 7 by the template 'for every input the law returns true; each argument reads behind the call as it read before'; 0 by the template 'total and deterministic' (their statements: YtgfnfjnjlogpkaaTotals.lean).
  GIVEN WITH THE SEED: the statements are not yours to turn. If you find one false, say at which input.
  Laid BY PROGRAM, IN A SANDBOX (cutbox-rows.mjs): the forced cells as the released guide's own fill.sh prints them over the translation fb1839332e4f1dc3… (all of the seat's roots in one cut). By AI agents, Wed Nov 11 2026. No macro, syntax, notation, axiom, sorry.
-/
import Derived.Test.YtgfnfjnjlogpkaaChecked
import GoSem.Claim
import GoSem.ClaimJoined
import GoSem.ClaimMapViews
import Derived.JoinedTies
import Derived.KernelRfl
namespace Go.Proofs.Ytgfnfjnjlogpkaa
/- THE CELL 'sum', in the pinned program and in every row, IS THE sha256 OF THE DUMP (.gsa) THAT YtgfnfjnjlogpkaaProg.lean LOADS. Nothing in Lean hashes anything: it is a label: what it is worth is what the hold of that sum in a sandbox is worth. -/
noncomputable def Try.pinned : Pinned := { name := "ytgfnfjnjlogpkaa", sum := "fb1839332e4f1dc34df132f18ac2017b1cd16a80dc63b48b2877d2df7338cee7", checked := Try.checked }
namespace Rows
def none {H : Type} : Left H := { results := [], args := [] }

/-- 'sherdlaw01.GfRoots': WHATEVER THE INPUT: true; the input reads as it did. -/
def gfRootsSpec : ChangeSpec := { name := "gfRoots", fn := fun _ => fun
  | [d1, d2, d3] => { results := [.lit (.bool true)], args := [d1, d2, d3] }
  | _ => none }
def gfRootsRow : OpenClaim := { program := "ytgfnfjnjlogpkaa", sum := "fb1839332e4f1dc34df132f18ac2017b1cd16a80dc63b48b2877d2df7338cee7", func := "sherd/sherdlaw01.GfRoots", spec := "gfRoots", apart := false }
def GfRootsSaid : Prop := gfRootsRow.holds Try.pinned (OpenSpec.ofChange gfRootsSpec)

/-- ITS FALSE NEIGHBOUR: 'it returns false'. Refute it at one input. -/
def gfRootsWrong : ChangeSpec := { name := "gfRoots", fn := fun _ => fun
  | [d1, d2, d3] => { results := [.lit (.bool false)], args := [d1, d2, d3] }
  | _ => none }
def GfRootsWrongFalsely : Prop := gfRootsRow.holds Try.pinned (OpenSpec.ofChange gfRootsWrong)

/-- 'sherdlaw01.GfField': WHATEVER THE INPUT: true; the input reads as it did. -/
def gfFieldSpec : ChangeSpec := { name := "gfField", fn := fun _ => fun
  | [d1, d2] => { results := [.lit (.bool true)], args := [d1, d2] }
  | _ => none }
def gfFieldRow : OpenClaim := { program := "ytgfnfjnjlogpkaa", sum := "fb1839332e4f1dc34df132f18ac2017b1cd16a80dc63b48b2877d2df7338cee7", func := "sherd/sherdlaw01.GfField", spec := "gfField", apart := false }
def GfFieldSaid : Prop := gfFieldRow.holds Try.pinned (OpenSpec.ofChange gfFieldSpec)

/-- ITS FALSE NEIGHBOUR: 'it returns false'. Refute it at one input. -/
def gfFieldWrong : ChangeSpec := { name := "gfField", fn := fun _ => fun
  | [d1, d2] => { results := [.lit (.bool false)], args := [d1, d2] }
  | _ => none }
def GfFieldWrongFalsely : Prop := gfFieldRow.holds Try.pinned (OpenSpec.ofChange gfFieldWrong)

/-- 'sherdlaw01.GfLines': WHATEVER THE INPUT: true; the input reads as it did. -/
def gfLinesSpec : ChangeSpec := { name := "gfLines", fn := fun _ => fun
  | [d1, d2, d3, d4] => { results := [.lit (.bool true)], args := [d1, d2, d3, d4] }
  | _ => none }
def gfLinesRow : OpenClaim := { program := "ytgfnfjnjlogpkaa", sum := "fb1839332e4f1dc34df132f18ac2017b1cd16a80dc63b48b2877d2df7338cee7", func := "sherd/sherdlaw01.GfLines", spec := "gfLines", apart := false }
def GfLinesSaid : Prop := gfLinesRow.holds Try.pinned (OpenSpec.ofChange gfLinesSpec)

/-- ITS FALSE NEIGHBOUR: 'it returns false'. Refute it at one input. -/
def gfLinesWrong : ChangeSpec := { name := "gfLines", fn := fun _ => fun
  | [d1, d2, d3, d4] => { results := [.lit (.bool false)], args := [d1, d2, d3, d4] }
  | _ => none }
def GfLinesWrongFalsely : Prop := gfLinesRow.holds Try.pinned (OpenSpec.ofChange gfLinesWrong)

/-- 'sherdlaw01.GfPowers': WHATEVER THE INPUT: true; the input reads as it did. -/
def gfPowersSpec : ChangeSpec := { name := "gfPowers", fn := fun _ => fun
  | [d1, d2, d3, d4] => { results := [.lit (.bool true)], args := [d1, d2, d3, d4] }
  | _ => none }
def gfPowersRow : OpenClaim := { program := "ytgfnfjnjlogpkaa", sum := "fb1839332e4f1dc34df132f18ac2017b1cd16a80dc63b48b2877d2df7338cee7", func := "sherd/sherdlaw01.GfPowers", spec := "gfPowers", apart := false }
def GfPowersSaid : Prop := gfPowersRow.holds Try.pinned (OpenSpec.ofChange gfPowersSpec)

/-- ITS FALSE NEIGHBOUR: 'it returns false'. Refute it at one input. -/
def gfPowersWrong : ChangeSpec := { name := "gfPowers", fn := fun _ => fun
  | [d1, d2, d3, d4] => { results := [.lit (.bool false)], args := [d1, d2, d3, d4] }
  | _ => none }
def GfPowersWrongFalsely : Prop := gfPowersRow.holds Try.pinned (OpenSpec.ofChange gfPowersWrong)

/-- 'sherdtop.TopNames': WHATEVER THE INPUT: true; the input reads as it did. -/
def topNamesSpec : ChangeSpec := { name := "topNames", fn := fun _ => fun
  | [] => { results := [.lit (.bool true)], args := [] }
  | _ => none }
def topNamesRow : OpenClaim := { program := "ytgfnfjnjlogpkaa", sum := "fb1839332e4f1dc34df132f18ac2017b1cd16a80dc63b48b2877d2df7338cee7", func := "sherd/sherdtop.TopNames", spec := "topNames", apart := false }
def TopNamesSaid : Prop := topNamesRow.holds Try.pinned (OpenSpec.ofChange topNamesSpec)

/-- ITS FALSE NEIGHBOUR: 'it returns false'. Refute it at one input. -/
def topNamesWrong : ChangeSpec := { name := "topNames", fn := fun _ => fun
  | [] => { results := [.lit (.bool false)], args := [] }
  | _ => none }
def TopNamesWrongFalsely : Prop := topNamesRow.holds Try.pinned (OpenSpec.ofChange topNamesWrong)

/-- 'sherdlaw01.GfPlays': WHATEVER THE INPUT: true; the input reads as it did. -/
def gfPlaysSpec : ChangeSpec := { name := "gfPlays", fn := fun _ => fun
  | [d1, d2] => { results := [.lit (.bool true)], args := [d1, d2] }
  | _ => none }
def gfPlaysRow : OpenClaim := { program := "ytgfnfjnjlogpkaa", sum := "fb1839332e4f1dc34df132f18ac2017b1cd16a80dc63b48b2877d2df7338cee7", func := "sherd/sherdlaw01.GfPlays", spec := "gfPlays", apart := false }
def GfPlaysSaid : Prop := gfPlaysRow.holds Try.pinned (OpenSpec.ofChange gfPlaysSpec)

/-- ITS FALSE NEIGHBOUR: 'it returns false'. Refute it at one input. -/
def gfPlaysWrong : ChangeSpec := { name := "gfPlays", fn := fun _ => fun
  | [d1, d2] => { results := [.lit (.bool false)], args := [d1, d2] }
  | _ => none }
def GfPlaysWrongFalsely : Prop := gfPlaysRow.holds Try.pinned (OpenSpec.ofChange gfPlaysWrong)

/-- 'sherdtop.TopField': WHATEVER THE INPUT: true; the input reads as it did. -/
def topFieldSpec : ChangeSpec := { name := "topField", fn := fun _ => fun
  | [d] => { results := [.lit (.bool true)], args := [d] }
  | _ => none }
def topFieldRow : OpenClaim := { program := "ytgfnfjnjlogpkaa", sum := "fb1839332e4f1dc34df132f18ac2017b1cd16a80dc63b48b2877d2df7338cee7", func := "sherd/sherdtop.TopField", spec := "topField", apart := false }
def TopFieldSaid : Prop := topFieldRow.holds Try.pinned (OpenSpec.ofChange topFieldSpec)

/-- ITS FALSE NEIGHBOUR: 'it returns false'. Refute it at one input. -/
def topFieldWrong : ChangeSpec := { name := "topField", fn := fun _ => fun
  | [d] => { results := [.lit (.bool false)], args := [d] }
  | _ => none }
def TopFieldWrongFalsely : Prop := topFieldRow.holds Try.pinned (OpenSpec.ofChange topFieldWrong)

/- THE SECOND FORM. 'bulk': how many values and letters a reading holds, each counted each time it is reached (what is shared counts as often as it is met; a slice's spare places count too). A statement '..UptoSaid' is the law's where the arguments, and the package variables that the reading takes, are together of bulk at most 1048576: NARROWER than '..Said'. Prove '..Said' where nothing that the law and all that it calls make is longer than what came in: it says more and counts as full. Else prove '..UptoSaid'. A law counts once. -/
mutual
def uptoBulk {H : Type} : DataW H → Nat
  | .lit (.string bytes) => bytes.length + 1
  | .lit _ => 1
  | .nil => 1
  | .ptr d => uptoBulk d + 1
  | .slice elems spare => uptoBulkAll elems + uptoBulkAll spare + 1
  | .agg parts => uptoBulkAll parts + 1
  | .iface _ d => uptoBulk d + 1
  | .map entries => uptoBulkEntries entries + 1
  | .held _ => 1
def uptoBulkAll {H : Type} : List (DataW H) → Nat
  | [] => 0
  | d :: r => uptoBulk d + uptoBulkAll r
def uptoBulkEntries {H : Type} : List (Lit × DataW H) → Nat
  | [] => 0
  | x :: r => uptoBulkEntry x + uptoBulkEntries r
def uptoBulkEntry {H : Type} : Lit × DataW H → Nat
  | (.string bytes, d) => bytes.length + uptoBulk d + 1
  | (_, d) => uptoBulk d + 1
 end
def uptoSmall : (H : Type) → List (DataW H) → Bool := fun _ ds => decide (uptoBulkAll ds ≤ 1048576)
def OpenSpec.upto (s : _root_.Go.ChangeSpec) : _root_.Go.OpenSpec := { _root_.Go.OpenSpec.ofChange s with cond := some uptoSmall }

/-- 'sherdlaw01.GfRoots', WHERE WHAT IT READS IS OF BULK AT MOST 1048576: true; the input reads as it did. -/
def gfRootsUptoRow : OpenClaim := { program := "ytgfnfjnjlogpkaa", sum := "fb1839332e4f1dc34df132f18ac2017b1cd16a80dc63b48b2877d2df7338cee7", func := "sherd/sherdlaw01.GfRoots", spec := "gfRoots", apart := false, narrowed := true }
def GfRootsUptoSaid : Prop := gfRootsUptoRow.holds Try.pinned (OpenSpec.upto gfRootsSpec)

/-- 'sherdlaw01.GfField', WHERE WHAT IT READS IS OF BULK AT MOST 1048576: true; the input reads as it did. -/
def gfFieldUptoRow : OpenClaim := { program := "ytgfnfjnjlogpkaa", sum := "fb1839332e4f1dc34df132f18ac2017b1cd16a80dc63b48b2877d2df7338cee7", func := "sherd/sherdlaw01.GfField", spec := "gfField", apart := false, narrowed := true }
def GfFieldUptoSaid : Prop := gfFieldUptoRow.holds Try.pinned (OpenSpec.upto gfFieldSpec)

/-- 'sherdlaw01.GfLines', WHERE WHAT IT READS IS OF BULK AT MOST 1048576: true; the input reads as it did. -/
def gfLinesUptoRow : OpenClaim := { program := "ytgfnfjnjlogpkaa", sum := "fb1839332e4f1dc34df132f18ac2017b1cd16a80dc63b48b2877d2df7338cee7", func := "sherd/sherdlaw01.GfLines", spec := "gfLines", apart := false, narrowed := true }
def GfLinesUptoSaid : Prop := gfLinesUptoRow.holds Try.pinned (OpenSpec.upto gfLinesSpec)

/-- 'sherdlaw01.GfPowers', WHERE WHAT IT READS IS OF BULK AT MOST 1048576: true; the input reads as it did. -/
def gfPowersUptoRow : OpenClaim := { program := "ytgfnfjnjlogpkaa", sum := "fb1839332e4f1dc34df132f18ac2017b1cd16a80dc63b48b2877d2df7338cee7", func := "sherd/sherdlaw01.GfPowers", spec := "gfPowers", apart := false, narrowed := true }
def GfPowersUptoSaid : Prop := gfPowersUptoRow.holds Try.pinned (OpenSpec.upto gfPowersSpec)

/-- 'sherdtop.TopNames', WHERE WHAT IT READS IS OF BULK AT MOST 1048576: true; the input reads as it did. -/
def topNamesUptoRow : OpenClaim := { program := "ytgfnfjnjlogpkaa", sum := "fb1839332e4f1dc34df132f18ac2017b1cd16a80dc63b48b2877d2df7338cee7", func := "sherd/sherdtop.TopNames", spec := "topNames", apart := false, narrowed := true }
def TopNamesUptoSaid : Prop := topNamesUptoRow.holds Try.pinned (OpenSpec.upto topNamesSpec)

/-- 'sherdlaw01.GfPlays', WHERE WHAT IT READS IS OF BULK AT MOST 1048576: true; the input reads as it did. -/
def gfPlaysUptoRow : OpenClaim := { program := "ytgfnfjnjlogpkaa", sum := "fb1839332e4f1dc34df132f18ac2017b1cd16a80dc63b48b2877d2df7338cee7", func := "sherd/sherdlaw01.GfPlays", spec := "gfPlays", apart := false, narrowed := true }
def GfPlaysUptoSaid : Prop := gfPlaysUptoRow.holds Try.pinned (OpenSpec.upto gfPlaysSpec)

/-- 'sherdtop.TopField', WHERE WHAT IT READS IS OF BULK AT MOST 1048576: true; the input reads as it did. -/
def topFieldUptoRow : OpenClaim := { program := "ytgfnfjnjlogpkaa", sum := "fb1839332e4f1dc34df132f18ac2017b1cd16a80dc63b48b2877d2df7338cee7", func := "sherd/sherdtop.TopField", spec := "topField", apart := false, narrowed := true }
def TopFieldUptoSaid : Prop := topFieldUptoRow.holds Try.pinned (OpenSpec.upto topFieldSpec)

end Rows
end Go.Proofs.Ytgfnfjnjlogpkaa
