/-
  DERIVED. GIVEN WITH THE SEED: THE CARDS: each row of YthadfebboagabaaDoorRows.lean that lists a variable, with what it lists TIED to the program's text (the seventh form; the later family's looks); each row that meets fmt, with fmt's text TOLD by the authors' own Lean function (tested against real Go, not proved from fmt's source: count such statements apart). THE CARD IS WHAT COUNTS. Prove the row's statement (the work); the ties are given (YthadfebboagabaaDoorTie.lean); close each card by the builder's one call (the guide's Derived/Test/ToyasCard.lean, 'card_holds'). Laid BY PROGRAM, IN A SANDBOX (cutbox-door.mjs). By AI agents, Wed Nov 11 2026. No macro, syntax, notation, axiom, sorry.
-/
import Derived.Test.YthadfebboagabaaDoorRows
import GoSem.ClaimSeven
namespace Go.Proofs.YthadfebboagabaaDoor
namespace Rows

/-- THE TIED CARD OF 'sherdlaw06.SumLong'. -/
def sumLongCard : Claim7 := { stood := { row := sumLongRow, standIns := [], harness := (true, "5970dfa9c16a378eeaee1a5f22eb3c9a462e9f818551378b3dfdfabb8a217a18"), looks := false }, kinds := [], alts := [], laidByText := true, laidKinds := [.data], laidTests := true, laidLooks := .later }
def SumLongCardSaid : Prop := Claim7.holds Tryd.pinned (.plain (OpenSpec.ofChange sumLongSpec)) sumLongCard

/-- THE TIED CARD OF 'sherdlaw06.SumGrows'. -/
def sumGrowsCard : Claim7 := { stood := { row := sumGrowsRow, standIns := [], harness := (true, "5970dfa9c16a378eeaee1a5f22eb3c9a462e9f818551378b3dfdfabb8a217a18"), looks := false }, kinds := [], alts := [], laidByText := true, laidKinds := [.data], laidTests := true, laidLooks := .later }
def SumGrowsCardSaid : Prop := Claim7.holds Tryd.pinned (.plain (OpenSpec.ofChange sumGrowsSpec)) sumGrowsCard

/-- THE TIED CARD OF 'sherdlaw06.SumBursts'. -/
def sumBurstsCard : Claim7 := { stood := { row := sumBurstsRow, standIns := [], harness := (true, "5970dfa9c16a378eeaee1a5f22eb3c9a462e9f818551378b3dfdfabb8a217a18"), looks := false }, kinds := [], alts := [], laidByText := true, laidKinds := [.data], laidTests := true, laidLooks := .later }
def SumBurstsCardSaid : Prop := Claim7.holds Tryd.pinned (.plain (OpenSpec.ofChange sumBurstsSpec)) sumBurstsCard

/-- THE TIED CARD OF 'sherdlaw06.SumJoins'. -/
def sumJoinsCard : Claim7 := { stood := { row := sumJoinsRow, standIns := [], harness := (true, "5970dfa9c16a378eeaee1a5f22eb3c9a462e9f818551378b3dfdfabb8a217a18"), looks := false }, kinds := [], alts := [], laidByText := true, laidKinds := [.data], laidTests := true, laidLooks := .later }
def SumJoinsCardSaid : Prop := Claim7.holds Tryd.pinned (.plain (OpenSpec.ofChange sumJoinsSpec)) sumJoinsCard

/-- THE TIED CARD OF 'sherdlaw06.SumAll'. -/
def sumAllCard : Claim7 := { stood := { row := sumAllRow, standIns := [], harness := (true, "5970dfa9c16a378eeaee1a5f22eb3c9a462e9f818551378b3dfdfabb8a217a18"), looks := false }, kinds := [], alts := [], laidByText := true, laidKinds := [.data], laidTests := true, laidLooks := .later }
def SumAllCardSaid : Prop := Claim7.holds Tryd.pinned (.plain (OpenSpec.ofChange sumAllSpec)) sumAllCard

/-- THE TIED CARD OF 'sherdtop.TopSum'. -/
def topSumCard : Claim7 := { stood := { row := topSumRow, standIns := [], harness := (true, "5970dfa9c16a378eeaee1a5f22eb3c9a462e9f818551378b3dfdfabb8a217a18"), looks := false }, kinds := [], alts := [], laidByText := true, laidKinds := [.data], laidTests := true, laidLooks := .later }
def TopSumCardSaid : Prop := Claim7.holds Tryd.pinned (.plain (OpenSpec.ofChange topSumSpec)) topSumCard

/-- THE SECOND FORM's CARD OF 'sherdlaw06.SumLong'. -/
def sumLongUptoCard : Claim7 := { stood := { row := sumLongUptoRow, standIns := [], harness := (true, "5970dfa9c16a378eeaee1a5f22eb3c9a462e9f818551378b3dfdfabb8a217a18"), looks := false }, kinds := [], alts := [], laidByText := true, laidKinds := [.data], laidTests := true, laidLooks := .later }
def SumLongUptoCardSaid : Prop := Claim7.holds Tryd.pinned (.plain (OpenSpec.upto sumLongSpec)) sumLongUptoCard

/-- THE SECOND FORM's CARD OF 'sherdlaw06.SumGrows'. -/
def sumGrowsUptoCard : Claim7 := { stood := { row := sumGrowsUptoRow, standIns := [], harness := (true, "5970dfa9c16a378eeaee1a5f22eb3c9a462e9f818551378b3dfdfabb8a217a18"), looks := false }, kinds := [], alts := [], laidByText := true, laidKinds := [.data], laidTests := true, laidLooks := .later }
def SumGrowsUptoCardSaid : Prop := Claim7.holds Tryd.pinned (.plain (OpenSpec.upto sumGrowsSpec)) sumGrowsUptoCard

/-- THE SECOND FORM's CARD OF 'sherdlaw06.SumBursts'. -/
def sumBurstsUptoCard : Claim7 := { stood := { row := sumBurstsUptoRow, standIns := [], harness := (true, "5970dfa9c16a378eeaee1a5f22eb3c9a462e9f818551378b3dfdfabb8a217a18"), looks := false }, kinds := [], alts := [], laidByText := true, laidKinds := [.data], laidTests := true, laidLooks := .later }
def SumBurstsUptoCardSaid : Prop := Claim7.holds Tryd.pinned (.plain (OpenSpec.upto sumBurstsSpec)) sumBurstsUptoCard

/-- THE SECOND FORM's CARD OF 'sherdlaw06.SumJoins'. -/
def sumJoinsUptoCard : Claim7 := { stood := { row := sumJoinsUptoRow, standIns := [], harness := (true, "5970dfa9c16a378eeaee1a5f22eb3c9a462e9f818551378b3dfdfabb8a217a18"), looks := false }, kinds := [], alts := [], laidByText := true, laidKinds := [.data], laidTests := true, laidLooks := .later }
def SumJoinsUptoCardSaid : Prop := Claim7.holds Tryd.pinned (.plain (OpenSpec.upto sumJoinsSpec)) sumJoinsUptoCard

/-- THE SECOND FORM's CARD OF 'sherdlaw06.SumAll'. -/
def sumAllUptoCard : Claim7 := { stood := { row := sumAllUptoRow, standIns := [], harness := (true, "5970dfa9c16a378eeaee1a5f22eb3c9a462e9f818551378b3dfdfabb8a217a18"), looks := false }, kinds := [], alts := [], laidByText := true, laidKinds := [.data], laidTests := true, laidLooks := .later }
def SumAllUptoCardSaid : Prop := Claim7.holds Tryd.pinned (.plain (OpenSpec.upto sumAllSpec)) sumAllUptoCard

/-- THE SECOND FORM's CARD OF 'sherdtop.TopSum'. -/
def topSumUptoCard : Claim7 := { stood := { row := topSumUptoRow, standIns := [], harness := (true, "5970dfa9c16a378eeaee1a5f22eb3c9a462e9f818551378b3dfdfabb8a217a18"), looks := false }, kinds := [], alts := [], laidByText := true, laidKinds := [.data], laidTests := true, laidLooks := .later }
def TopSumUptoCardSaid : Prop := Claim7.holds Tryd.pinned (.plain (OpenSpec.upto topSumSpec)) topSumUptoCard
end Rows
end Go.Proofs.YthadfebboagabaaDoor
