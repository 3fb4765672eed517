/-
  NARROWER THAN 'FOR EVERY INPUT', by the rows' own cells (each row's printed sentence says how): NetOrder: laid · NetPlays: laid.
  DERIVED. THE GIVEN ROWS OF THIS SEAT. 2 by the template 'for every input the law returns true; each argument reads behind the call as it read before'; 0 by the template 'total and deterministic' (their statements: YtahpkknbejgnkaaDoorTotals.lean).
  GIVEN WITH THE SEED: the statements are not yours to turn. If you find one false, say at which input.
  Laid BY PROGRAM, IN A SANDBOX (cutbox-rows.mjs): the forced cells as the released guide's own fill.sh prints them over the translation 6f295b7849479327… (all of the seat's roots in one cut). By AI agents, Wed Nov 11 2026. No macro, syntax, notation, axiom, sorry.
-/
import Derived.Test.YtahpkknbejgnkaaDoorChecked
import GoSem.Claim
import GoSem.ClaimJoined
import GoSem.ClaimMapViews
import Derived.JoinedTies
import Derived.KernelRfl
namespace Go.Proofs.YtahpkknbejgnkaaDoor
/- THE CELL 'sum', in the pinned program and in every row, IS THE sha256 OF THE DUMP (.gsa) THAT YtahpkknbejgnkaaDoorProg.lean LOADS. Nothing in Lean hashes anything: it is a label: what it is worth is what the hold of that sum in a sandbox is worth. -/
noncomputable def Tryd.pinned : Pinned := { name := "ytahpkknbejgnkaadoor", sum := "6f295b78494793278677467f16b24af372aea72cb8296e2e48d553af03da261c", checked := Tryd.checked }
namespace Rows
def none {H : Type} : Left H := { results := [], args := [] }

/- WHAT THE LISTED PACKAGE-LEVEL VARIABLES READ AS WHEN THE CALL BEGINS. Each datum BY PROGRAM (the guide's laid-datum.mjs) off the statement by which the dump's own 'gosem.cut.vars' lays the variable. In a bare row this is a premise. The card (YtahpkknbejgnkaaDoorCards.lean) ties it to the program's text. -/
def laid_sherd_net_fates {H : Type} : DataW H := .iface "func table" (.agg [.iface "func" (.lit (.string [40, 42, 115, 104, 101, 114, 100, 47, 110, 101, 116, 46, 78, 101, 116, 41, 46, 100, 114, 111, 112])), .iface "func" (.lit (.string [40, 42, 115, 104, 101, 114, 100, 47, 110, 101, 116, 46, 78, 101, 116, 41, 46, 100, 111, 117, 98, 108, 101])), .iface "func" (.lit (.string [40, 42, 115, 104, 101, 114, 100, 47, 110, 101, 116, 46, 78, 101, 116, 41, 46, 98, 117, 114, 115, 116])), .iface "func" (.lit (.string [40, 42, 115, 104, 101, 114, 100, 47, 110, 101, 116, 46, 78, 101, 116, 41, 46, 99, 117, 116])), .iface "func" (.lit (.string [40, 42, 115, 104, 101, 114, 100, 47, 110, 101, 116, 46, 78, 101, 116, 41, 46, 108, 111, 115, 101]))])

/-- 'sherdlaw12.NetOrder': WHATEVER THE INPUT: true; the input reads as it did. -/
def netOrderSpec : ChangeSpec := { name := "netOrder", fn := fun _ => fun
  | [d1, d2] => { results := [.lit (.bool true)], args := [d1, d2] }
  | _ => none }
def netOrderRow : OpenClaim := { program := "ytahpkknbejgnkaadoor", sum := "6f295b78494793278677467f16b24af372aea72cb8296e2e48d553af03da261c", func := "sherd/sherdlaw12.NetOrder", spec := "netOrder", unfollowed := true, recurses := true, named := ["sherd/net.fates"], apart := false, laid := [("sherd/net.fates", laid_sherd_net_fates)] }
def NetOrderSaid : Prop := netOrderRow.holds Tryd.pinned (OpenSpec.ofChange netOrderSpec)

/-- ITS FALSE NEIGHBOUR: 'it returns false'. Refute it at one input. -/
def netOrderWrong : ChangeSpec := { name := "netOrder", fn := fun _ => fun
  | [d1, d2] => { results := [.lit (.bool false)], args := [d1, d2] }
  | _ => none }
def NetOrderWrongFalsely : Prop := netOrderRow.holds Tryd.pinned (OpenSpec.ofChange netOrderWrong)

/-- 'sherdlaw12.NetPlays': WHATEVER THE INPUT: true; the input reads as it did. -/
def netPlaysSpec : ChangeSpec := { name := "netPlays", fn := fun _ => fun
  | [d] => { results := [.lit (.bool true)], args := [d] }
  | _ => none }
def netPlaysRow : OpenClaim := { program := "ytahpkknbejgnkaadoor", sum := "6f295b78494793278677467f16b24af372aea72cb8296e2e48d553af03da261c", func := "sherd/sherdlaw12.NetPlays", spec := "netPlays", unfollowed := true, recurses := true, named := ["sherd/net.fates"], apart := false, laid := [("sherd/net.fates", laid_sherd_net_fates)] }
def NetPlaysSaid : Prop := netPlaysRow.holds Tryd.pinned (OpenSpec.ofChange netPlaysSpec)

/-- ITS FALSE NEIGHBOUR: 'it returns false'. Refute it at one input. -/
def netPlaysWrong : ChangeSpec := { name := "netPlays", fn := fun _ => fun
  | [d] => { results := [.lit (.bool false)], args := [d] }
  | _ => none }
def NetPlaysWrongFalsely : Prop := netPlaysRow.holds Tryd.pinned (OpenSpec.ofChange netPlaysWrong)

/- THE SECOND FORM. 'bulk': how many values and letters a reading holds, each counted each time it is reached (what is shared counts as often as it is met; a slice's spare places count too). A statement '..UptoSaid' is the law's where the arguments, and the package variables that the reading takes, are together of bulk at most 1048576: NARROWER than '..Said'. Prove '..Said' where nothing that the law and all that it calls make is longer than what came in: it says more and counts as full. Else prove '..UptoSaid'. A law counts once. -/
mutual
def uptoBulk {H : Type} : DataW H → Nat
  | .lit (.string bytes) => bytes.length + 1
  | .lit _ => 1
  | .nil => 1
  | .ptr d => uptoBulk d + 1
  | .slice elems spare => uptoBulkAll elems + uptoBulkAll spare + 1
  | .agg parts => uptoBulkAll parts + 1
  | .iface _ d => uptoBulk d + 1
  | .map entries => uptoBulkEntries entries + 1
  | .held _ => 1
def uptoBulkAll {H : Type} : List (DataW H) → Nat
  | [] => 0
  | d :: r => uptoBulk d + uptoBulkAll r
def uptoBulkEntries {H : Type} : List (Lit × DataW H) → Nat
  | [] => 0
  | x :: r => uptoBulkEntry x + uptoBulkEntries r
def uptoBulkEntry {H : Type} : Lit × DataW H → Nat
  | (.string bytes, d) => bytes.length + uptoBulk d + 1
  | (_, d) => uptoBulk d + 1
 end
def uptoSmall : (H : Type) → List (DataW H) → Bool := fun _ ds => decide (uptoBulkAll ds ≤ 1048576)
def OpenSpec.upto (s : _root_.Go.ChangeSpec) : _root_.Go.OpenSpec := { _root_.Go.OpenSpec.ofChange s with cond := some uptoSmall }

/-- 'sherdlaw12.NetOrder', WHERE WHAT IT READS IS OF BULK AT MOST 1048576: true; the input reads as it did. -/
def netOrderUptoRow : OpenClaim := { program := "ytahpkknbejgnkaadoor", sum := "6f295b78494793278677467f16b24af372aea72cb8296e2e48d553af03da261c", func := "sherd/sherdlaw12.NetOrder", spec := "netOrder", unfollowed := true, recurses := true, named := ["sherd/net.fates"], apart := false, laid := [("sherd/net.fates", laid_sherd_net_fates)], narrowed := true }
def NetOrderUptoSaid : Prop := netOrderUptoRow.holds Tryd.pinned (OpenSpec.upto netOrderSpec)

/-- 'sherdlaw12.NetPlays', WHERE WHAT IT READS IS OF BULK AT MOST 1048576: true; the input reads as it did. -/
def netPlaysUptoRow : OpenClaim := { program := "ytahpkknbejgnkaadoor", sum := "6f295b78494793278677467f16b24af372aea72cb8296e2e48d553af03da261c", func := "sherd/sherdlaw12.NetPlays", spec := "netPlays", unfollowed := true, recurses := true, named := ["sherd/net.fates"], apart := false, laid := [("sherd/net.fates", laid_sherd_net_fates)], narrowed := true }
def NetPlaysUptoSaid : Prop := netPlaysUptoRow.holds Tryd.pinned (OpenSpec.upto netPlaysSpec)

end Rows
end Go.Proofs.YtahpkknbejgnkaaDoor
