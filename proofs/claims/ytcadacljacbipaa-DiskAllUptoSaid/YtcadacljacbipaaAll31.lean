/- The row of the law DiskAll, where what it reads is of bulk at most 1048576: for every such input it answers true, and each argument reads as before. The walk and what it needs stand in the imported texts. -/
import Derived.Test.YtcadacljacbipaaRows
import Derived.Test.YtcadacljacbipaaAll30
import Derived.Test.YtcadacljacbipaaAll21
import Derived.WalkKit
import Derived.ProofKit
import Derived.OpenShut
import Derived.Deep.DeepHandedRow
import Derived.Lib.LaidTab
import Derived.Deep.CondSized
import Derived.SizedLaws
import Derived.ChangeOld
namespace Go.Proofs.Ytcadacljacbipaa.diskAllU
open Go.ChangeShapes Go.WideShapes Go.ChangeAt Go.RowKit

theorem own : ownKnob Try.prog.godebug = none := by kernel_rfl
theorem laidOut : laidOutB Try.prog = true := by kernel_rfl

theorem contract (H : Type) (enc : TypeId × Value → H) (W : World) (base : Nat) (args : Array Value) (ds gs : List (DataW H)) (before : List MemPlace)
    (hval : ∀ (j : Nat) t v, Try.f7.params[j]? = some t → args[j]? = some v → Value.okWide Try.prog W .any base t v)
    (hW : DataW.Whole enc Try.prog Try.f7.params.toList Rows.diskAllSpec.vars false W args.toList ds gs before) (hk0 : Rows.uptoSmall H (ds ++ gs) = true)
    (hsz0 : (DataW.weightsEach Try.prog (Try.f7.params.toList ++ Rows.diskAllSpec.plain.varTypes Try.prog) (ds ++ gs)).all (· ≤ reachBytes) = true) :
    Calls Try.prog 7 args W fun e W' => ∃ v, e = .returned v ∧ Rows.diskAllSpec.post enc Try.prog Try.f7 false true false false W args v W' := by
  have hW' := hW
  obtain ⟨p, q, hA0, hV, rfl, hfz, hnd⟩ := hW
  have hA : DataW.TrodAll enc Try.prog W 0 (fun _ => true) true Try.f7.params.toList args.toList ds p := hA0
  rw [Try.params7] at hA hval hsz0
  obtain ⟨v0, vs0, d0, ds0, p0, q0, hargs, rfl, rfl, h0, r0⟩ := trodAll_cons hA
  obtain ⟨rfl, rfl, rfl⟩ := trodAll_nil r0
  obtain rfl : args = #[v0] := by cases args; simp_all
  obtain ⟨rfl, rfl⟩ := trodVars_none hV
  clear hA0
  have hv0 := hval 0 _ v0 rfl rfl
  have lt0 : ∀ x ∈ p0, x.block < W.heap.size := by obtain ⟨m, hm⟩ := h0; exact DataW.trod_lt m _ _ _ hm
  have k0 := h0
  have hsz1 := hsz0
  simp only [List.cons_append, List.nil_append, DataW.weightsEach, List.all_append, Bool.and_eq_true] at hsz1
  obtain ⟨sz0, _⟩ := hsz1
  have hk : Rows.uptoBulkAll [d0] ≤ 1048576 := by have := of_decide_eq_true hk0; simpa only [List.append_nil, List.cons_append, List.nil_append] using this
  have walk : Calls Try.prog 7 #[v0] W fun e w' => e = .returned (.bool true) ∧ Below W.heap.size W w' := by
    obtain ⟨l, hl, hm, hb⟩ := arg_list (P := Try.prog) (w := W) Dop.R Dop.m Try.underlying41 (by rw [show Try.prog.cellsOf 51 = 9 by kernel_rfl]; omega) (fun n ys y hy hys => op_dop n ys y hy hys) hv0 h0
    rw [show Try.prog.cellsOf 51 = 9 by kernel_rfl] at hl
    simp only [Rows.uptoBulkAll] at hk
    exact DiskAll_walk v0 l W hl (by omega)
  refine walk.mono fun e W' ⟨he, bel⟩ => ?_
  subst he
  exact ⟨_, rfl, _, _, _, [], _, [], hW', trodAll_mk1 (shut_bool Try.underlying4 _), (trodAll_cons_mk (Below.trod laidOut (by kernel_rfl) (of_decide_eq_true (by kernel_rfl)) k0 bel lt0) trodAll_mk0), rfl, bel.frame _, fun h => by cases h⟩

theorem reads (os : Os) {H : Type} (enc : TypeId × Value → H) : ∃ places, DataW.whole enc Try.prog ((World.holding Try.prog os ⟨#[], #[], []⟩).forCall (fun _ _ => 0) ⟨#[], #[.slice none 0 0], []⟩).memory Try.f7.params.toList Rows.diskAllSpec.vars false #[.slice none 0 0].toList 8 = some ([.nil], [], places) :=
  ⟨[], by kernel_rfl⟩
set_option maxRecDepth 100000 in
theorem lifted (os : Os) (started : os.Started) (H : Type) (enc : TypeId × Value → H) (F : Stop.Interp) :
    ReturnsInHanded {} Try.checked os 7 .any ((Rows.OpenSpec.upto Rows.diskAllSpec).preRow enc Try.prog Try.f7 Rows.diskAllUptoRow.domain false Rows.diskAllUptoRow.laid) (((Rows.OpenSpec.upto Rows.diskAllSpec).at F).post enc Try.prog Try.f7 false true false false) := by
  obtain ⟨places, hx⟩ := reads os enc
  refine returnsInHanded_of_row (C := Try.checked) (s := (Rows.OpenSpec.upto Rows.diskAllSpec)) own started (by kernel_rfl) Try.func7
    (witness_row_at (enc := enc) (C := Try.checked) false (World.holding Try.prog os ⟨#[], #[], []⟩) #[.slice none 0 0] rfl (by kernel_rfl) (by kernel_rfl) (by kernel_rfl)
      (OpenSpec.preRow_of_cond 8 hx (by kernel_rfl) (fun k hk => by cases hk; kernel_rfl) (by kernel_rfl) (laidMet_nil _ _))) ?_
  intro W base args ds gs before hval hW _ hcond hsz hL _ _
  exact contract H enc W base args ds gs before hval hW (hcond _ rfl) hsz

theorem said : Rows.DiskAllUptoSaid :=
  OpenClaim.holds_of_cond 7 Try.f7 rfl rfl rfl rfl rfl rfl rfl ⟨rfl, rfl, rfl, rfl, rfl⟩ rfl rfl rfl rfl rfl (by kernel_rfl) Try.func7 (by kernel_rfl)
    (of_decide_eq_true (by kernel_rfl)) (by unfold Func.isWrapper; first | (rw [if_pos (by decide +kernel)]; kernel_rfl) | (rw [if_neg (by decide +kernel)]; exact ⟨rfl, rfl⟩))
    (fun os started H enc _ F => by rw [OpenClaim.pre_eq_preRow]; exact lifted os started H enc F)
#print axioms said
end Go.Proofs.Ytcadacljacbipaa.diskAllU
namespace Go.Proofs.Ytcadacljacbipaa
theorem diskAll_upto_holds : Rows.DiskAllUptoSaid := diskAllU.said
end Go.Proofs.Ytcadacljacbipaa
