/- The row of the law TopField: for every input it answers true, and each argument reads as before. The walk and what it needs stand in the imported texts. -/
import Derived.Test.YtgfnfjnjlogpkaaRows
import Derived.Test.YtgfnfjnjlogpkaaTopFieldW
import Derived.Test.YtgfnfjnjlogpkaaOpen
import Derived.WalkKit
import Derived.ProofKit
import Derived.OpenShut
import Derived.Deep.DeepHandedRow
import Derived.Lib.LaidTab
import Derived.Deep.CondSized
import Derived.SizedLaws
import Derived.ChangeOld
namespace Go.Proofs.Ytgfnfjnjlogpkaa.topField
open Go.ChangeShapes Go.WideShapes Go.ChangeAt Go.RowKit

theorem own : ownKnob Try.prog.godebug = none := by kernel_rfl
theorem laidOut : laidOutB Try.prog = true := by kernel_rfl

theorem contract (H : Type) (enc : TypeId × Value → H) (W : World) (base : Nat) (args : Array Value) (ds gs : List (DataW H)) (before : List MemPlace)
    (hval : ∀ (j : Nat) t v, Try.f9.params[j]? = some t → args[j]? = some v → Value.okWide Try.prog W .any base t v)
    (hW : DataW.Whole enc Try.prog Try.f9.params.toList Rows.topFieldSpec.vars false W args.toList ds gs before)
    (hsz0 : (DataW.weightsEach Try.prog (Try.f9.params.toList ++ Rows.topFieldSpec.plain.varTypes Try.prog) (ds ++ gs)).all (· ≤ reachBytes) = true) :
    Calls Try.prog 9 args W fun e W' => ∃ v, e = .returned v ∧ Rows.topFieldSpec.post enc Try.prog Try.f9 false true false false W args v W' := by
  have hW' := hW
  obtain ⟨p, q, hA0, hV, rfl, hfz, hnd⟩ := hW
  have hA : DataW.TrodAll enc Try.prog W 0 (fun _ => true) true Try.f9.params.toList args.toList ds p := hA0
  rw [Try.params9] at hA hval hsz0
  obtain ⟨v0, vs0, d0, ds0, p0, q0, hargs, rfl, rfl, h0, r0⟩ := trodAll_cons hA
  obtain ⟨rfl, rfl, rfl⟩ := trodAll_nil r0
  obtain rfl : args = #[v0] := by cases args; simp_all
  obtain ⟨rfl, rfl⟩ := trodVars_none hV
  clear hA0
  have hv0 := hval 0 _ v0 rfl rfl
  have lt0 : ∀ x ∈ p0, x.block < W.heap.size := by obtain ⟨m, hm⟩ := h0; exact DataW.trod_lt m _ _ _ hm
  have k0 := h0
  have hsz1 := hsz0
  simp only [List.cons_append, List.nil_append, DataW.weightsEach, List.all_append, Bool.and_eq_true] at hsz1
  obtain ⟨sz0, _⟩ := hsz1
  have walk : Calls Try.prog 9 #[v0] W fun e w' => e = .returned (.bool true) ∧ Below W.heap.size W w' := by
    obtain ⟨cs, rfl⟩ := op_agg Try.underlying61 hv0
    obtain ⟨m1, h1⟩ := h0
    obtain ⟨xs, m, hx, hlen, hxl, he⟩ := op_struct Try.underlying61 h1
    obtain ⟨a0, a1, a2, a3, a4, a5, a6, rfl⟩ := len7 (l := cs) (by rw [show Try.prog.cellsOf 61 = 7 by kernel_rfl] at hlen; simpa only [Value.cells, Array.length_toList] using hlen)
    obtain ⟨y0, _, e0⟩ := he 0 _ rfl
    obtain ⟨n, g0, n0, n1, _⟩ := op_int Try.underlying3 e0
    obtain ⟨y1, _, e1⟩ := he 1 _ rfl
    obtain ⟨k, g1, kk0, kk1, _⟩ := op_int Try.underlying3 e1
    obtain ⟨y2, _, e2⟩ := he 2 _ rfl
    obtain ⟨a, g2, _⟩ := op_int Try.underlying3 e2
    obtain ⟨y3, _, e3⟩ := he 3 _ rfl
    obtain ⟨b, g3, _⟩ := op_int Try.underlying3 e3
    obtain ⟨y4, hy4, e4⟩ := he 4 _ rfl
    obtain ⟨v, l, g4, hl, hw4, _, hmax⟩ := op_bytes Try.underlying22 Try.underlying5 (by kernel_rfl) (by kernel_rfl) e4
    change List.take (Try.prog.cellsOf 3) (List.drop 0 [_, _, _, _, _, _, _]) = _ at g0
    change List.take (Try.prog.cellsOf 3) (List.drop 1 [_, _, _, _, _, _, _]) = _ at g1
    change List.take (Try.prog.cellsOf 3) (List.drop 2 [_, _, _, _, _, _, _]) = _ at g2
    change List.take (Try.prog.cellsOf 3) (List.drop 3 [_, _, _, _, _, _, _]) = _ at g3
    change List.take (Try.prog.cellsOf 22) (List.drop 4 [_, _, _, _, _, _, _]) = _ at g4
    rw [show Try.prog.cellsOf 3 = 1 by kernel_rfl] at g0 g1 g2 g3
    rw [show Try.prog.cellsOf 22 = 1 by kernel_rfl] at g4
    obtain rfl : a0 = .int .i64 n := by simpa using g0
    obtain rfl : a1 = .int .i64 k := by simpa using g1
    obtain rfl : a2 = .int .i64 a := by simpa using g2
    obtain rfl : a3 = .int .i64 b := by simpa using g3
    obtain rfl : a4 = v := by simpa using g4
    have hd0 : d0 = .agg (xs.map (·.1)) := hx
    rw [hd0] at sz0
    have hlen4 : l.length ≤ 140737488355328 := Nat.le_trans (hw4 reachBytes (weights_part Try.underlying61 sz0 4 y4.1 _ (by simp [hy4]) rfl)) (by decide)
    exact TopField_walk n k a b a4 a5 a6 l (by simpa [IntKind.min, IntKind.signed, IntKind.bits] using n0) (by simpa [IntKind.max, IntKind.signed, IntKind.bits] using n1) (by simpa [IntKind.min, IntKind.signed, IntKind.bits] using kk0) (by simpa [IntKind.max, IntKind.signed, IntKind.bits] using kk1) W hl hlen4
  refine walk.mono fun e W' ⟨he, bel⟩ => ?_
  subst he
  exact ⟨_, rfl, _, _, _, [], _, [], hW', trodAll_mk1 (shut_bool Try.underlying4 _), (trodAll_cons_mk (Below.trod laidOut (by kernel_rfl) (of_decide_eq_true (by kernel_rfl)) k0 bel lt0) trodAll_mk0), rfl, bel.frame _, fun h => by cases h⟩

set_option maxRecDepth 100000 in
theorem lifted (os : Os) (started : os.Started) (H : Type) (enc : TypeId × Value → H) (F : Stop.Interp) :
    ReturnsInHanded {} Try.checked os 9 .any ((OpenSpec.ofChange Rows.topFieldSpec).preRow enc Try.prog Try.f9 Rows.topFieldRow.domain false Rows.topFieldRow.laid) (((OpenSpec.ofChange Rows.topFieldSpec).at F).post enc Try.prog Try.f9 false true false false) := by
  obtain ⟨places, hx⟩ : ∃ places, DataW.whole enc Try.prog ((World.holding Try.prog os ⟨#[], #[], []⟩).forCall (fun _ _ => 0) ⟨#[], #[.agg #[.int .i64 0, .int .i64 0, .int .i64 0, .int .i64 0, .slice none 0 0, .slice none 0 0, .slice none 0 0]], []⟩).memory Try.f9.params.toList Rows.topFieldSpec.vars false #[.agg #[.int .i64 0, .int .i64 0, .int .i64 0, .int .i64 0, .slice none 0 0, .slice none 0 0, .slice none 0 0]].toList 8 = some ([.agg [.lit (.int .i64 0), .lit (.int .i64 0), .lit (.int .i64 0), .lit (.int .i64 0), .nil, .nil, .nil]], [], places) := ⟨[], by kernel_rfl⟩
  refine returnsInHanded_of_row (C := Try.checked) (s := (OpenSpec.ofChange Rows.topFieldSpec)) own started (by kernel_rfl) Try.func9
    (witness_row_at (enc := enc) (C := Try.checked) false (World.holding Try.prog os ⟨#[], #[], []⟩) #[.agg #[.int .i64 0, .int .i64 0, .int .i64 0, .int .i64 0, .slice none 0 0, .slice none 0 0, .slice none 0 0]] rfl (by kernel_rfl) (by kernel_rfl) (by kernel_rfl)
      (OpenSpec.preRow_of_cond 8 hx (by kernel_rfl) (fun k hk => by cases hk) (by kernel_rfl) (laidMet_nil _ _))) ?_
  intro W base args ds gs before hval hW _ hcond hsz hL _ _
  exact contract H enc W base args ds gs before hval hW hsz

theorem said : Rows.TopFieldSaid :=
  OpenClaim.holds_of_cond 9 Try.f9 rfl rfl rfl rfl rfl rfl rfl ⟨rfl, rfl, rfl, rfl, rfl⟩ rfl rfl rfl rfl rfl (by kernel_rfl) Try.func9 (by kernel_rfl)
    (of_decide_eq_true (by kernel_rfl)) (by unfold Func.isWrapper; first | (rw [if_pos (by decide +kernel)]; kernel_rfl) | (rw [if_neg (by decide +kernel)]; exact ⟨rfl, rfl⟩))
    (fun os started H enc _ F => by rw [OpenClaim.pre_eq_preRow]; exact lifted os started H enc F)
#print axioms said
end Go.Proofs.Ytgfnfjnjlogpkaa.topField
namespace Go.Proofs.Ytgfnfjnjlogpkaa
theorem topField_holds : Rows.TopFieldSaid := topField.said
end Go.Proofs.Ytgfnfjnjlogpkaa
