/- The row of the law GfPowers: for every input it answers true, and each argument reads as before. The walk and what it needs stand in the imported texts. -/
import Derived.Test.YtgfnfjnjlogpkaaRows
import Derived.Test.YtgfnfjnjlogpkaaGfPowersW
import Derived.Test.YtgfnfjnjlogpkaaOpen
import Derived.WalkKit
import Derived.ProofKit
import Derived.OpenShut
import Derived.Deep.DeepHandedRow
import Derived.Lib.LaidTab
import Derived.Deep.CondSized
import Derived.SizedLaws
import Derived.ChangeOld
namespace Go.Proofs.Ytgfnfjnjlogpkaa.gfPowers
open Go.ChangeShapes Go.WideShapes Go.ChangeAt Go.RowKit

theorem own : ownKnob Try.prog.godebug = none := by kernel_rfl
theorem laidOut : laidOutB Try.prog = true := by kernel_rfl

theorem contract (H : Type) (enc : TypeId × Value → H) (W : World) (base : Nat) (args : Array Value) (ds gs : List (DataW H)) (before : List MemPlace)
    (hval : ∀ (j : Nat) t v, Try.f6.params[j]? = some t → args[j]? = some v → Value.okWide Try.prog W .any base t v)
    (hW : DataW.Whole enc Try.prog Try.f6.params.toList Rows.gfPowersSpec.vars false W args.toList ds gs before)
    (hsz0 : (DataW.weightsEach Try.prog (Try.f6.params.toList ++ Rows.gfPowersSpec.plain.varTypes Try.prog) (ds ++ gs)).all (· ≤ reachBytes) = true) :
    Calls Try.prog 6 args W fun e W' => ∃ v, e = .returned v ∧ Rows.gfPowersSpec.post enc Try.prog Try.f6 false true false false W args v W' := by
  have hW' := hW
  obtain ⟨p, q, hA0, hV, rfl, hfz, hnd⟩ := hW
  have hA : DataW.TrodAll enc Try.prog W 0 (fun _ => true) true Try.f6.params.toList args.toList ds p := hA0
  rw [Try.params6] at hA hval hsz0
  obtain ⟨v0, vs0, d0, ds0, p0, q0, hargs, rfl, rfl, h0, r0⟩ := trodAll_cons hA
  obtain ⟨v1, vs1, d1, ds1, p1, q1, rfl, rfl, rfl, h1, r1⟩ := trodAll_cons r0
  obtain ⟨v2, vs2, d2, ds2, p2, q2, rfl, rfl, rfl, h2, r2⟩ := trodAll_cons r1
  obtain ⟨v3, vs3, d3, ds3, p3, q3, rfl, rfl, rfl, h3, r3⟩ := trodAll_cons r2
  obtain ⟨rfl, rfl, rfl⟩ := trodAll_nil r3
  obtain rfl : args = #[v0, v1, v2, v3] := by cases args; simp_all
  obtain ⟨rfl, rfl⟩ := trodVars_none hV
  clear hA0
  have hv0 := hval 0 _ v0 rfl rfl
  have lt0 : ∀ x ∈ p0, x.block < W.heap.size := by obtain ⟨m, hm⟩ := h0; exact DataW.trod_lt m _ _ _ hm
  have k0 := h0
  have hv1 := hval 1 _ v1 rfl rfl
  have lt1 : ∀ x ∈ p1, x.block < W.heap.size := by obtain ⟨m, hm⟩ := h1; exact DataW.trod_lt m _ _ _ hm
  have k1 := h1
  have hv2 := hval 2 _ v2 rfl rfl
  have lt2 : ∀ x ∈ p2, x.block < W.heap.size := by obtain ⟨m, hm⟩ := h2; exact DataW.trod_lt m _ _ _ hm
  have k2 := h2
  have hv3 := hval 3 _ v3 rfl rfl
  have lt3 : ∀ x ∈ p3, x.block < W.heap.size := by obtain ⟨m, hm⟩ := h3; exact DataW.trod_lt m _ _ _ hm
  have k3 := h3
  have hsz1 := hsz0
  simp only [List.cons_append, List.nil_append, DataW.weightsEach, List.all_append, Bool.and_eq_true] at hsz1
  obtain ⟨sz0, sz1, sz2, sz3, _⟩ := hsz1
  have walk : Calls Try.prog 6 #[v0, v1, v2, v3] W fun e w' => e = .returned (.bool true) ∧ Below W.heap.size W w' := by
    obtain ⟨n, rfl, n0, n1⟩ := arg_i64 Try.underlying3 hv0 h0
    obtain ⟨cs, rfl⟩ := op_agg Try.underlying29 hv1
    obtain ⟨m1, h1⟩ := h1
    obtain ⟨xs, m, hx, hlen, _, he⟩ := op_struct Try.underlying29 h1
    obtain ⟨a0, a1, a2, rfl⟩ := len3 (l := cs) (by rw [show Try.prog.cellsOf 29 = 3 by kernel_rfl] at hlen; simpa only [Value.cells, Array.length_toList] using hlen)
    obtain ⟨y, _, hy⟩ := he 0 _ rfl
    obtain ⟨a, ha⟩ := op_u8 Try.underlying5 hy
    obtain ⟨z, _, hz⟩ := he 1 _ rfl
    obtain ⟨b, hb⟩ := op_u8 Try.underlying5 hz
    obtain ⟨u, _, hu⟩ := he 2 _ rfl
    obtain ⟨c, hc⟩ := op_u8 Try.underlying5 hu
    obtain rfl : a0 = B a := by change List.take (Try.prog.cellsOf 5) (List.drop 0 [_, _, _]) = _ at ha; rw [show Try.prog.cellsOf 5 = 1 by kernel_rfl] at ha; simpa using ha
    obtain rfl : a1 = B b := by change List.take (Try.prog.cellsOf 5) (List.drop 1 [_, _, _]) = _ at hb; rw [show Try.prog.cellsOf 5 = 1 by kernel_rfl] at hb; simpa using hb
    obtain rfl : a2 = B c := by change List.take (Try.prog.cellsOf 5) (List.drop 2 [_, _, _]) = _ at hc; rw [show Try.prog.cellsOf 5 = 1 by kernel_rfl] at hc; simpa using hc
    obtain ⟨x, rfl, _, _⟩ := arg_i64 Try.underlying3 hv2 h2
    obtain ⟨y, rfl, _, _⟩ := arg_i64 Try.underlying3 hv3 h3
    exact GfPowers_walk n a b c x y n0 n1 W
  refine walk.mono fun e W' ⟨he, bel⟩ => ?_
  subst he
  exact ⟨_, rfl, _, _, _, [], _, [], hW', trodAll_mk1 (shut_bool Try.underlying4 _), (trodAll_cons_mk (Below.trod laidOut (by kernel_rfl) (of_decide_eq_true (by kernel_rfl)) k0 bel lt0) (trodAll_cons_mk (Below.trod laidOut (by kernel_rfl) (of_decide_eq_true (by kernel_rfl)) k1 bel lt1) (trodAll_cons_mk (Below.trod laidOut (by kernel_rfl) (of_decide_eq_true (by kernel_rfl)) k2 bel lt2) (trodAll_cons_mk (Below.trod laidOut (by kernel_rfl) (of_decide_eq_true (by kernel_rfl)) k3 bel lt3) trodAll_mk0)))), rfl, bel.frame _, fun h => by cases h⟩

set_option maxRecDepth 100000 in
theorem lifted (os : Os) (started : os.Started) (H : Type) (enc : TypeId × Value → H) (F : Stop.Interp) :
    ReturnsInHanded {} Try.checked os 6 .any ((OpenSpec.ofChange Rows.gfPowersSpec).preRow enc Try.prog Try.f6 Rows.gfPowersRow.domain false Rows.gfPowersRow.laid) (((OpenSpec.ofChange Rows.gfPowersSpec).at F).post enc Try.prog Try.f6 false true false false) := by
  obtain ⟨places, hx⟩ : ∃ places, DataW.whole enc Try.prog ((World.holding Try.prog os ⟨#[], #[], []⟩).forCall (fun _ _ => 0) ⟨#[], #[.int .i64 0, .agg #[.int .u8 0, .int .u8 0, .int .u8 0], .int .i64 0, .int .i64 0], []⟩).memory Try.f6.params.toList Rows.gfPowersSpec.vars false #[.int .i64 0, .agg #[.int .u8 0, .int .u8 0, .int .u8 0], .int .i64 0, .int .i64 0].toList 8 = some ([.lit (.int .i64 0), .agg [.lit (.int .u8 0), .lit (.int .u8 0), .lit (.int .u8 0)], .lit (.int .i64 0), .lit (.int .i64 0)], [], places) := ⟨[], by kernel_rfl⟩
  refine returnsInHanded_of_row (C := Try.checked) (s := (OpenSpec.ofChange Rows.gfPowersSpec)) own started (by kernel_rfl) Try.func6
    (witness_row_at (enc := enc) (C := Try.checked) false (World.holding Try.prog os ⟨#[], #[], []⟩) #[.int .i64 0, .agg #[.int .u8 0, .int .u8 0, .int .u8 0], .int .i64 0, .int .i64 0] rfl (by kernel_rfl) (by kernel_rfl) (by kernel_rfl)
      (OpenSpec.preRow_of_cond 8 hx (by kernel_rfl) (fun k hk => by cases hk) (by kernel_rfl) (laidMet_nil _ _))) ?_
  intro W base args ds gs before hval hW _ hcond hsz hL _ _
  exact contract H enc W base args ds gs before hval hW hsz

theorem said : Rows.GfPowersSaid :=
  OpenClaim.holds_of_cond 6 Try.f6 rfl rfl rfl rfl rfl rfl rfl ⟨rfl, rfl, rfl, rfl, rfl⟩ rfl rfl rfl rfl rfl (by kernel_rfl) Try.func6 (by kernel_rfl)
    (of_decide_eq_true (by kernel_rfl)) (by unfold Func.isWrapper; first | (rw [if_pos (by decide +kernel)]; kernel_rfl) | (rw [if_neg (by decide +kernel)]; exact ⟨rfl, rfl⟩))
    (fun os started H enc _ F => by rw [OpenClaim.pre_eq_preRow]; exact lifted os started H enc F)
#print axioms said
end Go.Proofs.Ytgfnfjnjlogpkaa.gfPowers
namespace Go.Proofs.Ytgfnfjnjlogpkaa
theorem gfPowers_holds : Rows.GfPowersSaid := gfPowers.said
end Go.Proofs.Ytgfnfjnjlogpkaa
