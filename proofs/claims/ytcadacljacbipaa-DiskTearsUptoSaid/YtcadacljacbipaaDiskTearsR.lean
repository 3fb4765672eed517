/- The row of the law DiskTears, where what it reads is of bulk at most 1048576: for every such input it answers true, and each argument reads as before. The walk and what it needs stand in the imported texts. -/
import Derived.Test.YtcadacljacbipaaRows
import Derived.Test.YtcadacljacbipaaDiskTearsW
import Derived.Test.YtcadacljacbipaaDkO
import Derived.Test.YtcadacljacbipaaOpenL
import Derived.WalkKit
import Derived.ProofKit
import Derived.OpenShut
import Derived.Deep.DeepHandedRow
import Derived.Lib.LaidTab
import Derived.Deep.CondSized
import Derived.SizedLaws
import Derived.ChangeOld
namespace Go.Proofs.Ytcadacljacbipaa.diskTearsU
open Go.ChangeShapes Go.WideShapes Go.ChangeAt Go.RowKit

theorem own : ownKnob Try.prog.godebug = none := by kernel_rfl
theorem laidOut : laidOutB Try.prog = true := by kernel_rfl

theorem contract (H : Type) (enc : TypeId × Value → H) (W : World) (base : Nat) (args : Array Value) (ds gs : List (DataW H)) (before : List MemPlace)
    (hval : ∀ (j : Nat) t v, Try.f3.params[j]? = some t → args[j]? = some v → Value.okWide Try.prog W .any base t v)
    (hW : DataW.Whole enc Try.prog Try.f3.params.toList Rows.diskTearsSpec.vars false W args.toList ds gs before) (hk0 : Rows.uptoSmall H (ds ++ gs) = true)
    (hsz0 : (DataW.weightsEach Try.prog (Try.f3.params.toList ++ Rows.diskTearsSpec.plain.varTypes Try.prog) (ds ++ gs)).all (· ≤ reachBytes) = true) :
    Calls Try.prog 3 args W fun e W' => ∃ v, e = .returned v ∧ Rows.diskTearsSpec.post enc Try.prog Try.f3 false true false false W args v W' := by
  have hW' := hW
  obtain ⟨p, q, hA0, hV, rfl, hfz, hnd⟩ := hW
  have hA : DataW.TrodAll enc Try.prog W 0 (fun _ => true) true Try.f3.params.toList args.toList ds p := hA0
  rw [Try.params3] at hA hval hsz0
  obtain ⟨v0, vs0, d0, ds0, p0, q0, hargs, rfl, rfl, h0, r0⟩ := trodAll_cons hA
  obtain ⟨rfl, rfl, rfl⟩ := trodAll_nil r0
  obtain rfl : args = #[v0] := by cases args; simp_all
  obtain ⟨rfl, rfl⟩ := trodVars_none hV
  clear hA0
  have hv0 := hval 0 _ v0 rfl rfl
  have lt0 : ∀ x ∈ p0, x.block < W.heap.size := by obtain ⟨m, hm⟩ := h0; exact DataW.trod_lt m _ _ _ hm
  have k0 := h0
  have hsz1 := hsz0
  simp only [List.cons_append, List.nil_append, DataW.weightsEach, List.all_append, Bool.and_eq_true] at hsz1
  obtain ⟨sz0, _⟩ := hsz1
  have hk : Rows.uptoBulkAll [d0] ≤ 1048576 := by have := of_decide_eq_true hk0; simpa only [List.append_nil, List.cons_append, List.nil_append] using this
  have walk : Calls Try.prog 3 #[v0] W fun e w' => e = .returned (.bool true) ∧ Below W.heap.size W w' := by
    obtain ⟨fuel, h0⟩ := h0
    obtain ⟨cs, rfl⟩ := op_agg Try.underlying26 hv0
    obtain ⟨xs, n, hd, hl, _, each⟩ := op_struct Try.underlying26 h0
    rw [show Try.prog.cellsOf 26 = 4 by kernel_rfl] at hl
    obtain ⟨c0, c1, c2, c3, rfl⟩ : ∃ a b c d, cs = #[a, b, c, d] := by
      obtain ⟨l⟩ := cs
      match l, hl with
      | [a, b, c, d], _ => exact ⟨a, b, c, d, rfl⟩
    obtain ⟨y0, hy0, g0⟩ := each 0 _ rfl
    obtain ⟨y1, hy1, g1⟩ := each 1 _ rfl
    obtain ⟨y2, _, g2⟩ := each 2 _ rfl
    obtain ⟨y3, _, g3⟩ := each 3 _ rfl
    have s1 : Try.prog.cellsOf 22 = 1 := by kernel_rfl
    have s2 : Try.prog.cellsOf 23 = 1 := by kernel_rfl
    have s3 : Try.prog.cellsOf 3 = 1 := by kernel_rfl
    have s4 : Try.prog.cellsOf 24 = 1 := by kernel_rfl
    simp only [Value.cells, s1, s2, s3, s4, List.drop_succ_cons, List.drop_zero, List.take_succ_cons, List.take_zero] at g0 g1 g2 g3
    obtain ⟨u0, la, e0, hla, _, b0, _⟩ := op_bytes Try.underlying22 Try.underlying5 (by kernel_rfl) (by kernel_rfl) g0
    obtain ⟨u1, ps, e1, hps, _, b1, _⟩ := op_rows Try.underlying23 Try.underlying22 Try.underlying5 (by kernel_rfl) (by kernel_rfl) (by kernel_rfl) (by kernel_rfl) g1
    obtain ⟨sz, e2, n0, n1⟩ := op_i64 Try.underlying3 g2
    obtain ⟨u3, cl, e3, hcl, _⟩ := op_ints Try.underlying24 Try.underlying3 (by kernel_rfl) g3
    injection e0 with e0; injection e1 with e1; injection e2 with e2; injection e3 with e3
    subst e0 e1 e2 e3
    have hd0 : d0 = .agg (xs.map (·.1)) := hd
    have hb : Rows.uptoBulk y0.1 + Rows.uptoBulk y1.1 ≤ Rows.uptoBulkAll (xs.map (·.1)) := by
      match xs, hy0, hy1 with
      | a :: b :: r, ha, hb =>
        injection ha with ha; injection hb with hb
        subst ha hb
        simp only [List.map_cons, Rows.uptoBulkAll]
        omega
    rw [hd0] at hk
    simp only [Rows.uptoBulkAll, Rows.uptoBulk] at hk
    exact DiskTears_walk c0 c1 c3 la ps sz cl W n0 n1 hla hps hcl (by rw [List.length_flatten]; omega)
  refine walk.mono fun e W' ⟨he, bel⟩ => ?_
  subst he
  exact ⟨_, rfl, _, _, _, [], _, [], hW', trodAll_mk1 (shut_bool Try.underlying4 _), (trodAll_cons_mk (Below.trod laidOut (by kernel_rfl) (of_decide_eq_true (by kernel_rfl)) k0 bel lt0) trodAll_mk0), rfl, bel.frame _, fun h => by cases h⟩

theorem reads (os : Os) {H : Type} (enc : TypeId × Value → H) : ∃ places, DataW.whole enc Try.prog ((World.holding Try.prog os ⟨#[], #[], []⟩).forCall (fun _ _ => 0) ⟨#[], #[.agg #[.slice none 0 0, .slice none 0 0, .int .i64 0, .slice none 0 0]], []⟩).memory Try.f3.params.toList Rows.diskTearsSpec.vars false #[.agg #[.slice none 0 0, .slice none 0 0, .int .i64 0, .slice none 0 0]].toList 8 = some ([.agg [.nil, .nil, .lit (.int .i64 0), .nil]], [], places) :=
  ⟨[], by kernel_rfl⟩
set_option maxRecDepth 100000 in
theorem lifted (os : Os) (started : os.Started) (H : Type) (enc : TypeId × Value → H) (F : Stop.Interp) :
    ReturnsInHanded {} Try.checked os 3 .any ((Rows.OpenSpec.upto Rows.diskTearsSpec).preRow enc Try.prog Try.f3 Rows.diskTearsUptoRow.domain false Rows.diskTearsUptoRow.laid) (((Rows.OpenSpec.upto Rows.diskTearsSpec).at F).post enc Try.prog Try.f3 false true false false) := by
  obtain ⟨places, hx⟩ := reads os enc
  refine returnsInHanded_of_row (C := Try.checked) (s := (Rows.OpenSpec.upto Rows.diskTearsSpec)) own started (by kernel_rfl) Try.func3
    (witness_row_at (enc := enc) (C := Try.checked) false (World.holding Try.prog os ⟨#[], #[], []⟩) #[.agg #[.slice none 0 0, .slice none 0 0, .int .i64 0, .slice none 0 0]] rfl (by kernel_rfl) (by kernel_rfl) (by kernel_rfl)
      (OpenSpec.preRow_of_cond 8 hx (by kernel_rfl) (fun k hk => by cases hk; kernel_rfl) (by kernel_rfl) (laidMet_nil _ _))) ?_
  intro W base args ds gs before hval hW _ hcond hsz hL _ _
  exact contract H enc W base args ds gs before hval hW (hcond _ rfl) hsz

theorem said : Rows.DiskTearsUptoSaid :=
  OpenClaim.holds_of_cond 3 Try.f3 rfl rfl rfl rfl rfl rfl rfl ⟨rfl, rfl, rfl, rfl, rfl⟩ rfl rfl rfl rfl rfl (by kernel_rfl) Try.func3 (by kernel_rfl)
    (of_decide_eq_true (by kernel_rfl)) (by unfold Func.isWrapper; first | (rw [if_pos (by decide +kernel)]; kernel_rfl) | (rw [if_neg (by decide +kernel)]; exact ⟨rfl, rfl⟩))
    (fun os started H enc _ F => by rw [OpenClaim.pre_eq_preRow]; exact lifted os started H enc F)
#print axioms said
end Go.Proofs.Ytcadacljacbipaa.diskTearsU
namespace Go.Proofs.Ytcadacljacbipaa
theorem diskTears_upto_holds : Rows.DiskTearsUptoSaid := diskTearsU.said
end Go.Proofs.Ytcadacljacbipaa
