/- The row of the law SumAll, where what it reads is of bulk at most 1048576: for every such input it answers true, and each argument reads as before. The walk and what it needs stand in the imported texts. -/
import Derived.Test.YthadfebboagabaaDoorCards
import Derived.Test.YthadfebboagabaaDoorTie
import Derived.Test.YthadfebboagabaaDoorSumAllW
import Derived.Test.YthadfebboagabaaDoorSumT
import Derived.Test.YthadfebboagabaaDoorOpenL
import Derived.WalkKit
import Derived.ProofKit
import Derived.OpenShut
import Derived.Deep.DeepHandedRow
import Derived.Lib.LaidTab
import Derived.Deep.CondSized
import Derived.SizedLaws
import Derived.ChangeOld
namespace Go.Proofs.YthadfebboagabaaDoor.sumAllU
open Go.ChangeShapes Go.WideShapes Go.ChangeAt Go.RowKit

theorem own : ownKnob Tryd.prog.godebug = none := by kernel_rfl
theorem laidOut : laidOutB Tryd.prog = true := by kernel_rfl

theorem contract (H : Type) (enc : TypeId × Value → H) (W : World) (base : Nat) (args : Array Value) (ds gs : List (DataW H)) (before : List MemPlace)
    (hval : ∀ (j : Nat) t v, Tryd.f7.params[j]? = some t → args[j]? = some v → Value.okWide Tryd.prog W .any base t v)
    (hW : DataW.Whole enc Tryd.prog Tryd.f7.params.toList Rows.sumAllSpec.vars false W args.toList ds gs before) (hk0 : Rows.uptoSmall H (ds ++ gs) = true)
    (hsz0 : (DataW.weightsEach Tryd.prog (Tryd.f7.params.toList ++ Rows.sumAllSpec.plain.varTypes Tryd.prog) (ds ++ gs)).all (· ≤ reachBytes) = true) (hL : laidMetH Tryd.prog Rows.sumAllUptoRow.laid W) :
    Calls Tryd.prog 7 args W fun e W' => ∃ v, e = .returned v ∧ Rows.sumAllSpec.post enc Tryd.prog Tryd.f7 false true false false W args v W' := by
  have hW' := hW
  obtain ⟨p, q, hA0, hV, rfl, hfz, hnd⟩ := hW
  have hA : DataW.TrodAll enc Tryd.prog W 0 (fun _ => true) true Tryd.f7.params.toList args.toList ds p := hA0
  rw [Tryd.params7] at hA hval hsz0
  obtain ⟨v0, vs0, d0, ds0, p0, q0, hargs, rfl, rfl, h0, r0⟩ := trodAll_cons hA
  obtain ⟨rfl, rfl, rfl⟩ := trodAll_nil r0
  obtain rfl : args = #[v0] := by cases args; simp_all
  obtain ⟨rfl, rfl⟩ := trodVars_none hV
  clear hA0
  have hv0 := hval 0 _ v0 rfl rfl
  have lt0 : ∀ x ∈ p0, x.block < W.heap.size := by obtain ⟨m, hm⟩ := h0; exact DataW.trod_lt m _ _ _ hm
  have k0 := h0
  have hsz1 := hsz0
  simp only [List.cons_append, List.nil_append, DataW.weightsEach, List.all_append, Bool.and_eq_true] at hsz1
  obtain ⟨sz0, _⟩ := hsz1
  have hk : Rows.uptoBulkAll [d0] ≤ 1048576 := by have := of_decide_eq_true hk0; simpa only [List.append_nil, List.cons_append, List.nil_append] using this
  have walk : Calls Tryd.prog 7 #[v0] W fun e w' => e = .returned (.bool true) ∧ Below W.heap.size W w' := by
    have hT := table hL
    obtain ⟨fuel, h0⟩ := h0
    obtain ⟨cs, rfl⟩ := op_agg Tryd.underlying25 hv0
    obtain ⟨xs, n, hd, hl, _, each⟩ := op_struct Tryd.underlying25 h0
    rw [show Tryd.prog.cellsOf 25 = 5 by kernel_rfl] at hl
    obtain ⟨c0, c1, c2, c3, c4, rfl⟩ := len5 hl
    obtain ⟨y0, hy0, g0⟩ := each 0 _ rfl
    obtain ⟨y1, _, g1⟩ := each 1 _ rfl
    obtain ⟨y2, _, g2⟩ := each 2 _ rfl
    obtain ⟨y3, _, g3⟩ := each 3 _ rfl
    obtain ⟨y4, _, g4⟩ := each 4 _ rfl
    have s32 : Tryd.prog.cellsOf 23 = 1 := by kernel_rfl
    have s64 : Tryd.prog.cellsOf 3 = 1 := by kernel_rfl
    have sbb : Tryd.prog.cellsOf 22 = 1 := by kernel_rfl
    simp only [Value.cells, s32, s64, sbb, List.drop_succ_cons, List.drop_zero, List.take_succ_cons, List.take_zero] at g0 g1 g2 g3 g4
    obtain ⟨pv, ps, hps, hP, _, hbulk, _⟩ := op_rows Tryd.underlying22 Tryd.underlying33 Tryd.underlying5 (by kernel_rfl) (by kernel_rfl) (by kernel_rfl) (by kernel_rfl) g0
    obtain ⟨a, ha⟩ := op_u32 Tryd.underlying23 g1
    obtain ⟨b, hb⟩ := op_u32 Tryd.underlying23 g2
    obtain ⟨n, hn, n0, n1⟩ := op_i64 Tryd.underlying3 g3
    obtain ⟨m, hm, m0, m1⟩ := op_i64 Tryd.underlying3 g4
    injection hps with hps; injection ha with ha; injection hb with hb; injection hn with hn; injection hm with hm
    subst hps ha hb hn hm
    have hd0 : d0 = .agg (xs.map (·.1)) := hd
    have hmem : y0.1 ∈ xs.map (·.1) := List.mem_map_of_mem (List.mem_of_getElem? hy0)
    have hb1 := bulk_mem hmem
    rw [hd0] at hk
    simp only [Rows.uptoBulkAll, Rows.uptoBulk] at hk
    exact SumAll_walk c0 ps a b n m n1 (by omega) (fun i => by have := getD_len_le ps i; omega) W hP hT
  refine walk.mono fun e W' ⟨he, bel⟩ => ?_
  subst he
  exact ⟨_, rfl, _, _, _, [], _, [], hW', trodAll_mk1 (shut_bool Tryd.underlying4 _), (trodAll_cons_mk (Below.trod laidOut (by kernel_rfl) (of_decide_eq_true (by kernel_rfl)) k0 bel lt0) trodAll_mk0), rfl, bel.frame _, fun h => by cases h⟩

noncomputable def laidWorld (os : Os) : World :=
  { World.holding Tryd.prog os ⟨#[], #[], []⟩ with heap := ((World.holding Tryd.prog os ⟨#[], #[], []⟩).heap.modify 0 fun | .cells _ t frozen => .cells (Crc.tab.map W32).toArray t frozen | o => o) }
theorem laid_met (os : Os) : laidMet Tryd.prog Rows.sumAllUptoRow.laid ((laidWorld os).forCall (fun _ _ => 0) ⟨#[], #[.agg #[.slice none 0 0, .int .u32 0, .int .u32 0, .int .i64 0, .int .i64 0]], []⟩).memory :=
  laidMet_of_run' 8 (by kernel_rfl) (by kernel_rfl)
theorem reads (os : Os) {H : Type} (enc : TypeId × Value → H) : ∃ places, DataW.whole enc Tryd.prog ((laidWorld os).forCall (fun _ _ => 0) ⟨#[], #[.agg #[.slice none 0 0, .int .u32 0, .int .u32 0, .int .i64 0, .int .i64 0]], []⟩).memory Tryd.f7.params.toList Rows.sumAllSpec.vars false #[.agg #[.slice none 0 0, .int .u32 0, .int .u32 0, .int .i64 0, .int .i64 0]].toList 8 = some ([.agg [.nil, .lit (.int .u32 0), .lit (.int .u32 0), .lit (.int .i64 0), .lit (.int .i64 0)]], [], places) :=
  ⟨[], by kernel_rfl⟩
set_option maxRecDepth 100000 in
theorem lifted (os : Os) (started : os.Started) (H : Type) (enc : TypeId × Value → H) (F : Stop.Interp) :
    ReturnsInHanded {} Tryd.checked os 7 .any ((Rows.OpenSpec.upto Rows.sumAllSpec).preRow enc Tryd.prog Tryd.f7 Rows.sumAllUptoRow.domain false Rows.sumAllUptoRow.laid) (((Rows.OpenSpec.upto Rows.sumAllSpec).at F).post enc Tryd.prog Tryd.f7 false true false false) := by
  obtain ⟨places, hx⟩ := reads os enc
  refine returnsInHanded_of_row (C := Tryd.checked) (s := (Rows.OpenSpec.upto Rows.sumAllSpec)) own started (by kernel_rfl) Tryd.func7
    (witness_row_at (enc := enc) (C := Tryd.checked) false (laidWorld os) #[.agg #[.slice none 0 0, .int .u32 0, .int .u32 0, .int .i64 0, .int .i64 0]] rfl (by kernel_rfl) (by kernel_rfl) (by kernel_rfl)
      (OpenSpec.preRow_of_cond 8 hx (by kernel_rfl) (fun k hk => by cases hk; kernel_rfl) (by kernel_rfl) (laid_met os))) ?_
  intro W base args ds gs before hval hW _ hcond hsz hL _ _
  exact contract H enc W base args ds gs before hval hW (hcond _ rfl) hsz hL

theorem said : Rows.SumAllUptoSaid :=
  OpenClaim.holds_of_cond 7 Tryd.f7 rfl rfl rfl rfl rfl rfl rfl ⟨rfl, rfl, rfl, rfl, rfl⟩ rfl rfl rfl rfl rfl (by kernel_rfl) Tryd.func7 (by kernel_rfl)
    (of_decide_eq_true (by kernel_rfl)) (by unfold Func.isWrapper; first | (rw [if_pos (by decide +kernel)]; kernel_rfl) | (rw [if_neg (by decide +kernel)]; exact ⟨rfl, rfl⟩))
    (fun os started H enc _ F => by rw [OpenClaim.pre_eq_preRow]; exact lifted os started H enc F)

theorem plain (f : FuncId) (fn : Func) (hf : Tryd.pinned.checked.prog.funcNamed "sherd/sherdlaw06.SumAll" = some f) (hfn : Tryd.pinned.checked.prog.funcs[f]? = some fn) :
    false = Tryd.pinned.checked.prog.looks [] ∧ ∀ (j : Nat) t, fn.params[j]? = some t → Tryd.pinned.checked.prog.wantsStandIn t = false := by
  obtain rfl : f = 7 := Option.some.inj ((show Tryd.prog.funcNamed "sherd/sherdlaw06.SumAll" = some 7 by kernel_rfl).symm.trans hf) |>.symm
  obtain rfl : fn = Tryd.f7 := (Option.some.inj (Tryd.func7.symm.trans hfn)).symm
  refine ⟨by kernel_rfl, fun j t ht => ?_⟩
  rw [Tryd.params7] at ht
  have hm := Array.mem_of_getElem? ht
  have hall : (Tryd.f7.params.toList.all fun t => !Tryd.prog.wantsStandIn t) = true := by kernel_rfl
  rw [Tryd.params7] at hall
  have := (List.all_eq_true.1 hall) t (by simpa using hm)
  exact (by simpa using this : Tryd.prog.wantsStandIn t = false)

theorem card : Rows.SumAllUptoCardSaid :=
  Claim7.holds_tied_plain_at .later [] _ _ _ _ said (fun _ h => by cases h) (by kernel_rfl) (fun _ h => by cases h) sumAllUpto_row_tie rfl ⟨rfl, rfl⟩ (by kernel_rfl) rfl plain (by kernel_rfl)
#print axioms card
end Go.Proofs.YthadfebboagabaaDoor.sumAllU
namespace Go.Proofs.YthadfebboagabaaDoor
theorem sumAll_upto_holds : Rows.SumAllUptoCardSaid := sumAllU.card
end Go.Proofs.YthadfebboagabaaDoor
