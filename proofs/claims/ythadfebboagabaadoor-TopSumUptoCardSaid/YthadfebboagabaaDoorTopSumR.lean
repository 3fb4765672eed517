/- The row of the law TopSum, where what it reads is of bulk at most 1048576: for every such input it answers true, and each argument reads as before. The walk and what it needs stand in the imported texts. -/
import Derived.Test.YthadfebboagabaaDoorCards
import Derived.Test.YthadfebboagabaaDoorTie
import Derived.Test.YthadfebboagabaaDoorTopSumW
import Derived.Test.YthadfebboagabaaDoorTopSumO
import Derived.Test.YthadfebboagabaaDoorSumT
import Derived.Test.YthadfebboagabaaDoorOpenL
import Derived.WalkKit
import Derived.ProofKit
import Derived.OpenShut
import Derived.Deep.DeepHandedRow
import Derived.Lib.LaidTab
import Derived.Deep.CondSized
import Derived.SizedLaws
import Derived.ChangeOld
namespace Go.Proofs.YthadfebboagabaaDoor.topSumU
open Go.ChangeShapes Go.WideShapes Go.ChangeAt Go.RowKit

theorem own : ownKnob Tryd.prog.godebug = none := by kernel_rfl
theorem laidOut : laidOutB Tryd.prog = true := by kernel_rfl

theorem contract (H : Type) (enc : TypeId × Value → H) (W : World) (base : Nat) (args : Array Value) (ds gs : List (DataW H)) (before : List MemPlace)
    (hval : ∀ (j : Nat) t v, Tryd.f8.params[j]? = some t → args[j]? = some v → Value.okWide Tryd.prog W .any base t v)
    (hW : DataW.Whole enc Tryd.prog Tryd.f8.params.toList Rows.topSumSpec.vars false W args.toList ds gs before) (hk0 : Rows.uptoSmall H (ds ++ gs) = true)
    (hsz0 : (DataW.weightsEach Tryd.prog (Tryd.f8.params.toList ++ Rows.topSumSpec.plain.varTypes Tryd.prog) (ds ++ gs)).all (· ≤ reachBytes) = true) (hL : laidMetH Tryd.prog Rows.topSumUptoRow.laid W) :
    Calls Tryd.prog 8 args W fun e W' => ∃ v, e = .returned v ∧ Rows.topSumSpec.post enc Tryd.prog Tryd.f8 false true false false W args v W' := by
  have hW' := hW
  obtain ⟨p, q, hA0, hV, rfl, hfz, hnd⟩ := hW
  have hA : DataW.TrodAll enc Tryd.prog W 0 (fun _ => true) true Tryd.f8.params.toList args.toList ds p := hA0
  rw [Tryd.params8] at hA hval hsz0
  obtain ⟨v0, vs0, d0, ds0, p0, q0, hargs, rfl, rfl, h0, r0⟩ := trodAll_cons hA
  obtain ⟨rfl, rfl, rfl⟩ := trodAll_nil r0
  obtain rfl : args = #[v0] := by cases args; simp_all
  obtain ⟨rfl, rfl⟩ := trodVars_none hV
  clear hA0
  have hv0 := hval 0 _ v0 rfl rfl
  have lt0 : ∀ x ∈ p0, x.block < W.heap.size := by obtain ⟨m, hm⟩ := h0; exact DataW.trod_lt m _ _ _ hm
  have k0 := h0
  have hsz1 := hsz0
  simp only [List.cons_append, List.nil_append, DataW.weightsEach, List.all_append, Bool.and_eq_true] at hsz1
  obtain ⟨sz0, _⟩ := hsz1
  have hk : Rows.uptoBulkAll [d0] ≤ 1048576 := by have := of_decide_eq_true hk0; simpa only [List.append_nil, List.cons_append, List.nil_append] using this
  have walk : Calls Tryd.prog 8 #[v0] W fun e w' => e = .returned (.bool true) ∧ Below W.heap.size W w' := by
    have hT := table hL
    obtain ⟨fuel, h0⟩ := h0
    obtain ⟨cs, rfl⟩ := op_agg Tryd.underlying55 hv0
    obtain ⟨xs, n, hd, hl, _, each⟩ := op_struct Tryd.underlying55 h0
    rw [show Tryd.prog.cellsOf 55 = 14 by kernel_rfl] at hl
    obtain ⟨c0, c1, c2, c3, c4, c5, c6, c7, c8, c9, c10, c11, c12, c13, rfl⟩ := len14 hl
    obtain ⟨y0, hy0, g0⟩ := each 0 _ rfl
    obtain ⟨y1, _, g1⟩ := each 1 _ rfl
    obtain ⟨y2, _, g2⟩ := each 2 _ rfl
    have s32 : Tryd.prog.cellsOf 23 = 1 := by kernel_rfl
    have s64 : Tryd.prog.cellsOf 3 = 1 := by kernel_rfl
    have sme : Tryd.prog.cellsOf 53 = 11 := by kernel_rfl
    have sst : Tryd.prog.cellsOf 9 = 1 := by kernel_rfl
    have sby : Tryd.prog.cellsOf 33 = 1 := by kernel_rfl
    change DataW.trod enc Tryd.prog W 0 (fun _ => true) true n 53 (List.take (Tryd.prog.cellsOf 53) (List.drop 0 [c0, c1, c2, c3, c4, c5, c6, c7, c8, c9, c10, c11, c12, c13])) = _ at g0
    change DataW.trod enc Tryd.prog W 0 (fun _ => true) true n 3 (List.take (Tryd.prog.cellsOf 3) (List.drop 11 [c0, c1, c2, c3, c4, c5, c6, c7, c8, c9, c10, c11, c12, c13])) = _ at g1
    change DataW.trod enc Tryd.prog W 0 (fun _ => true) true n 23 (List.take (Tryd.prog.cellsOf 23) (List.drop 12 [c0, c1, c2, c3, c4, c5, c6, c7, c8, c9, c10, c11, c12, c13])) = _ at g2
    rw [sme] at g0
    rw [s64] at g1
    rw [s32] at g2
    change DataW.trod enc Tryd.prog W 0 (fun _ => true) true n 53 [c0, c1, c2, c3, c4, c5, c6, c7, c8, c9, c10] = _ at g0
    change DataW.trod enc Tryd.prog W 0 (fun _ => true) true n 3 [c11] = _ at g1
    change DataW.trod enc Tryd.prog W 0 (fun _ => true) true n 23 [c12] = _ at g2
    obtain ⟨ys, n2, hdy, _, _, each2⟩ := op_struct Tryd.underlying53 g0
    obtain ⟨z4, hz4, g4⟩ := each2 4 _ rfl
    obtain ⟨z8, hz8, g8⟩ := each2 8 _ rfl
    change DataW.trod enc Tryd.prog W 0 (fun _ => true) true n2 9 (List.take (Tryd.prog.cellsOf 9) (List.drop 4 [c0, c1, c2, c3, c4, c5, c6, c7, c8, c9, c10])) = _ at g4
    change DataW.trod enc Tryd.prog W 0 (fun _ => true) true n2 33 (List.take (Tryd.prog.cellsOf 33) (List.drop 10 [c0, c1, c2, c3, c4, c5, c6, c7, c8, c9, c10])) = _ at g8
    rw [sst] at g4
    rw [sby] at g8
    change DataW.trod enc Tryd.prog W 0 (fun _ => true) true n2 9 [c4] = _ at g4
    change DataW.trod enc Tryd.prog W 0 (fun _ => true) true n2 33 [c10] = _ at g8
    obtain ⟨key, hkey, hz4', _⟩ := DataW.trod_string Tryd.underlying9 g4
    obtain ⟨dv, lb, hdv, hB, _, hbulk, _⟩ := op_bytes Tryd.underlying33 Tryd.underlying5 (by kernel_rfl) (by kernel_rfl) g8
    obtain ⟨bit, hbit, b0, b1⟩ := op_i64 Tryd.underlying3 g1
    obtain ⟨p, hp⟩ := op_u32 Tryd.underlying23 g2
    injection hkey with hkey; injection hdv with hdv; injection hbit with hbit; injection hp with hp
    subst hkey hdv hbit hp
    have hd0 : d0 = .agg (xs.map (·.1)) := hd
    have q1 : Rows.uptoBulk y0.1 ≤ Rows.uptoBulkAll (xs.map (·.1)) := bulk_at (j := 0) (by rw [List.getElem?_map, hy0]; rfl)
    have q2 : Rows.uptoBulk z4.1 + Rows.uptoBulk z8.1 ≤ Rows.uptoBulkAll (ys.map (·.1)) := bulk_two (i := 4) (j := 8) (by omega) (by rw [List.getElem?_map, hz4]; rfl) (by rw [List.getElem?_map, hz8]; rfl)
    have q3 : Rows.uptoBulk z4.1 = key.data.toList.length + 1 := by rw [hz4']; simp [Rows.uptoBulk]
    rw [hd0] at hk
    rw [hdy] at q1
    simp only [Rows.uptoBulkAll, Rows.uptoBulk] at hk q1
    exact TopSum_walk c0 c1 c2 c3 c5 c6 c7 c8 c9 c13 c10 key lb bit p (by rw [toList_eq]; omega) b0 b1 W hB hT
  refine walk.mono fun e W' ⟨he, bel⟩ => ?_
  subst he
  exact ⟨_, rfl, _, _, _, [], _, [], hW', trodAll_mk1 (shut_bool Tryd.underlying4 _), (trodAll_cons_mk (Below.trod laidOut (by kernel_rfl) (of_decide_eq_true (by kernel_rfl)) k0 bel lt0) trodAll_mk0), rfl, bel.frame _, fun h => by cases h⟩

noncomputable def laidWorld (os : Os) : World :=
  { World.holding Tryd.prog os ⟨#[], #[], []⟩ with heap := ((World.holding Tryd.prog os ⟨#[], #[], []⟩).heap.modify 0 fun | .cells _ t frozen => .cells (Crc.tab.map W32).toArray t frozen | o => o) }
theorem laid_met (os : Os) : laidMet Tryd.prog Rows.topSumUptoRow.laid ((laidWorld os).forCall (fun _ _ => 0) ⟨#[], #[.agg #[.int .i64 0, .int .i64 0, .int .i64 0, .int .i64 0, .string ⟨#[]⟩, .int .i64 0, .int .i64 0, .int .i64 0, .int .i64 0, .bool false, .slice none 0 0, .int .i64 0, .int .u32 0, .int .i64 0]], []⟩).memory :=
  laidMet_of_run' 8 (by kernel_rfl) (by kernel_rfl)
theorem reads (os : Os) {H : Type} (enc : TypeId × Value → H) : ∃ places, DataW.whole enc Tryd.prog ((laidWorld os).forCall (fun _ _ => 0) ⟨#[], #[.agg #[.int .i64 0, .int .i64 0, .int .i64 0, .int .i64 0, .string ⟨#[]⟩, .int .i64 0, .int .i64 0, .int .i64 0, .int .i64 0, .bool false, .slice none 0 0, .int .i64 0, .int .u32 0, .int .i64 0]], []⟩).memory Tryd.f8.params.toList Rows.topSumSpec.vars false #[.agg #[.int .i64 0, .int .i64 0, .int .i64 0, .int .i64 0, .string ⟨#[]⟩, .int .i64 0, .int .i64 0, .int .i64 0, .int .i64 0, .bool false, .slice none 0 0, .int .i64 0, .int .u32 0, .int .i64 0]].toList 8 = some ([.agg [.agg [.lit (.int .i64 0), .lit (.int .i64 0), .lit (.int .i64 0), .lit (.int .i64 0), .lit (.string []), .agg [.lit (.int .i64 0), .lit (.int .i64 0)], .agg [.lit (.int .i64 0), .lit (.int .i64 0)], .lit (.bool false), .nil], .lit (.int .i64 0), .lit (.int .u32 0), .lit (.int .i64 0)]], [], places) :=
  ⟨[], by kernel_rfl⟩
set_option maxRecDepth 100000 in
theorem lifted (os : Os) (started : os.Started) (H : Type) (enc : TypeId × Value → H) (F : Stop.Interp) :
    ReturnsInHanded {} Tryd.checked os 8 .any ((Rows.OpenSpec.upto Rows.topSumSpec).preRow enc Tryd.prog Tryd.f8 Rows.topSumUptoRow.domain false Rows.topSumUptoRow.laid) (((Rows.OpenSpec.upto Rows.topSumSpec).at F).post enc Tryd.prog Tryd.f8 false true false false) := by
  obtain ⟨places, hx⟩ := reads os enc
  refine returnsInHanded_of_row (C := Tryd.checked) (s := (Rows.OpenSpec.upto Rows.topSumSpec)) own started (by kernel_rfl) Tryd.func8
    (witness_row_at (enc := enc) (C := Tryd.checked) false (laidWorld os) #[.agg #[.int .i64 0, .int .i64 0, .int .i64 0, .int .i64 0, .string ⟨#[]⟩, .int .i64 0, .int .i64 0, .int .i64 0, .int .i64 0, .bool false, .slice none 0 0, .int .i64 0, .int .u32 0, .int .i64 0]] rfl (by kernel_rfl) (by kernel_rfl) (by kernel_rfl)
      (OpenSpec.preRow_of_cond 8 hx (by kernel_rfl) (fun k hk => by cases hk; kernel_rfl) (by kernel_rfl) (laid_met os))) ?_
  intro W base args ds gs before hval hW _ hcond hsz hL _ _
  exact contract H enc W base args ds gs before hval hW (hcond _ rfl) hsz hL

theorem said : Rows.TopSumUptoSaid :=
  OpenClaim.holds_of_cond 8 Tryd.f8 rfl rfl rfl rfl rfl rfl rfl ⟨rfl, rfl, rfl, rfl, rfl⟩ rfl rfl rfl rfl rfl (by kernel_rfl) Tryd.func8 (by kernel_rfl)
    (of_decide_eq_true (by kernel_rfl)) (by unfold Func.isWrapper; first | (rw [if_pos (by decide +kernel)]; kernel_rfl) | (rw [if_neg (by decide +kernel)]; exact ⟨rfl, rfl⟩))
    (fun os started H enc _ F => by rw [OpenClaim.pre_eq_preRow]; exact lifted os started H enc F)

theorem plain (f : FuncId) (fn : Func) (hf : Tryd.pinned.checked.prog.funcNamed "sherd/sherdtop.TopSum" = some f) (hfn : Tryd.pinned.checked.prog.funcs[f]? = some fn) :
    false = Tryd.pinned.checked.prog.looks [] ∧ ∀ (j : Nat) t, fn.params[j]? = some t → Tryd.pinned.checked.prog.wantsStandIn t = false := by
  obtain rfl : f = 8 := Option.some.inj ((show Tryd.prog.funcNamed "sherd/sherdtop.TopSum" = some 8 by kernel_rfl).symm.trans hf) |>.symm
  obtain rfl : fn = Tryd.f8 := (Option.some.inj (Tryd.func8.symm.trans hfn)).symm
  refine ⟨by kernel_rfl, fun j t ht => ?_⟩
  rw [Tryd.params8] at ht
  have hm := Array.mem_of_getElem? ht
  have hall : (Tryd.f8.params.toList.all fun t => !Tryd.prog.wantsStandIn t) = true := by kernel_rfl
  rw [Tryd.params8] at hall
  have := (List.all_eq_true.1 hall) t (by simpa using hm)
  exact (by simpa using this : Tryd.prog.wantsStandIn t = false)

theorem card : Rows.TopSumUptoCardSaid :=
  Claim7.holds_tied_plain_at .later [] _ _ _ _ said (fun _ h => by cases h) (by kernel_rfl) (fun _ h => by cases h) topSumUpto_row_tie rfl ⟨rfl, rfl⟩ (by kernel_rfl) rfl plain (by kernel_rfl)
#print axioms card
end Go.Proofs.YthadfebboagabaaDoor.topSumU
namespace Go.Proofs.YthadfebboagabaaDoor
theorem topSum_upto_holds : Rows.TopSumUptoCardSaid := topSumU.card
end Go.Proofs.YthadfebboagabaaDoor
