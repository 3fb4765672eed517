/- One call on both fields; nil fields. -/
import Derived.Test.YtgfnfjnjlogpkaaGfP8
namespace Go.Proofs.Ytgfnfjnjlogpkaa
open Go.RowKit
theorem Add_u (a b : UInt8) (w : World) : Calls Try.prog 11 #[B a, B b] w fun e w' => e = .returned (B (a ^^^ b)) ∧ w' = w := Add_any a b w
set_option maxRecDepth 100000 in
set_option maxHeartbeats 2000000 in
theorem step_add (f g : Nat) (q a b : UInt8) (n : Int) (vl vm : Value) (w : World) (hf : FieldAt w f q) (hr : RF w g q) :
    Calls Try.prog 28 #[.pointer (some ⟨f, 0, none⟩), .pointer (some ⟨g, 0, none⟩), .agg #[.int .i64 1, B a, B b, .int .i64 n, vl, vm]] w fun e w' => e = .returned (.bool true) ∧ Below w.heap.size w w' := by
  have HG := hid hf.gen
  have HF0 := hid hf
  have HR0 := hid hr
  clear hf hr
  go_enter Try.func28, Try.ntmps28
  go_upto_region 1 with (fail)
  refine Code.seen (fun W1 => W1.heap[w.heap.size]? = some (.cells #[.int .i64 1, B a, B b, .int .i64 n, vl, vm] 57 (0, 0)) ∧ Below w.heap.size w W1) ⟨heap_alloc_new _ _, (Below.refl _ _).alloc (Nat.le_refl _) _⟩ fun w1 H1 => ?_
  obtain ⟨gx, hgx⟩ : ∃ gx, gx = w.heap.size := ⟨_, rfl⟩
  simp only [← hgx] at H1 ⊢
  have HX := hid H1.out.1
  have HB := hid (show Below w.heap.size w w1 by rw [← hgx]; exact H1.out.2)
  clear H1 hgx
  have HF := hid (HF0.out.below HB.out HF0.out.lt)
  have HR := hid (HR0.out.below HB.out)
  clear HF0 HR0
  obtain ⟨x1, x2, x4, x5⟩ := box_at HX.out (Below.refl w1.heap.size w1)
  have x0 : w1.cell? ⟨gx, 0, none⟩ = some (.int .i64 1) := by rw [blk_cell HX.out]; rfl
  have x3 : w1.cell? ⟨gx, 3, none⟩ = some (.int .i64 n) := by rw [blk_cell HX.out]; rfl
  go_wp2
  go_quiet ((first | (go_at_call 11; exact Calls.quiet_of_same (Add_any a b _)) | (go_at_call 35; exact Calls.quiet_of_same (rAdd_any a b _))))
  go_wp2
  go_ret
  exact ⟨rfl, below_drewN HB.out _⟩
set_option maxRecDepth 100000 in
set_option maxHeartbeats 2000000 in
theorem step_mul (f g : Nat) (q a b : UInt8) (n : Int) (vl vm : Value) (w : World) (hf : FieldAt w f q) (hr : RF w g q) :
    Calls Try.prog 28 #[.pointer (some ⟨f, 0, none⟩), .pointer (some ⟨g, 0, none⟩), .agg #[.int .i64 2, B a, B b, .int .i64 n, vl, vm]] w fun e w' => e = .returned (.bool true) ∧ Below w.heap.size w w' := by
  have HG := hid hf.gen
  have HF0 := hid hf
  have HR0 := hid hr
  clear hf hr
  go_enter Try.func28, Try.ntmps28
  go_upto_region 1 with (fail)
  refine Code.seen (fun W1 => W1.heap[w.heap.size]? = some (.cells #[.int .i64 2, B a, B b, .int .i64 n, vl, vm] 57 (0, 0)) ∧ Below w.heap.size w W1) ⟨heap_alloc_new _ _, (Below.refl _ _).alloc (Nat.le_refl _) _⟩ fun w1 H1 => ?_
  obtain ⟨gx, hgx⟩ : ∃ gx, gx = w.heap.size := ⟨_, rfl⟩
  simp only [← hgx] at H1 ⊢
  have HX := hid H1.out.1
  have HB := hid (show Below w.heap.size w w1 by rw [← hgx]; exact H1.out.2)
  clear H1 hgx
  have HF := hid (HF0.out.below HB.out HF0.out.lt)
  have HR := hid (HR0.out.below HB.out)
  clear HF0 HR0
  obtain ⟨x1, x2, x4, x5⟩ := box_at HX.out (Below.refl w1.heap.size w1)
  have x0 : w1.cell? ⟨gx, 0, none⟩ = some (.int .i64 2) := by rw [blk_cell HX.out]; rfl
  have x3 : w1.cell? ⟨gx, 3, none⟩ = some (.int .i64 n) := by rw [blk_cell HX.out]; rfl
  go_wp2
  go_quiet ((first | (go_at_call 13; exact Calls.quiet_of (Mul_any f q a b _ (HF.out.drewN _))) | (go_at_call 36; exact Calls.quiet_of_same (rMul_any g q a b _ (HR.out.drewN _)))))
  go_wp2
  go_ret
  exact ⟨rfl, below_drewN HB.out _⟩
set_option maxRecDepth 100000 in
set_option maxHeartbeats 2000000 in
theorem step_div (f g : Nat) (q a b : UInt8) (n : Int) (vl vm : Value) (w : World) (hf : FieldAt w f q) (hr : RF w g q) :
    Calls Try.prog 28 #[.pointer (some ⟨f, 0, none⟩), .pointer (some ⟨g, 0, none⟩), .agg #[.int .i64 3, B a, B b, .int .i64 n, vl, vm]] w fun e w' => e = .returned (.bool true) ∧ Below w.heap.size w w' := by
  have HG := hid hf.gen
  have HF0 := hid hf
  have HR0 := hid hr
  clear hf hr
  go_enter Try.func28, Try.ntmps28
  go_upto_region 1 with (fail)
  refine Code.seen (fun W1 => W1.heap[w.heap.size]? = some (.cells #[.int .i64 3, B a, B b, .int .i64 n, vl, vm] 57 (0, 0)) ∧ Below w.heap.size w W1) ⟨heap_alloc_new _ _, (Below.refl _ _).alloc (Nat.le_refl _) _⟩ fun w1 H1 => ?_
  obtain ⟨gx, hgx⟩ : ∃ gx, gx = w.heap.size := ⟨_, rfl⟩
  simp only [← hgx] at H1 ⊢
  have HX := hid H1.out.1
  have HB := hid (show Below w.heap.size w w1 by rw [← hgx]; exact H1.out.2)
  clear H1 hgx
  have HF := hid (HF0.out.below HB.out HF0.out.lt)
  have HR := hid (HR0.out.below HB.out)
  clear HF0 HR0
  obtain ⟨x1, x2, x4, x5⟩ := box_at HX.out (Below.refl w1.heap.size w1)
  have x0 : w1.cell? ⟨gx, 0, none⟩ = some (.int .i64 3) := by rw [blk_cell HX.out]; rfl
  have x3 : w1.cell? ⟨gx, 3, none⟩ = some (.int .i64 n) := by rw [blk_cell HX.out]; rfl
  go_wp2_with fail
  refine (Div_u f q a b _ HF.out).mono ?_
  rintro e w2 ⟨rfl, n2, rfl⟩
  go_wp2_with fail
  refine (rDiv_u g q a b _ HG.out (HR.out.drewN _)).mono ?_
  rintro e w3 ⟨rfl, rfl⟩
  go_wp2
  go_ret
  exact ⟨rfl, below_drewN HB.out _⟩
set_option maxRecDepth 100000 in
set_option maxHeartbeats 2000000 in
theorem step_inv (f g : Nat) (q a b : UInt8) (n : Int) (vl vm : Value) (w : World) (hf : FieldAt w f q) (hr : RF w g q) :
    Calls Try.prog 28 #[.pointer (some ⟨f, 0, none⟩), .pointer (some ⟨g, 0, none⟩), .agg #[.int .i64 4, B a, B b, .int .i64 n, vl, vm]] w fun e w' => e = .returned (.bool true) ∧ Below w.heap.size w w' := by
  have HG := hid hf.gen
  have HF0 := hid hf
  have HR0 := hid hr
  clear hf hr
  go_enter Try.func28, Try.ntmps28
  go_upto_region 1 with (fail)
  refine Code.seen (fun W1 => W1.heap[w.heap.size]? = some (.cells #[.int .i64 4, B a, B b, .int .i64 n, vl, vm] 57 (0, 0)) ∧ Below w.heap.size w W1) ⟨heap_alloc_new _ _, (Below.refl _ _).alloc (Nat.le_refl _) _⟩ fun w1 H1 => ?_
  obtain ⟨gx, hgx⟩ : ∃ gx, gx = w.heap.size := ⟨_, rfl⟩
  simp only [← hgx] at H1 ⊢
  have HX := hid H1.out.1
  have HB := hid (show Below w.heap.size w w1 by rw [← hgx]; exact H1.out.2)
  clear H1 hgx
  have HF := hid (HF0.out.below HB.out HF0.out.lt)
  have HR := hid (HR0.out.below HB.out)
  clear HF0 HR0
  obtain ⟨x1, x2, x4, x5⟩ := box_at HX.out (Below.refl w1.heap.size w1)
  have x0 : w1.cell? ⟨gx, 0, none⟩ = some (.int .i64 4) := by rw [blk_cell HX.out]; rfl
  have x3 : w1.cell? ⟨gx, 3, none⟩ = some (.int .i64 n) := by rw [blk_cell HX.out]; rfl
  go_wp2_with fail
  refine (Inv_u f q a _ HF.out).mono ?_
  rintro e w2 ⟨rfl, n2, rfl⟩
  go_wp2_with fail
  refine (rInv_u g q a _ HG.out (HR.out.drewN _)).mono ?_
  rintro e w3 ⟨rfl, rfl⟩
  go_wp2
  go_ret
  exact ⟨rfl, below_drewN HB.out _⟩
set_option maxRecDepth 100000 in
set_option maxHeartbeats 2000000 in
theorem step_pow (f g : Nat) (q a b : UInt8) (n : Int) (vl vm : Value) (w : World) (hf : FieldAt w f q) (hr : RF w g q) (h0 : -9223372036854775808 ≤ n) (h1 : n ≤ 9223372036854775807) :
    Calls Try.prog 28 #[.pointer (some ⟨f, 0, none⟩), .pointer (some ⟨g, 0, none⟩), .agg #[.int .i64 5, B a, B b, .int .i64 n, vl, vm]] w fun e w' => e = .returned (.bool true) ∧ Below w.heap.size w w' := by
  have HN : Hid (-9223372036854775808 ≤ n ∧ n ≤ 9223372036854775807) := hid ⟨h0, h1⟩
  clear h0 h1
  have HG := hid hf.gen
  have HF0 := hid hf
  have HR0 := hid hr
  clear hf hr
  go_enter Try.func28, Try.ntmps28
  go_upto_region 1 with (fail)
  refine Code.seen (fun W1 => W1.heap[w.heap.size]? = some (.cells #[.int .i64 5, B a, B b, .int .i64 n, vl, vm] 57 (0, 0)) ∧ Below w.heap.size w W1) ⟨heap_alloc_new _ _, (Below.refl _ _).alloc (Nat.le_refl _) _⟩ fun w1 H1 => ?_
  obtain ⟨gx, hgx⟩ : ∃ gx, gx = w.heap.size := ⟨_, rfl⟩
  simp only [← hgx] at H1 ⊢
  have HX := hid H1.out.1
  have HB := hid (show Below w.heap.size w w1 by rw [← hgx]; exact H1.out.2)
  clear H1 hgx
  have HF := hid (HF0.out.below HB.out HF0.out.lt)
  have HR := hid (HR0.out.below HB.out)
  clear HF0 HR0
  obtain ⟨x1, x2, x4, x5⟩ := box_at HX.out (Below.refl w1.heap.size w1)
  have x0 : w1.cell? ⟨gx, 0, none⟩ = some (.int .i64 5) := by rw [blk_cell HX.out]; rfl
  have x3 : w1.cell? ⟨gx, 3, none⟩ = some (.int .i64 n) := by rw [blk_cell HX.out]; rfl
  go_wp2_with fail
  refine (Pow_u f q a _ n HF.out HN.out.1 HN.out.2).mono ?_
  rintro e w2 ⟨rfl, n2, rfl⟩
  go_wp2_with fail
  refine (rPow_u g q a _ n HG.out (HR.out.drewN _) HN.out.1 HN.out.2).mono ?_
  rintro e w3 ⟨rfl, rfl⟩
  go_wp2
  go_ret
  exact ⟨rfl, below_drewN HB.out _⟩
set_option maxRecDepth 100000 in
set_option maxHeartbeats 2000000 in
theorem step_exp (f g : Nat) (q a b : UInt8) (n : Int) (vl vm : Value) (w : World) (hf : FieldAt w f q) (hr : RF w g q) (h0 : -9223372036854775808 ≤ n) (h1 : n ≤ 9223372036854775807) :
    Calls Try.prog 28 #[.pointer (some ⟨f, 0, none⟩), .pointer (some ⟨g, 0, none⟩), .agg #[.int .i64 6, B a, B b, .int .i64 n, vl, vm]] w fun e w' => e = .returned (.bool true) ∧ Below w.heap.size w w' := by
  have HN : Hid (-9223372036854775808 ≤ n ∧ n ≤ 9223372036854775807) := hid ⟨h0, h1⟩
  clear h0 h1
  have HG := hid hf.gen
  have HF0 := hid hf
  have HR0 := hid hr
  clear hf hr
  go_enter Try.func28, Try.ntmps28
  go_upto_region 1 with (fail)
  refine Code.seen (fun W1 => W1.heap[w.heap.size]? = some (.cells #[.int .i64 6, B a, B b, .int .i64 n, vl, vm] 57 (0, 0)) ∧ Below w.heap.size w W1) ⟨heap_alloc_new _ _, (Below.refl _ _).alloc (Nat.le_refl _) _⟩ fun w1 H1 => ?_
  obtain ⟨gx, hgx⟩ : ∃ gx, gx = w.heap.size := ⟨_, rfl⟩
  simp only [← hgx] at H1 ⊢
  have HX := hid H1.out.1
  have HB := hid (show Below w.heap.size w w1 by rw [← hgx]; exact H1.out.2)
  clear H1 hgx
  have HF := hid (HF0.out.below HB.out HF0.out.lt)
  have HR := hid (HR0.out.below HB.out)
  clear HF0 HR0
  obtain ⟨x1, x2, x4, x5⟩ := box_at HX.out (Below.refl w1.heap.size w1)
  have x0 : w1.cell? ⟨gx, 0, none⟩ = some (.int .i64 6) := by rw [blk_cell HX.out]; rfl
  have x3 : w1.cell? ⟨gx, 3, none⟩ = some (.int .i64 n) := by rw [blk_cell HX.out]; rfl
  go_wp2
  go_quiet ((first | (go_at_call 19; exact Calls.quiet_of (Exp_int f q n _ (HF.out.drewN _) HN.out.1 HN.out.2)) | (go_at_call 40; exact Calls.quiet_of_same (rExp_any g q n _ (HR.out.drewN _) HN.out.1 HN.out.2))))
  go_wp2
  go_ret
  exact ⟨rfl, below_drewN HB.out _⟩
set_option maxRecDepth 100000 in
set_option maxHeartbeats 2000000 in
theorem step_log (f g : Nat) (q a b : UInt8) (n : Int) (vl vm : Value) (w : World) (hf : FieldAt w f q) (hr : RF w g q) :
    Calls Try.prog 28 #[.pointer (some ⟨f, 0, none⟩), .pointer (some ⟨g, 0, none⟩), .agg #[.int .i64 7, B a, B b, .int .i64 n, vl, vm]] w fun e w' => e = .returned (.bool true) ∧ Below w.heap.size w w' := by
  have HG := hid hf.gen
  have HF0 := hid hf
  have HR0 := hid hr
  clear hf hr
  go_enter Try.func28, Try.ntmps28
  go_upto_region 1 with (fail)
  refine Code.seen (fun W1 => W1.heap[w.heap.size]? = some (.cells #[.int .i64 7, B a, B b, .int .i64 n, vl, vm] 57 (0, 0)) ∧ Below w.heap.size w W1) ⟨heap_alloc_new _ _, (Below.refl _ _).alloc (Nat.le_refl _) _⟩ fun w1 H1 => ?_
  obtain ⟨gx, hgx⟩ : ∃ gx, gx = w.heap.size := ⟨_, rfl⟩
  simp only [← hgx] at H1 ⊢
  have HX := hid H1.out.1
  have HB := hid (show Below w.heap.size w w1 by rw [← hgx]; exact H1.out.2)
  clear H1 hgx
  have HF := hid (HF0.out.below HB.out HF0.out.lt)
  have HR := hid (HR0.out.below HB.out)
  clear HF0 HR0
  obtain ⟨x1, x2, x4, x5⟩ := box_at HX.out (Below.refl w1.heap.size w1)
  have x0 : w1.cell? ⟨gx, 0, none⟩ = some (.int .i64 7) := by rw [blk_cell HX.out]; rfl
  have x3 : w1.cell? ⟨gx, 3, none⟩ = some (.int .i64 n) := by rw [blk_cell HX.out]; rfl
  go_wp2_with fail
  refine (Log_u f q a _ HF.out).mono ?_
  rintro e w2 ⟨rfl, rfl⟩
  go_wp2_with fail
  refine (rLog_u g q a _ HG.out HR.out).mono ?_
  rintro e w3 ⟨rfl, rfl⟩
  go_wp2
  go_ret
  exact ⟨rfl, HB.out⟩
theorem lists_any (kd : Int) (f g : Nat) (q a b : UInt8) (n : Int) (vl vm : Value) (L M : List UInt8) (w : World) (hf : FieldAt w f q) (hr : RF w g q) (hl : SlB w vl L) (hm : SlB w vm M) (hL : L.length + 2 ≤ 140737488355328) (hM : M.length + 2 ≤ 140737488355328) :
    Calls Try.prog 42 #[.pointer (some ⟨f, 0, none⟩), .pointer (some ⟨g, 0, none⟩), .agg #[.int .i64 kd, B a, B b, .int .i64 n, vl, vm]] w fun e w' => e = .returned (.bool true) ∧ Below w.heap.size w w' := by
  obtain ⟨A, cl, rfl⟩ := hl.form
  obtain ⟨A', cm, rfl⟩ := hm.form
  by_cases k8 : kd = 8
  · subst k8; exact lists_dot f g q a b n A A' cl cm L M w hf hr hl hm hL hM
  by_cases k9 : kd = 9
  · subst k9; exact lists_addmul f g q a b n A A' cl cm L M w hf hr hl hm hL hM
  exact lists_eval kd (by rw [beq_eq_false_iff_ne]; exact k8) (by rw [beq_eq_false_iff_ne]; exact k9) f g q a b n A A' cl cm L M w hf hr hl hm hL hM
set_option maxRecDepth 100000 in
set_option maxHeartbeats 2000000 in
theorem step_lists (kd : Int) (hk : kd = 8 ∨ kd = 9 ∨ kd = 10) (f g : Nat) (q a b : UInt8) (n : Int) (vl vm : Value) (L M : List UInt8) (w : World) (hf : FieldAt w f q) (hr : RF w g q) (hl : SlB w vl L) (hm : SlB w vm M) (hL : L.length + 2 ≤ 140737488355328) (hM : M.length + 2 ≤ 140737488355328) :
    Calls Try.prog 28 #[.pointer (some ⟨f, 0, none⟩), .pointer (some ⟨g, 0, none⟩), .agg #[.int .i64 kd, B a, B b, .int .i64 n, vl, vm]] w fun e w' => e = .returned (.bool true) ∧ Below w.heap.size w w' := by
  have HL := hid hl
  have HM := hid hm
  clear hl hm
  rcases hk with rfl | rfl | rfl
  case' inl => have HG := hid hf.gen
  have HF0 := hid hf
  have HR0 := hid hr
  clear hf hr
  go_enter Try.func28, Try.ntmps28
  go_upto_region 1 with (fail)
  refine Code.seen (fun W1 => W1.heap[w.heap.size]? = some (.cells #[.int .i64 8, B a, B b, .int .i64 n, vl, vm] 57 (0, 0)) ∧ Below w.heap.size w W1) ⟨heap_alloc_new _ _, (Below.refl _ _).alloc (Nat.le_refl _) _⟩ fun w1 H1 => ?_
  obtain ⟨gx, hgx⟩ : ∃ gx, gx = w.heap.size := ⟨_, rfl⟩
  simp only [← hgx] at H1 ⊢
  have HX := hid H1.out.1
  have HB := hid (show Below w.heap.size w w1 by rw [← hgx]; exact H1.out.2)
  clear H1 hgx
  have HF := hid (HF0.out.below HB.out HF0.out.lt)
  have HR := hid (HR0.out.below HB.out)
  clear HF0 HR0
  obtain ⟨x1, x2, x4, x5⟩ := box_at HX.out (Below.refl w1.heap.size w1)
  have x0 : w1.cell? ⟨gx, 0, none⟩ = some (.int .i64 8) := by rw [blk_cell HX.out]; rfl
  have x3 : w1.cell? ⟨gx, 3, none⟩ = some (.int .i64 n) := by rw [blk_cell HX.out]; rfl
  case' inr.inl => have HG := hid hf.gen
  have HF0 := hid hf
  have HR0 := hid hr
  clear hf hr
  go_enter Try.func28, Try.ntmps28
  go_upto_region 1 with (fail)
  refine Code.seen (fun W1 => W1.heap[w.heap.size]? = some (.cells #[.int .i64 9, B a, B b, .int .i64 n, vl, vm] 57 (0, 0)) ∧ Below w.heap.size w W1) ⟨heap_alloc_new _ _, (Below.refl _ _).alloc (Nat.le_refl _) _⟩ fun w1 H1 => ?_
  obtain ⟨gx, hgx⟩ : ∃ gx, gx = w.heap.size := ⟨_, rfl⟩
  simp only [← hgx] at H1 ⊢
  have HX := hid H1.out.1
  have HB := hid (show Below w.heap.size w w1 by rw [← hgx]; exact H1.out.2)
  clear H1 hgx
  have HF := hid (HF0.out.below HB.out HF0.out.lt)
  have HR := hid (HR0.out.below HB.out)
  clear HF0 HR0
  obtain ⟨x1, x2, x4, x5⟩ := box_at HX.out (Below.refl w1.heap.size w1)
  have x0 : w1.cell? ⟨gx, 0, none⟩ = some (.int .i64 9) := by rw [blk_cell HX.out]; rfl
  have x3 : w1.cell? ⟨gx, 3, none⟩ = some (.int .i64 n) := by rw [blk_cell HX.out]; rfl
  case' inr.inr => have HG := hid hf.gen
  have HF0 := hid hf
  have HR0 := hid hr
  clear hf hr
  go_enter Try.func28, Try.ntmps28
  go_upto_region 1 with (fail)
  refine Code.seen (fun W1 => W1.heap[w.heap.size]? = some (.cells #[.int .i64 10, B a, B b, .int .i64 n, vl, vm] 57 (0, 0)) ∧ Below w.heap.size w W1) ⟨heap_alloc_new _ _, (Below.refl _ _).alloc (Nat.le_refl _) _⟩ fun w1 H1 => ?_
  obtain ⟨gx, hgx⟩ : ∃ gx, gx = w.heap.size := ⟨_, rfl⟩
  simp only [← hgx] at H1 ⊢
  have HX := hid H1.out.1
  have HB := hid (show Below w.heap.size w w1 by rw [← hgx]; exact H1.out.2)
  clear H1 hgx
  have HF := hid (HF0.out.below HB.out HF0.out.lt)
  have HR := hid (HR0.out.below HB.out)
  clear HF0 HR0
  obtain ⟨x1, x2, x4, x5⟩ := box_at HX.out (Below.refl w1.heap.size w1)
  have x0 : w1.cell? ⟨gx, 0, none⟩ = some (.int .i64 10) := by rw [blk_cell HX.out]; rfl
  have x3 : w1.cell? ⟨gx, 3, none⟩ = some (.int .i64 n) := by rw [blk_cell HX.out]; rfl
  all_goals
    go_wp2_with fail
    refine (lists_any _ f g q a b n vl vm L M _ HF.out HR.out (HL.out.below HB.out) (HM.out.below HB.out) hL hM).mono ?_
    rintro e w2 ⟨rfl, hb⟩
    have HB2 := hid (below_then HB.out hb)
    clear hb
    go_wp2
    go_ret
    exact ⟨rfl, HB2.out⟩
set_option maxRecDepth 100000 in
set_option maxHeartbeats 2000000 in
theorem step_none (kd : Int) (k1 : (kd == 1) = false) (k2 : (kd == 2) = false) (k3 : (kd == 3) = false) (k4 : (kd == 4) = false) (k5 : (kd == 5) = false) (k6 : (kd == 6) = false) (k7 : (kd == 7) = false) (k8 : (kd == 8) = false) (k9 : (kd == 9) = false) (k10 : (kd == 10) = false)
    (f g : Nat) (q a b : UInt8) (n : Int) (vl vm : Value) (w : World) (hf : FieldAt w f q) (hr : RF w g q) :
    Calls Try.prog 28 #[.pointer (some ⟨f, 0, none⟩), .pointer (some ⟨g, 0, none⟩), .agg #[.int .i64 kd, B a, B b, .int .i64 n, vl, vm]] w fun e w' => e = .returned (.bool true) ∧ Below w.heap.size w w' := by
  have HG := hid hf.gen
  have HF0 := hid hf
  have HR0 := hid hr
  clear hf hr
  go_enter Try.func28, Try.ntmps28
  go_upto_region 1 with (fail)
  refine Code.seen (fun W1 => W1.heap[w.heap.size]? = some (.cells #[.int .i64 kd, B a, B b, .int .i64 n, vl, vm] 57 (0, 0)) ∧ Below w.heap.size w W1) ⟨heap_alloc_new _ _, (Below.refl _ _).alloc (Nat.le_refl _) _⟩ fun w1 H1 => ?_
  obtain ⟨gx, hgx⟩ : ∃ gx, gx = w.heap.size := ⟨_, rfl⟩
  simp only [← hgx] at H1 ⊢
  have HX := hid H1.out.1
  have HB := hid (show Below w.heap.size w w1 by rw [← hgx]; exact H1.out.2)
  clear H1 hgx
  have HF := hid (HF0.out.below HB.out HF0.out.lt)
  have HR := hid (HR0.out.below HB.out)
  clear HF0 HR0
  obtain ⟨x1, x2, x4, x5⟩ := box_at HX.out (Below.refl w1.heap.size w1)
  have x0 : w1.cell? ⟨gx, 0, none⟩ = some (.int .i64 kd) := by rw [blk_cell HX.out]; rfl
  have x3 : w1.cell? ⟨gx, 3, none⟩ = some (.int .i64 n) := by rw [blk_cell HX.out]; rfl
  go_wp2
  go_ret
  exact ⟨rfl, HB.out⟩
theorem step_any (kd : Int) (f g : Nat) (q a b : UInt8) (n : Int) (vl vm : Value) (L M : List UInt8) (w : World) (hf : FieldAt w f q) (hr : RF w g q) (h0 : -9223372036854775808 ≤ n) (h1 : n ≤ 9223372036854775807) (hl : SlB w vl L) (hm : SlB w vm M) (hL : L.length + 2 ≤ 140737488355328) (hM : M.length + 2 ≤ 140737488355328) :
    Calls Try.prog 28 #[.pointer (some ⟨f, 0, none⟩), .pointer (some ⟨g, 0, none⟩), .agg #[.int .i64 kd, B a, B b, .int .i64 n, vl, vm]] w fun e w' => e = .returned (.bool true) ∧ Below w.heap.size w w' := by
  by_cases q1 : kd = 1
  · subst q1; exact step_add f g q a b n vl vm w hf hr
  by_cases q2 : kd = 2
  · subst q2; exact step_mul f g q a b n vl vm w hf hr
  by_cases q3 : kd = 3
  · subst q3; exact step_div f g q a b n vl vm w hf hr
  by_cases q4 : kd = 4
  · subst q4; exact step_inv f g q a b n vl vm w hf hr
  by_cases q5 : kd = 5
  · subst q5; exact step_pow f g q a b n vl vm w hf hr h0 h1
  by_cases q6 : kd = 6
  · subst q6; exact step_exp f g q a b n vl vm w hf hr h0 h1
  by_cases q7 : kd = 7
  · subst q7; exact step_log f g q a b n vl vm w hf hr
  by_cases q8 : kd = 8 ∨ kd = 9 ∨ kd = 10
  · exact step_lists kd q8 f g q a b n vl vm L M w hf hr hl hm hL hM
  exact step_none kd (by rw [beq_eq_false_iff_ne]; exact q1) (by rw [beq_eq_false_iff_ne]; exact q2) (by rw [beq_eq_false_iff_ne]; exact q3) (by rw [beq_eq_false_iff_ne]; exact q4) (by rw [beq_eq_false_iff_ne]; exact q5) (by rw [beq_eq_false_iff_ne]; exact q6) (by rw [beq_eq_false_iff_ne]; exact q7) (by rw [beq_eq_false_iff_ne]; omega) (by rw [beq_eq_false_iff_ne]; omega) (by rw [beq_eq_false_iff_ne]; omega) f g q a b n vl vm w hf hr
end Go.Proofs.Ytgfnfjnjlogpkaa
