/- The walk of the law TopNames. -/
import Derived.Test.YtgfnfjnjlogpkaaGfN
namespace Go.Proofs.Ytgfnfjnjlogpkaa
open Go.RowKit
theorem errno_any (n : Int) (w : World) : Calls Try.prog 25 #[.int .i64 n] w fun e w' => e = .returned (.int .i64 n) ∧ w' = w := by
  go_enter Try.func25, Try.ntmps25
  go_wp2
  go_ret
  exact ⟨rfl, rfl⟩
theorem Inv_0 (g : Nat) (w : World) : Calls Try.prog 23 #[.pointer (some ⟨g, 0, none⟩), .int .u8 0] w fun e w' => e = .returned (.tuple #[.int .u8 0, .int .i64 10]) ∧ w' = w := Inv_zero g w
theorem not_gen_0 : ¬ Gf.Gen 0 := fun g => (g.1 8 (by decide) (by decide)).1 (by decide)
theorem New_256 (w : World) : Calls Try.prog 24 #[.int .i64 256] w fun e w' => e = .returned (.tuple #[.pointer none, .int .i64 11]) ∧ Below w.heap.size w w' := New_not 0 not_gen_0 w
set_option maxHeartbeats 1000000 in
theorem TopNames_walk (w : World) : Calls Try.prog 7 #[] w fun e w' => e = .returned (.bool true) ∧ Below w.heap.size w w' := by
  go_enter Try.func7, Try.ntmps7
  go_wp2_with fail
  refine (Std_any w).mono ?_
  rintro e w1 ⟨g, rfl, hg, hf, hb⟩
  have HF := hid hf
  have HB := hid hb
  clear hf hb hg
  go_wp2_with (go_at_call 23; refine Calls.mono (Inv_0 g _) ?_; rintro e w' ⟨rfl, rfl⟩)
  refine Calls.mono (New_256 _) ?_
  rintro e w2 ⟨rfl, hb⟩
  have HF2 := hid (HF.out.below hb HF.out.lt)
  have HB2 := hid (below_then HB.out hb)
  clear hb HF HB
  go_wp2_with (first
    | (go_at_call 25; refine Calls.mono (errno_any _ _) ?_; rintro e w' ⟨rfl, rfl⟩)
    | (go_at_call 16; refine Calls.mono (Poly_any g 0x1d _ HF2.out) ?_; rintro e w' ⟨rfl, rfl⟩))
  go_ret
  exact ⟨rfl, HB2.out⟩
end Go.Proofs.Ytgfnfjnjlogpkaa
