/- The nil writer and the nil reader of the law PackReads. -/
import Derived.Test.YtamhlfhblgmhoaaPkU2
namespace Go.Proofs.Ytamhlfhblgmhoaa
open Go.RowKit
set_option maxRecDepth 100000 in
set_option maxHeartbeats 4000000 in
theorem nilUint (n : Nat) (hn : n ≤ 9223372036854775807) (w : World) : Calls Try.prog 10 #[.pointer none, .int .i64 n] w fun r w' => r = .returned (.tuple #[]) ∧ Below w.heap.size w w' := by
  go_enter Try.func10, Try.ntmps10
  go_wp2_with fail
  refine (form_any n hn w).mono ?_
  rintro e w1 ⟨A, c, rfl, ho, hb⟩
  have HB := hid hb
  clear ho hb
  go_wp2
  go_returns
  exact ⟨rfl, HB.out⟩
set_option maxRecDepth 100000 in
set_option maxHeartbeats 4000000 in
theorem nilBytes (A : Option Addr) (n c : Nat) (hn : n ≤ 9223372036854775807) (w : World) : Calls Try.prog 41 #[.pointer none, .slice A n c] w fun r w' => r = .returned (.tuple #[]) ∧ Below w.heap.size w w' := by
  go_enter Try.func41, Try.ntmps41
  go_wp2_with fail
  refine (nilUint n hn w).mono ?_
  rintro e w1 ⟨rfl, hb⟩
  have HB := hid hb
  clear hb
  go_wp2
  go_returns
  exact ⟨rfl, HB.out⟩
set_option maxRecDepth 100000 in
set_option maxHeartbeats 4000000 in
theorem nilText (s : ByteArray) (hs : s.toList.length ≤ 1000) (w : World) : Calls Try.prog 43 #[.pointer none, .string s] w fun r w' => r = .returned (.tuple #[]) ∧ Below w.heap.size w w' := by
  obtain ⟨c, w1, hrun, hs', hb⟩ := conv_bytes w s
  have HB := hid hb
  clear hs' hb
  go_enter Try.func43, Try.ntmps43
  go_wp2_with fail
  refine (nilBytes _ _ _ (by omega) w1).mono ?_
  rintro e w2 ⟨rfl, hb⟩
  have HB2 := hid (below_then HB.out hb)
  clear hb
  go_wp2
  go_returns
  exact ⟨rfl, HB2.out⟩
set_option maxHeartbeats 4000000 in
theorem stopped_nil (w : World) : Calls Try.prog 52 #[.pointer none] w fun r w' => r = .returned (.bool true) ∧ w' = w := by
  go_enter Try.func52, Try.ntmps52
  go_wp2
  go_ret
  exact ⟨rfl, rfl⟩
set_option maxRecDepth 100000 in
set_option maxHeartbeats 4000000 in
theorem nilEnd (w : World) : Calls Try.prog 21 #[.pointer none] w fun r w' => r = .returned (.tuple #[]) ∧ Below w.heap.size w w' := by
  go_enter Try.func21, Try.ntmps21
  go_wp2
  go_quiet (first | (go_at_call 52; exact Calls.quiet_of_same (stopped_nil _)))
  go_wp2
  go_returns
  exact ⟨rfl, below_drewN (Below.refl _ _) _⟩
set_option maxRecDepth 100000 in
set_option maxHeartbeats 8000000 in
theorem silent_any (w : World) : Calls Try.prog 28 #[] w fun r w' => r = .returned (.bool true) ∧ Below w.heap.size w w' := by
  have kc : ∀ W : World, (convert 28 9 (.slice none 0 0)).run Try.prog W = .ok (.string ⟨#[]⟩) W := fun W => conv_str (w := W) (l := []) (Sl.nil _ _)
  go_enter Try.func28, Try.ntmps28
  go_wp2_with (first | (go_at_call 41; refine (nilBytes _ _ _ (by omega) _).mono ?_; rintro e w1 ⟨rfl, hb1⟩; have HB1 := hid hb1; clear hb1) | (go_at_call 43; refine (nilText _ (by rw [toList_eq]; decide) _).mono ?_; rintro e w2 ⟨rfl, hb2⟩; have HB2 := hid hb2; clear hb2) | (go_at_call 21; refine (nilEnd _).mono ?_; rintro e w3 ⟨rfl, hb3⟩; have HB3 := hid hb3; clear hb3) | go_in)
  go_ret
  refine ⟨rfl, ?_⟩
  refine below_then ?_ HB3.out
  refine below_then ?_ HB2.out
  refine below_then ?_ HB1.out
  exact (((Below.refl _ _).alloc (Nat.le_refl _) _).alloc ((Below.refl _ _).alloc (Nat.le_refl _) _).size _).alloc (((Below.refl _ _).alloc (Nat.le_refl _) _).alloc ((Below.refl _ _).alloc (Nat.le_refl _) _).size _).size _
end Go.Proofs.Ytamhlfhblgmhoaa
