/- The walk of the law SumLong. -/
import Derived.Test.YthadfebboagabaaDoorSumW
namespace Go.Proofs.YthadfebboagabaaDoor
open Go.RowKit

theorem long_eq (a b : BitVec 32) : ((a.toNat : Int) == (b.toNat : Int)) = decide (a = b) := by
  rw [Bool.eq_iff_iff, beq_iff_eq, decide_eq_true_iff]
  exact ⟨fun h => BitVec.eq_of_toNat_eq (by omega), fun h => by rw [h]⟩
theorem long_ne (a b : BitVec 32) (h : a = b) : ((a.toNat : Int) != (b.toNat : Int)) = false := by
  subst h; simp

set_option maxHeartbeats 1000000 in
theorem SumLong_walk (pv : Value) (a b : BitVec 32) (n m : Int) (hn : n ≤ 9223372036854775807) (hm : m ≤ 9223372036854775807) (hn0 : -9223372036854775808 ≤ n) (hm0 : -9223372036854775808 ≤ m) (w : World) (hT : TabAt w) :
    Calls Tryd.prog 3 #[.agg #[pv, W32 a, W32 b, .int .i64 n, .int .i64 m]] w fun e w' => e = .returned (.bool true) ∧ Below w.heap.size w w' := by
  have HT := hid hT
  clear hT
  go_enter Tryd.func3, Tryd.ntmps3
  go_wp2
  go_quiet (fail)
  go_wp2_with fail
  refine Calls.seen (En w) (((En.refl HT.out).alloc _).drewN _) fun w1 E1 => ?_
  refine (Join_at 1#32 0#32 0x77073096#32 1 w1 E1.out.t (by decide) (by decide) rfl (by omega) (by decide)).mono ?_
  rintro e w2 ⟨rfl, hb⟩
  have E2 := hid (E1.out.next hb)
  clear hb E1
  by_cases hneg : n < 0
  · go_wp2_with fail
    refine (Join_neg a b n hneg w2).mono ?_
    rintro e w3 ⟨rfl, hb⟩
    have E3 := hid (E2.out.next hb)
    clear hb
    go_wp2
    go_ret
    exact ⟨rfl, E3.out.b⟩
  · obtain ⟨n, rfl⟩ := Int.eq_ofNat_of_zero_le (show 0 ≤ n by omega)
    go_wp2_with fail
    refine (Join_at a b (Crc.rounds Crc.Z n a ^^^ b) n w2 E2.out.t rfl rfl rfl (by omega) rfl).mono ?_
    rintro e w3 ⟨rfl, hb⟩
    have E3 := hid (E2.out.next hb)
    clear hb E2
    generalize hy : Crc.rounds Crc.Z n a = y
    have HY := hid hy
    clear hy
    go_wp2_with fail
    refine (Join_at a 0#32 y n w3 E3.out.t rfl (by decide) rfl (by omega) (by rw [HY.out]; simp)).mono ?_
    rintro e w4 ⟨rfl, hb⟩
    have E4 := hid (E3.out.next hb)
    clear hb E3
    go_wp2_with fail
    refine (Join_at a b (a ^^^ b) 0 w4 E4.out.t rfl rfl rfl (by omega) rfl).mono ?_
    rintro e w5 ⟨rfl, hb⟩
    have E5 := hid (E4.out.next hb)
    clear hb E4
    have x1 := xor32 y b
    have x2 := xor32 a b
    by_cases hm1 : m < 0
    · go_wp2
      go_ret
      exact ⟨rfl, E5.out.b⟩
    · by_cases hbig : 9223372036854775807 - m < (n : Int)
      · go_wp2
        go_ret
        exact ⟨rfl, E5.out.b⟩
      · obtain ⟨m, rfl⟩ := Int.eq_ofNat_of_zero_le (show 0 ≤ m by omega)
        go_wp2_with fail
        refine (Join_at y 0#32 (Crc.rounds Crc.Z (n + m) a) m w5 E5.out.t rfl (by decide) rfl (by omega) (by rw [← HY.out, ← Crc.rounds_add]; simp)).mono ?_
        rintro e w6 ⟨rfl, hb⟩
        have E6 := hid (E5.out.next hb)
        clear hb E5
        go_wp2_with fail
        refine (Join_at a 0#32 (Crc.rounds Crc.Z (n + m) a) (n + m) w6 E6.out.t rfl (by decide) (by push_cast; rfl) (by omega) (by simp)).mono ?_
        rintro e w7 ⟨rfl, hb⟩
        have E7 := hid (E6.out.next hb)
        clear hb E6
        go_wp2
        go_ret
        exact ⟨rfl, E7.out.b⟩
end Go.Proofs.YthadfebboagabaaDoor
