/- The helpers of the code laws: same, Row. -/
import Derived.Test.YtkklonldplekcaaLwC
import Derived.Test.YtkklonldplekcaaCdC
namespace Go.Proofs.Ytkklonldplekcaa
open Go.RowKit
set_option maxRecDepth 100000 in
set_option maxHeartbeats 2000000 in
theorem same_yes (w : World) (u v : Value) (M : List (List UInt8)) (hu : SlBB w u M) (hv : SlBB w v M) (hl : M.length ≤ 1099511627776) : Calls Try.prog 49 #[u, v] w fun e w' => e = .returned (.bool true) ∧ ∃ n, w' = w.drewN n := by
  obtain ⟨A, c, rfl⟩ := hu.form
  obtain ⟨A2, c2, rfl⟩ := hv.form
  have HU := hid hu
  have HV := hid hv
  have hb : ((M.length : Int) != (M.length : Int)) = false := by simp
  clear hu hv
  go_enter Try.func49, Try.ntmps49
  go_wp2
  go_loopw [5] (fun x wr => ∃ k n : Nat, k ≤ M.length ∧ x = .int .i64 k ∧ wr = w.drewN n) (fun x _ => M.length - (intOf x).toNat)
  case atStart => exact ⟨0, 0, Nat.zero_le _, rfl, rfl⟩
  case round =>
    obtain ⟨k, nn, hk, rfl, hw⟩ := hrel
    have HW := hid hw
    have hb1 : Below w.heap.size w wr := by rw [hw]; exact below_drewN (Below.refl _ _) nn
    by_cases hlt : k < M.length
    · obtain ⟨R, o, v1, rfl, c0, s0⟩ := (HU.out.below hb1).at_ k hlt
      obtain ⟨R2, o2, v2, rfl, d0, t0⟩ := (HV.out.below hb1).at_ k hlt
      obtain ⟨L, hL⟩ : ∃ L, M.getD k [] = L := ⟨_, rfl⟩
      rw [hL] at s0 t0
      obtain ⟨A3, c3, rfl⟩ := s0.form
      obtain ⟨A4, c4, rfl⟩ := t0.form
      have k1 : ∀ n, _ := fun n => conv_str (s0.drewN n)
      have k2 : ∀ n, _ := fun n => conv_str (t0.drewN n)
      have i0 : (0 : Int) ≤ (k : Int) := by omega
      have i1 : (k : Int) < (M.length : Int) := by omega
      clear s0 t0 hb1 hw hL
      go_wp2
      go_quiet (fail)
      have HW2 : Hid (∃ n, wr.drewN nq = w.drewN n) := hid ⟨nn + nq, by rw [HW.out]; exact World.drewN_drewN w nn nq⟩
      clear c0 d0 k1 k2
      go_wp2
      go_roundw
      case rel => exact ⟨k + 1, HW2.out.choose, by omega, by go_num, HW2.out.choose_spec⟩
      case measure => simp [intOf]; omega
    · clear hb1 hw
      go_wp2
      go_ret
      exact ⟨rfl, nn, HW.out⟩
set_option maxRecDepth 100000 in
set_option maxHeartbeats 4000000 in
theorem Row_any (w : World) (c n k : Nat) (G : List (List UInt8)) (h : CodeAt w c n k G) (v : Value) (D : List (List UInt8)) (hv : SlBB w v D) (s : Nat) (hs : ∀ i, i < D.length → (D.getD i []).length = s) (hD : D.length = k) (hs2 : s ≤ 140737488355328) (i : Nat) (hi : i < n) :
    Calls Try.prog 53 #[.pointer (some ⟨c, 0, none⟩), v, .int .i64 i] w fun e w' => ∃ y, e = .returned (.tuple #[y, .int .i64 0]) ∧ OwnB w' w.heap.size y (comb (G.getD i []) D s) ∧ Below w.heap.size w w' := by
  have H := hid h
  have HV := hid hv
  have HS := hid hs
  have HDL := hid hD
  have hk1 := h.k1
  have hkn := h.kn
  have hn := h.n255
  obtain ⟨fg, R, o, cp, hfd, _, c1, _, c3, hrow⟩ := h.cells
  obtain ⟨A1, q1, e0, s1⟩ := hrow i hi
  have HC := hid (And.intro c3 e0)
  have HS1 := hid s1
  obtain ⟨Av, cv, e1⟩ := hv.form
  rw [hD] at e1
  subst e1
  have i0 : ¬ (i : Int) < 0 := by omega
  have i1 : ¬ (n : Int) ≤ (i : Int) := by omega
  have i2 : (0 : Int) ≤ (i : Int) := by omega
  have i3 : (i : Int) < (n : Int) := by omega
  clear h hv hs hD hfd hrow s1 c3 e0
  go_enter Try.func53, Try.ntmps53
  go_wp2_with fail
  refine (shaped_yes w c n k G H.out _ D HV.out s HS.out HDL.out).mono ?_
  rintro e w1 ⟨rfl, hb⟩
  have HB1 := hid hb
  have c3 : w1.cell? ⟨c, 3, none⟩ = some (.slice (some ⟨R, o, none⟩) n cp) := (hb.cell (World.block_lt_of_cell? w _ HC.out.1)).trans HC.out.1
  have e1 : w1.cell? ⟨R, o + i, none⟩ = some (.slice A1 k q1) := (hb.cell (World.block_lt_of_cell? w _ HC.out.2)).trans HC.out.2
  have CS := hid (sum_any w1 c n k G (H.out.below hb) (.slice A1 k q1) (G.getD i []) (HS1.out.below hb) (.slice Av k cv) D (HV.out.below hb) s HS.out (by have := HDL.out; omega) (by rw [HDL.out, H.out.row i hi]; exact Nat.le_refl _) (by rw [H.out.row i hi]; omega) hs2)
  clear hb c1
  go_wp2_with fail
  refine CS.out.mono ?_
  rintro e w2 ⟨y, rfl, hy, hb⟩
  have HY := hid (own_base hy HB1.out.size)
  have HB2 := hid (below_then HB1.out hb)
  obtain ⟨Ay, cy, rfl⟩ := hy.form
  clear hy hb c3 e1 CS
  go_wp2
  go_ret2
  exact ⟨_, rfl, HY.out, HB2.out⟩
end Go.Proofs.Ytkklonldplekcaa
