/- The walk of the law PackSizes. -/
import Derived.Test.YtamhlfhblgmhoaaPkW2
namespace Go.Proofs.Ytamhlfhblgmhoaa
open Go.RowKit
def sizeZ (n : Int) : Int := if n < 0 then 0 else ((Pk.form n.toNat).length : Int)
def serrZ (n : Int) : Int := if n < 0 then 33 else 0
theorem Size_z (n : Int) (n1 : n ≤ 9223372036854775807) (w : World) :
    Calls Try.prog 8 #[.int .i64 n] w fun e w' => e = .returned (.tuple #[.int .i64 (sizeZ n), .int .i64 (serrZ n)]) ∧ Below w.heap.size w w' := by
  rcases Int.lt_or_le n 0 with hn | hn
  · refine (Size_neg n hn w).mono ?_
    rintro e w' ⟨rfl, hb⟩
    exact ⟨by simp [sizeZ, serrZ, hn], hb⟩
  · obtain ⟨k, rfl⟩ := Int.eq_ofNat_of_zero_le hn
    refine (Size_any k (by omega) w).mono ?_
    rintro e w' ⟨rfl, hb⟩
    have e1 : sizeZ (k : Int) = ((Pk.form k).length : Int) := by unfold sizeZ; rw [if_neg (by omega)]; simp
    have e2 : serrZ (k : Int) = 0 := by unfold serrZ; rw [if_neg (by omega)]
    rw [e1, e2]
    exact ⟨rfl, hb⟩
set_option maxRecDepth 100000 in
set_option maxHeartbeats 2000000 in
theorem PackSizes_walk (a b : Int) (a1 : a ≤ 9223372036854775807) (b1 : b ≤ 9223372036854775807) (w : World) :
    Calls Try.prog 3 #[.int .i64 a, .int .i64 b] w fun e w' => e = .returned (.bool true) ∧ Below w.heap.size w w' := by
  rcases Int.lt_or_le a 0 with ha | ha
  · go_enter Try.func3, Try.ntmps3
    go_wp2_with fail
    refine (Size_neg a ha w).mono ?_
    rintro e w1 ⟨rfl, hb1⟩
    have HB1 := hid hb1
    clear hb1
    go_wp2_with fail
    refine (Size_z b b1 w1).mono ?_
    rintro e w2 ⟨rfl, hb2⟩
    have HB2 := hid (below_then HB1.out hb2)
    clear hb2
    go_wp2
    go_ret
    exact ⟨rfl, HB2.out⟩
  · obtain ⟨n, rfl⟩ := Int.eq_ofNat_of_zero_le ha
    have hn : n ≤ 9223372036854775807 := by omega
    have HM : Hid ((n : Int) ≤ b → serrZ b = 0 ∧ ((Pk.form n).length : Int) ≤ sizeZ b) := hid fun h => by
      obtain ⟨m, rfl⟩ := Int.eq_ofNat_of_zero_le (show 0 ≤ b by omega)
      refine ⟨by unfold serrZ; rw [if_neg (by omega)], ?_⟩
      unfold sizeZ
      rw [if_neg (by omega)]
      have := Pk.form_mono n m (by omega)
      simp; omega
    have H1 := Pk.form_lt n
    have H2 := Pk.form_ge n
    have H3 := Pk.form_pos n
    have H4 := Pk.form_nine n hn
    have HF : Hid (∀ (w : World), Calls Try.prog 8 #[.int .i64 n] w fun e w' => e = .returned (.tuple #[.int .i64 (Pk.form n).length, .int .i64 0]) ∧ Below w.heap.size w w') := hid fun w => Size_any n hn w
    obtain ⟨l, hl⟩ : ∃ l, l = Pk.form n := ⟨_, rfl⟩
    have HL := hid hl
    rw [← hl] at H1 H2 H3 H4 HM HF
    clear hl ha a1
    obtain ⟨K, hK⟩ : ∃ K, l.length = K := ⟨_, rfl⟩
    rw [hK] at H1 H2 H3 H4 HM HF
    obtain ⟨sb, hsb⟩ : ∃ s, sizeZ b = s := ⟨_, rfl⟩
    obtain ⟨eb, heb⟩ : ∃ s, serrZ b = s := ⟨_, rfl⟩
    have HS : Hid (∀ (w : World), Calls Try.prog 8 #[.int .i64 b] w fun e w' => e = .returned (.tuple #[.int .i64 sb, .int .i64 eb]) ∧ Below w.heap.size w w') := hid fun w => by rw [← hsb, ← heb]; exact Size_z b b1 w
    rw [hsb, heb] at HM
    clear hsb heb
    have hcase : K = 1 ∨ K = 2 ∨ K = 3 ∨ K = 4 ∨ K = 5 ∨ K = 6 ∨ K = 7 ∨ K = 8 ∨ K = 9 := by omega
    have HH1 := hid H1
    have HH2 := hid H2
    clear H1 H2
    go_enter Try.func3, Try.ntmps3
    go_wp2_with fail
    refine (HF.out w).mono ?_
    rintro e w1 ⟨rfl, hb1⟩
    have HB1 := hid hb1
    clear hb1
    go_wp2_with fail
    refine (HS.out w1).mono ?_
    rintro e w2 ⟨rfl, hb2⟩
    have HB2 := hid (below_then HB1.out hb2)
    clear hb2
    go_wp2_with fail
    refine (NewWriter_any w2).mono ?_
    rintro e w3 ⟨rfl, hw3, hb3, hs3⟩
    have HB3 := hid (below_then HB2.out hb3)
    have HW3 := hid hw3
    clear hb3 hs3 hw3
    go_wp2_with fail
    refine (Uint_any w2.heap.size 0 _ [] n hn w3 HW3.out (by simp)).mono ?_
    rintro e w4 ⟨rfl, v4, hw4, hf4, hp4⟩
    rw [← HL.out] at hw4
    have hw4' : WAt w4 w2.heap.size 0 v4 l := hw4
    have HW4 := hid hw4'
    have HB4 := hid (show Below w.heap.size w w4 from HB3.out.trans (hf4.to_below (fun k hk h => by
      rcases h with h | h
      · have := HB2.out.size; omega
      · simp [Value.ownBlock] at h) HB3.out.size))
    clear hw4 hw4' hf4 hp4
    go_wp2_with fail
    refine (Data_ok w2.heap.size v4 l w4 HW4.out (by omega)).mono ?_
    rintro e w5 ⟨A, c, rfl, _, hb5⟩
    rw [hK]
    have HB5 := hid (below_then HB4.out hb5)
    clear hb5 HF HS HW3 HW4 HL
    rcases Int.lt_or_le b n with hbn | hbn
    case' inl =>
      have q1 : ¬ (n : Int) ≤ b := by omega
      clear HM
    case' inr =>
      have q1 : (n : Int) ≤ b := hbn
      obtain ⟨q2, q3⟩ := HM.out hbn
      have q4 : ¬ (sb < (K : Int)) := by omega
      subst q2
      clear HM q3
    all_goals
      clear hbn
      have g1 := HH1.out
      have g2 := HH2.out
      clear HH1 HH2 hK
      rcases hcase with rfl | rfl | rfl | rfl | rfl | rfl | rfl | rfl | rfl
      all_goals
        simp at g1 g2
        go_wp2
        go_ret
        first | exact ⟨rfl, HB5.out⟩ | exact ⟨congrArg (fun b => Ending.returned (.bool b)) (decide_eq_true (by omega)), HB5.out⟩
end Go.Proofs.Ytamhlfhblgmhoaa
