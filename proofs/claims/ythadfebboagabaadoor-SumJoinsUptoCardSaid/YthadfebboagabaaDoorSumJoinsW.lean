/- The walk of the law SumJoins. -/
import Derived.Test.YthadfebboagabaaDoorSumB
import Derived.Lib.SlBytesConst
namespace Go.Proofs.YthadfebboagabaaDoor
open Go.RowKit

theorem and1023 (z : Int) : ∃ n : Nat, bits .and .i64 z 1023 = (n : Int) ∧ n ≤ 1023 := by
  simp only [bits, IntKind.wrap_i64]
  have : (BitVec.ofInt (IntKind.i64.bits) z &&& BitVec.ofInt (IntKind.i64.bits) 1023).toNat ≤ 1023 := by
    rw [BitVec.toNat_and]; exact Nat.and_le_right
  exact ⟨_, by omega, this⟩
theorem check9 : Crc.sumOf [49, 50, 51, 52, 53, 54, 55, 56, 57] = 3421780262#32 := by decide +kernel
theorem join2 (x y : List UInt8) : Crc.sumOf [x, y].flatten = Crc.sumOf (x ++ y) := by simp
theorem join3 (x y : List UInt8) : Crc.sumOf [x, [], y].flatten = Crc.sumOf (x ++ y) := by simp

set_option maxHeartbeats 4000000 in
theorem SumJoins_walk (vx vy : Value) (lx ly : List UInt8) (z : Int) (hl : lx.length + ly.length ≤ 140737488355328) (w : World) (hx : SlB w vx lx) (hy : SlB w vy ly) (hT : TabAt w) :
    Calls Tryd.prog 6 #[vx, vy, .int .i64 z] w fun e w' => e = .returned (.bool true) ∧ Below w.heap.size w w' := by
  have R0 : Hid (Rs w w [(vx, lx), (vy, ly)]) := ⟨En.refl hT, fun p hp => by
    rcases List.mem_cons.1 hp with rfl | hp
    · exact ⟨hx, by show lx.length ≤ _; omega⟩
    · obtain rfl : p = (vy, ly) := (by simpa using hp)
      exact ⟨hy, by show ly.length ≤ _; omega⟩⟩
  obtain ⟨A, c, rfl⟩ : ∃ A c, vx = .slice A lx.length c := by obtain ⟨A, c, rfl, _⟩ := hx; exact ⟨A, c, rfl⟩
  obtain ⟨A1, c1, rfl⟩ : ∃ A c, vy = .slice A ly.length c := by obtain ⟨A, c, rfl, _⟩ := hy; exact ⟨A, c, rfl⟩
  clear hT hx hy
  have kc := fun (w : World) (C : Array Value) (n c : Nat) => Lib.run_convert_bytes_const (P := Tryd.prog) w 33 5 C n c Tryd.underlying33 Tryd.underlying5
  go_enter Tryd.func6, Tryd.ntmps6
  go_wp2_with fail
  refine Calls.mono (Of_lits (rs := [(.slice (some ⟨w.heap.size, 0, none⟩) 9 9, [49, 50, 51, 52, 53, 54, 55, 56, 57]), (.slice A lx.length c, lx), (.slice A1 ly.length c1, ly)]) ((R0.out.alloc _).cons (lit_sl w [49, 50, 51, 52, 53, 54, 55, 56, 57] (by decide)) (by decide)) [(.slice (some ⟨w.heap.size, 0, none⟩) 9 9, [49, 50, 51, 52, 53, 54, 55, 56, 57])] 3421780262#32 (by simpa using check9) (by simp) (by simp) (by simp) rfl) ?_
  rintro e w1 ⟨rfl, h1⟩
  have R1 := hid h1
  clear h1
  go_wp2_with (first
    | (at_builtin; refine wpList_appB rfl (.tmp 20) (.tmp 21) rfl w.heap.size _ _ [] lx rfl rfl (OwnB.nil _ _) (R1.out.s (.slice A lx.length c, lx) (by simp)).1 (by simp; omega) R1.out.e.b.size ?_; intro v2 w2 ho2 hg2; have hb2 := OwnB.grown (Below.refl w1.heap.size w1) (OwnB.nil w1 w1.heap.size) (Nat.le_refl _) (Nat.le_refl _) hg2; have R2 := hid (R1.out.next hb2); clear hb2 hg2 R1)
    | (at_builtin; refine wpList_appB rfl (.tmp 23) (.tmp 24) rfl w.heap.size _ _ ([] ++ lx) ly rfl rfl ho2 (R2.out.s (.slice A1 ly.length c1, ly) (by simp)).1 (by simp; omega) R2.out.e.b.size ?_; intro v3 w3 ho3 hg3; obtain ⟨lb, hlb⟩ : ∃ lb, lb = [] ++ lx ++ ly := ⟨_, rfl⟩; rw [← hlb] at ho3; have HLB := hid hlb; have hlen : lb.length ≤ 140737488355328 := (by rw [hlb]; simp; omega); clear hlb; obtain ⟨A3, c3, rfl⟩ := ho3.form; have R3 := hid ((R0.out.next (OwnB.grown R2.out.e.b ho2 (Nat.le_refl _) R2.out.e.b.size hg3)).cons ho3.sl (by omega)); clear hg3 ho2 ho3 R2 R0)
    | fail)
  obtain ⟨s, hs⟩ : ∃ s, s = Crc.sumOf lb := ⟨_, rfl⟩
  have HS := hid hs
  have HS2 : Hid (s = Crc.sumOf (lx ++ ly)) := by show _ = _; rw [hs, HLB.out]; rfl
  clear hs
  refine Calls.mono (Of_lits R3.out [(.slice A lx.length c, lx), (.slice A1 ly.length c1, ly)] s (by rw [HS2.out]; simp) (by simp) (by simp) rfl rfl) ?_
  rintro e w4 ⟨rfl, h4⟩
  have R4 := hid h4
  clear h4 R3
  go_wp2_with fail
  refine Calls.mono (Of_lits R4.out [(.slice A3 lb.length c3, lb)] s (by rw [HS.out]; simp) (by simp) (by simp) rfl rfl) ?_
  rintro e w5 ⟨rfl, h5⟩
  have R5 := hid h5
  clear h5 R4
  go_wp2_with fail
  refine Calls.mono (Of_lits R5.out [(.slice A lx.length c, lx), (.slice none 0 0, []), (.slice A1 ly.length c1, ly)] s (by rw [HS2.out]; simp) (by simp) (by simp) rfl rfl) ?_
  rintro e w6 ⟨rfl, h6⟩
  have R6 := hid h6
  clear h6 R5
  go_wp2_with fail
  refine Calls.mono (Of_lits R6.out [(.slice A3 lb.length c3, lb)] s (by rw [HS.out]; simp) (by simp) (by simp) rfl rfl) ?_
  rintro e w7 ⟨rfl, h7⟩
  have R7 := hid h7
  clear h7 R6
  obtain ⟨a, ha⟩ : ∃ a, a = Crc.sumOf lx := ⟨_, rfl⟩
  obtain ⟨b, hb⟩ : ∃ b, b = Crc.sumOf ly := ⟨_, rfl⟩
  have HA := hid ha
  have HB := hid hb
  clear ha hb
  go_wp2_with fail
  refine Calls.mono (Of_lits R7.out [(.slice A lx.length c, lx)] a (by rw [HA.out]; simp) (by simp) (by simp) rfl rfl) ?_
  rintro e w8 ⟨rfl, h8⟩
  have R8 := hid h8
  clear h8 R7
  go_wp2_with fail
  refine Calls.mono (Of_lits R8.out [(.slice A1 ly.length c1, ly)] b (by rw [HB.out]; simp) (by simp) (by simp) rfl rfl) ?_
  rintro e w9 ⟨rfl, h9⟩
  have R9 := hid h9
  clear h9 R8
  go_wp2_with fail
  refine Calls.mono (Join_at a b s ly.length w9 R9.out.e.t rfl rfl rfl (by omega) (by rw [HA.out, HB.out, HS2.out]; exact Crc.join_sums lx ly)) ?_
  rintro e w10 ⟨rfl, hb⟩
  have R10 := hid (R9.out.next hb)
  clear hb R9
  go_wp2_with fail
  refine Calls.mono (Of_lits R10.out [(.slice A3 lb.length c3, lb)] s (by rw [HS.out]; simp) (by simp) (by simp) rfl rfl) ?_
  rintro e w11 ⟨rfl, h11⟩
  have R11 := hid h11
  clear h11 R10
  obtain ⟨n, hn, hn1⟩ := and1023 z
  obtain ⟨w12, hmk, hown, hbel⟩ := make_bytes w11 n (by omega)
  have R12 := hid ((R11.out.next hbel).cons hown.sl (by simp; omega))
  clear hown hbel R11
  obtain ⟨gz, hgz⟩ : ∃ g, g = Crc.sumOf (List.replicate n 0) := ⟨_, rfl⟩
  have HG := hid hgz
  clear hgz
  go_wp2_with fail
  refine Calls.mono (Of_lits R12.out [(.slice A lx.length c, lx)] a (by rw [HA.out]; simp) (by simp) (by simp) rfl rfl) ?_
  rintro e w13 ⟨rfl, h13⟩
  have R13 := hid h13
  clear h13 R12
  go_wp2_with fail
  refine Calls.mono (Of_lits R13.out [(.slice (some ⟨w11.heap.size, 0, none⟩) n n, List.replicate n 0)] gz (by rw [HG.out]; simp) (by simp) (by simp) rfl rfl) ?_
  rintro e w14 ⟨rfl, h14⟩
  have R14 := hid h14
  clear h14 R13
  go_wp2_with fail
  refine Calls.mono (Join_at a gz (Crc.sumOf (lx ++ List.replicate n 0)) n w14 R14.out.e.t rfl rfl rfl (by omega) (by rw [HA.out, HG.out, ← Crc.join_sums, List.length_replicate])) ?_
  rintro e w15 ⟨rfl, hb⟩
  have R15 := hid (R14.out.next hb)
  clear hb R14
  generalize hc : Crc.sumOf (lx ++ List.replicate n 0) = d
  have HC := hid hc
  clear hc
  go_wp2_with fail
  refine Calls.mono (Of_lits R15.out [(.slice A1 ly.length c1, ly)] b (by rw [HB.out]; simp) (by simp) (by simp) rfl rfl) ?_
  rintro e w16 ⟨rfl, h16⟩
  have R16 := hid h16
  clear h16 R15
  obtain ⟨f, hf⟩ : ∃ f, f = Crc.sumOf (lx ++ (List.replicate n 0 ++ ly)) := ⟨_, rfl⟩
  have HF := hid hf
  clear hf
  go_wp2_with fail
  refine Calls.mono (Join_at d b f ly.length w16 R16.out.e.t rfl rfl rfl (by omega) (by rw [← HC.out, HB.out, HF.out, ← List.append_assoc]; exact Crc.join_sums _ ly)) ?_
  rintro e w17 ⟨rfl, hb⟩
  have R17 := hid (R16.out.next hb)
  clear hb R16
  go_wp2_with fail
  refine Calls.mono (Of_lits R17.out [(.slice A lx.length c, lx), (.slice (some ⟨w11.heap.size, 0, none⟩) n n, List.replicate n 0), (.slice A1 ly.length c1, ly)] f (by rw [HF.out]; simp) (by simp) (by simp) rfl rfl) ?_
  rintro e w18 ⟨rfl, h18⟩
  have R18 := hid h18
  clear h18 R17
  go_wp2
  go_ret
  exact ⟨rfl, R18.out.e.b⟩
end Go.Proofs.YthadfebboagabaaDoor
