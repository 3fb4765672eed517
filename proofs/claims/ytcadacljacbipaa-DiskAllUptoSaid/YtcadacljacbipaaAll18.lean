/- The law's told: both disks tell the same. -/
import Derived.Test.YtcadacljacbipaaAll12
import Derived.Test.YtcadacljacbipaaAll8
import Derived.Test.YtcadacljacbipaaAll17
import Derived.StillTailTactics
import Derived.Deep.QuietTactic
import Derived.BigQuiet
namespace Go.Proofs.Ytcadacljacbipaa
open Go.RowKit
theorem drewN_below (w : World) (n : Nat) : Below w.heap.size w (w.drewN n) := below_drewN (Below.refl _ _) n
/-- a pair's two pointers and a call's word, boxed -/
def BX (w W : World) (d r : Nat) (kd sl : Int) : Prop := Below w.heap.size w W ∧ W.cell? ⟨w.heap.size, 0, none⟩ = some (.pointer (some ⟨d, 0, none⟩)) ∧ W.cell? ⟨w.heap.size, 1, none⟩ = some (.pointer (some ⟨r, 0, none⟩)) ∧ W.cell? ⟨w.heap.size + 1, 0, none⟩ = some (.int .i64 kd) ∧ W.cell? ⟨w.heap.size + 1, 2, none⟩ = some (.int .i64 sl)
theorem BX.below {w W W' : World} {d r : Nat} {kd sl : Int} (h : BX w W d r kd sl) (hb : Below W.heap.size W W') : BX w W' d r kd sl := by
  obtain ⟨h1, h2, h3, h4, h5⟩ := h
  exact ⟨h1.trans (hb.mono h1.size), (hb.cell (World.block_lt_of_cell? W _ h2)).trans h2, (hb.cell (World.block_lt_of_cell? W _ h3)).trans h3, (hb.cell (World.block_lt_of_cell? W _ h4)).trans h4, (hb.cell (World.block_lt_of_cell? W _ h5)).trans h5⟩
theorem BX.start (w : World) (d r : Nat) (kd dn sl : Int) (rest : List Value) : BX w ((w.alloc (.cells #[.pointer (some ⟨d, 0, none⟩), .pointer (some ⟨r, 0, none⟩)] 59 (0, 0))).alloc (.cells (.int .i64 kd :: .int .i64 dn :: .int .i64 sl :: rest).toArray 51 (0, 0))) d r kd sl := by
  obtain ⟨h1, h2, h3⟩ := two_new w (.cells #[.pointer (some ⟨d, 0, none⟩), .pointer (some ⟨r, 0, none⟩)] 59 (0, 0)) (.cells (.int .i64 kd :: .int .i64 dn :: .int .i64 sl :: rest).toArray 51 (0, 0))
  exact ⟨h1, by rw [blk_cell h2]; rfl, by rw [blk_cell h2]; rfl, by rw [blk_cell h3]; rfl, by rw [blk_cell h3]; rfl⟩
section
variable (w : World) (S S' : Nat → Prop) (d r : Nat) (D : Dk) (sl dn n : Int) (v x y z : Value) (bb : Bool) (h : DAt w S d D) (hr : RAt w S' r D) (hroom : D.s0.room + D.s1.room ≤ 140737488000000) (hp : D.pending ≤ 1099511627776)
include h hr hroom hp
set_option maxRecDepth 100000 in
set_option maxHeartbeats 4000000 in
theorem told_read :
    Calls Try.prog 33 #[.agg #[.pointer (some ⟨d, 0, none⟩), .pointer (some ⟨r, 0, none⟩)], .agg #[.int .i64 5, .int .i64 dn, .int .i64 sl, v, .int .i64 n, .bool bb, x, y, z]] w fun e w' => e = .returned (.bool true) ∧ Below w.heap.size w w' := by
  have H := hid h
  have HR := hid hr
  clear h hr
  have HL : Hid ((D.readB sl).length ≤ 140737488000000) := hid (by
    have h0 := D.s0.now_le
    have h1 := D.s1.now_le
    unfold Dk.readB
    split
    · simp
    · split
      · omega
      · split
        · omega
        · simp)
  go_enter Try.func33, Try.ntmps33
  go_upto_region 1 with (fail)
  refine Code.seen (fun W => BX w W d r 5 sl) (BX.start w d r 5 dn sl _) fun w1 H1 => ?_
  obtain ⟨hb1, x0, x1, y0, y2⟩ := H1.out
  have HB1 := hid hb1
  clear hb1
  go_wp2_with fail
  refine (Read_any w1 S d D sl (H.out.below HB1.out) (by omega)).mono ?_
  rintro e w2 ⟨v2, rfl, ho2, hb2⟩
  obtain ⟨A2, c2, rfl⟩ := ho2.form
  have HO2 := hid ho2
  have HX2 := hid (H1.out.below hb2)
  have HB2 := hid hb2
  obtain ⟨re, hre⟩ : ∃ re, D.readE sl = re := ⟨_, rfl⟩
  have HRE := hid hre
  rw [hre]
  clear ho2 hb2 x0 x1 y0 y2 hre
  obtain ⟨_, x0, x1, y0, y2⟩ := HX2.out
  go_wp2_with fail
  refine (rRead_any w2 S' r D sl (HR.out.below HX2.out.1) (by omega) hp).mono ?_
  rintro e w3 ⟨v3, rfl, ho3, hb3⟩
  rw [HRE.out]
  obtain ⟨l, hl⟩ : ∃ l, D.readB sl = l := ⟨_, rfl⟩
  rw [hl] at ho3 HO2 HL ⊢
  obtain ⟨A3, c3, rfl⟩ := ho3.form
  have hs2 := conv_str (HO2.out.sl.below hb3)
  have hs3 := conv_str ho3.sl
  have HO3 := hid (HO2.out.below hb3)
  have HB3 := hid (HX2.out.1.trans (hb3.mono HX2.out.1.size))
  have HS : Hid (w.heap.size ≤ w1.heap.size ∧ w1.heap.size ≤ w2.heap.size ∧ w2.heap.size ≤ w3.heap.size) := hid ⟨HB1.out.size, HB2.out.size, hb3.size⟩
  clear ho3 hb3 x0 x1 y0 y2 hl
  go_wp2_with fail
  refine (alone_any _ (.slice none 0 0) l [] w3 w1.heap.size HO3.out (OwnB.nil _ _) (fun j _ e => by cases e) (Nat.le_trans HS.out.2.1 HS.out.2.2) HL.out (by simp)).mono ?_
  rintro e w4 ⟨rfl, hb4⟩
  have HB4 := hid (HB3.out.trans (hb4.mono HS.out.1))
  clear hb4 hs2 hs3
  go_wp2
  go_ret
  exact ⟨rfl, HB4.out⟩
set_option maxRecDepth 100000 in
set_option maxHeartbeats 4000000 in
theorem told_slots :
    Calls Try.prog 33 #[.agg #[.pointer (some ⟨d, 0, none⟩), .pointer (some ⟨r, 0, none⟩)], .agg #[.int .i64 6, .int .i64 dn, .int .i64 sl, v, .int .i64 n, .bool bb, x, y, z]] w fun e w' => e = .returned (.bool true) ∧ Below w.heap.size w w' := by
  have H := hid h
  have HR := hid hr
  clear h hr
  have HL : Hid (D.told0.length ≤ 140737488000000 ∧ D.told1.length ≤ 140737488000000) := hid (by
    have h0 := D.s0.now_le
    have h1 := D.s1.now_le
    unfold Dk.told0 Dk.told1
    refine ⟨?_, ?_⟩
    all_goals
      split
      · simp
      · omega)
  go_enter Try.func33, Try.ntmps33
  go_upto_region 1 with (fail)
  refine Code.seen (fun W => BX w W d r 6 sl) (BX.start w d r 6 dn sl _) fun w1 H1 => ?_
  obtain ⟨hb1, x0, x1, y0, y2⟩ := H1.out
  have HB1 := hid hb1
  clear hb1
  go_wp2_with fail
  refine (Slots_any w1 S d D (H.out.below HB1.out) (by omega)).mono ?_
  rintro e w2 ⟨v0, v1, rfl, ho0, ho1, hdis, hb2⟩
  obtain ⟨t0, ht0⟩ : ∃ l, D.told0 = l := ⟨_, rfl⟩
  obtain ⟨t1, ht1⟩ : ∃ l, D.told1 = l := ⟨_, rfl⟩
  obtain ⟨cu, hcu⟩ : ∃ n, D.curN = n := ⟨_, rfl⟩
  have HT0 := hid ht0
  have HT1 := hid ht1
  have HCU := hid hcu
  rw [ht0] at ho0 HL
  rw [ht1] at ho1 HL
  rw [hcu]
  clear ht0 ht1 hcu
  obtain ⟨A0, p0, rfl⟩ := ho0.form
  obtain ⟨A1, p1, rfl⟩ := ho1.form
  have O0 := hid ho0
  have O1 := hid ho1
  have HDIS := hid hdis
  have HX2 := hid (H1.out.below hb2)
  have HS2 : Hid (w.heap.size ≤ w1.heap.size ∧ w1.heap.size ≤ w2.heap.size) := hid ⟨HB1.out.size, hb2.size⟩
  clear ho0 ho1 hdis hb2 x0 x1 y0 y2
  go_upto_region 8 with (fail)
  refine Code.seen (fun W => Below w2.heap.size w2 W ∧ W.heap[w2.heap.size]? = some (.cells #[.slice A0 t0.length p0, .slice A1 t1.length p1] 32 (0, 0))) ⟨(Below.refl _ _).alloc (Nat.le_refl _) _, heap_alloc_new _ _⟩ fun w3 H3 => ?_
  have HX3 := hid (HX2.out.below H3.out.1)
  obtain ⟨_, x0, x1, y0, y2⟩ := HX3.out
  go_wp2_with fail
  refine (rSlots_any w3 S' r D (HR.out.below HX3.out.1) (by omega) hp).mono ?_
  rw [HT0.out, HT1.out, HCU.out]
  rintro e w4 ⟨u0, u1, rfl, hq0, hq1, hb4⟩
  obtain ⟨C0, q0, rfl⟩ := hq0.form
  obtain ⟨C1, q1, rfl⟩ := hq1.form
  have Q0 := hid hq0
  have Q1 := hid hq1
  have HB4 := hid hb4
  have HX4 := hid (HX3.out.below hb4)
  have HK4 := hid (blk_keep hb4 H3.out.2 (blk_lt H3.out.2))
  have HO0 := hid ((O0.out.below H3.out.1).below hb4)
  have HO1 := hid ((O1.out.below H3.out.1).below hb4)
  clear hq0 hq1 hb4 x0 x1 y0 y2
  go_upto_region 9 with (fail)
  refine Code.seen (fun W => Below w4.heap.size w4 W ∧ W.heap[w4.heap.size]? = some (.cells #[.slice C0 t0.length q0, .slice C1 t1.length q1] 32 (0, 0))) ⟨(Below.refl _ _).alloc (Nat.le_refl _) _, heap_alloc_new _ _⟩ fun w5 H5 => ?_
  have HX5 := hid (HX4.out.below H5.out.1)
  obtain ⟨_, x0, x1, y0, y2⟩ := HX5.out
  have hk := blk_keep H5.out.1 HK4.out (blk_lt HK4.out)
  have c0 : w5.cell? ⟨w2.heap.size, 0, none⟩ = some (.slice A0 t0.length p0) := by rw [blk_cell hk]; rfl
  have c1 : w5.cell? ⟨w2.heap.size, 1, none⟩ = some (.slice A1 t1.length p1) := by rw [blk_cell hk]; rfl
  have e0 : w5.cell? ⟨w4.heap.size, 0, none⟩ = some (.slice C0 t0.length q0) := by rw [blk_cell H5.out.2]; rfl
  have e1 : w5.cell? ⟨w4.heap.size, 1, none⟩ = some (.slice C1 t1.length q1) := by rw [blk_cell H5.out.2]; rfl
  have s0 := conv_str (SlB.below (HO0.out.sl.below H5.out.1) (drew_below w5))
  have s1 := conv_str (SlB.below (HO1.out.sl.below H5.out.1) (drew_below w5))
  have z0 := conv_str (SlB.below (Q0.out.below H5.out.1) (drew_below w5))
  have z1 := conv_str (SlB.below (Q1.out.below H5.out.1) (drew_below w5))
  have HCA := hid (Current_any w5.drew S d D (H.out.below (below_then HX5.out.1 (drew_below w5))))
  have HCB := hid (rCurrent_any w5.drew S' r D (HR.out.below (below_then HX5.out.1 (drew_below w5))))
  rw [HCU.out] at HCA HCB
  have HP0 := hid ((HO0.out.below H5.out.1).below (drew_below w5))
  have HP1 := hid ((HO1.out.below H5.out.1).below (drew_below w5))
  clear hk
  go_wp2
  go_still_tail 35, (by kernel_rfl)
  still_call HCA.out
  repeat still_step
  still_call HCB.out
  repeat still_step
  refine wpStill_nil ?_
  change wpList _ _ _ _ _ w5.drew
  have HS6 : Hid (w1.heap.size ≤ w5.drew.heap.size) := hid (by have h1 := HS2.out; have h2 := H3.out.1.size; have h3 := HB4.out.size; have h4 := H5.out.1.size; have h5 := (drew_below w5).size; omega)
  have HB6 : Hid (Below w.heap.size w w5.drew) := hid (below_then HX5.out.1 (drew_below w5))
  generalize w5.drew = w6 at *
  clear c0 c1 e0 e1 s0 s1 z0 z1 x0 x1 y0 y2
  go_wp2_with fail
  refine (alone_any _ _ t0 t1 w6 w1.heap.size HP0.out HP1.out HDIS.out HS6.out HL.out.1 HL.out.2).mono ?_
  rintro e w7 ⟨rfl, hb7⟩
  have HB7 := hid (HB6.out.trans (hb7.mono HS2.out.1))
  clear hb7
  go_wp2
  go_ret
  exact ⟨rfl, HB7.out⟩
omit hroom in
set_option maxRecDepth 100000 in
set_option maxHeartbeats 4000000 in
theorem told_counts (kd : Int) (h5 : kd ≠ 5) (h6 : kd ≠ 6) :
    Calls Try.prog 33 #[.agg #[.pointer (some ⟨d, 0, none⟩), .pointer (some ⟨r, 0, none⟩)], .agg #[.int .i64 kd, .int .i64 dn, .int .i64 sl, v, .int .i64 n, .bool bb, x, y, z]] w fun e w' => e = .returned (.bool true) ∧ Below w.heap.size w w' := by
  have H := hid h
  have HR := hid hr
  clear h hr
  have q5 : (kd == 5) = false := by rw [beq_eq_false_iff_ne]; exact h5
  have q6 : (kd == 6) = false := by rw [beq_eq_false_iff_ne]; exact h6
  clear h5 h6
  go_enter Try.func33, Try.ntmps33
  go_upto_region 1 with (fail)
  refine Code.seen (fun W => BX w W d r kd sl) (BX.start w d r kd dn sl _) fun w1 H1 => ?_
  obtain ⟨hb1, x0, x1, y0, y2⟩ := H1.out
  have HB1 := hid hb1
  clear hb1
  have C1 : Hid (∀ k, Calls Try.prog 29 #[.pointer (some ⟨d, 0, none⟩)] (w1.drewN k) fun e w' => e = .returned (.int .i64 (D.done : Int)) ∧ ∃ n, w' = (w1.drewN k).drewN n) := hid fun k => (Acts_any _ S d D ((H.out.below HB1.out).below (drewN_below w1 k))).mono fun e w' ⟨a, b⟩ => ⟨a, 0, b⟩
  have C2 : Hid (∀ k, Calls Try.prog 50 #[.pointer (some ⟨r, 0, none⟩)] (w1.drewN k) fun e w' => e = .returned (.int .i64 (D.done : Int)) ∧ ∃ n, w' = (w1.drewN k).drewN n) := hid fun k => (rActs_any _ S' r D ((HR.out.below HB1.out).below (drewN_below w1 k))).mono fun e w' ⟨a, b⟩ => ⟨a, 0, b⟩
  have C3 : Hid (∀ k, Calls Try.prog 13 #[.pointer (some ⟨d, 0, none⟩)] (w1.drewN k) fun e w' => e = .returned (.int .i64 (D.pending : Int)) ∧ ∃ n, w' = (w1.drewN k).drewN n) := hid fun k => Pending_any _ S d D ((H.out.below HB1.out).below (drewN_below w1 k)) hp
  have C4 : Hid (∀ k, Calls Try.prog 51 #[.pointer (some ⟨r, 0, none⟩)] (w1.drewN k) fun e w' => e = .returned (.int .i64 (D.pending : Int)) ∧ ∃ n, w' = (w1.drewN k).drewN n) := hid fun k => rPending_any _ S' r D ((HR.out.below HB1.out).below (drewN_below w1 k)) hp
  have C5 : Hid (∀ k, Calls Try.prog 20 #[.pointer (some ⟨d, 0, none⟩)] (w1.drewN k) fun e w' => e = .returned (.bool D.dead) ∧ ∃ n, w' = (w1.drewN k).drewN n) := hid fun k => (Dead_any _ S d D ((H.out.below HB1.out).below (drewN_below w1 k))).mono fun e w' ⟨a, b⟩ => ⟨a, 0, b⟩
  have C6 : Hid (∀ k, Calls Try.prog 52 #[.pointer (some ⟨r, 0, none⟩)] (w1.drewN k) fun e w' => e = .returned (.bool D.dead) ∧ ∃ n, w' = (w1.drewN k).drewN n) := hid fun k => (rDead_any _ S' r D ((HR.out.below HB1.out).below (drewN_below w1 k))).mono fun e w' ⟨a, b⟩ => ⟨a, 0, b⟩
  generalize D.done = a1 at *
  generalize D.pending = a2 at *
  generalize D.dead = a3 at *
  go_wp2
  go_quiet ((first | (go_at_call 29; exact Calls.quiet_of (C1.out _)) | (go_at_call 50; exact Calls.quiet_of (C2.out _)) | (go_at_call 13; exact Calls.quiet_of (C3.out _)) | (go_at_call 51; exact Calls.quiet_of (C4.out _)) | (go_at_call 20; exact Calls.quiet_of (C5.out _)) | (go_at_call 52; exact Calls.quiet_of (C6.out _))))
  go_wp2
  go_ret
  exact ⟨rfl, below_then HB1.out (drewN_below _ _)⟩
end
end Go.Proofs.Ytcadacljacbipaa
