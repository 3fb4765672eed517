/- Two disks that tell the same. -/
import Derived.Test.YtcadacljacbipaaDkU
namespace Go.Proofs.Ytcadacljacbipaa
open Go.RowKit
set_option maxRecDepth 100000 in
set_option maxHeartbeats 4000000 in
theorem alike_any (w : World) (Sa Sb : Nat → Prop) (a b : Nat) (Da Db : Dk) (ha : DAt w Sa a Da) (hb : DAt w Sb b Db) (ra : Da.s0.room + Da.s1.room ≤ 140737488355328) (rb : Db.s0.room + Db.s1.room ≤ 140737488355328)
    (h0 : Da.told0 = Db.told0) (h1 : Da.told1 = Db.told1) (hc : Da.curN = Db.curN) :
    Calls Try.prog 21 #[.pointer (some ⟨a, 0, none⟩), .pointer (some ⟨b, 0, none⟩)] w fun e w' => e = .returned (.bool true) ∧ Below w.heap.size w w' := by
  have HA := hid ha
  have HB := hid hb
  have HC := hid hc
  have HT0 := hid h0
  have HT1 := hid h1
  clear ha hb hc h0 h1
  go_enter Try.func21, Try.ntmps21
  go_wp2_with fail
  refine (Slots_any w Sa a Da HA.out ra).mono ?_
  rintro e w1 ⟨v0, v1, rfl, ho0, ho1, -, hb1⟩
  obtain ⟨A0, p0, rfl⟩ := ho0.form
  obtain ⟨A1, p1, rfl⟩ := ho1.form
  have O0 := hid ho0.sl
  have O1 := hid ho1.sl
  have B1 := hid hb1
  rw [HC.out]
  clear ho0 ho1 hb1
  go_wp2_with fail
  refine Calls.seen (fun W => Below w1.heap.size w1 W ∧ W.heap[w1.heap.size]? = some (.cells #[.slice A0 Da.told0.length p0, .slice A1 Da.told1.length p1] 32 (0, 0))) ⟨(Below.refl _ _).alloc (Nat.le_refl _) _, heap_alloc_new _ _⟩ fun w2 H2 => ?_
  have B2 := hid (below_then B1.out H2.out.1)
  refine (Slots_any w2 Sb b Db (HB.out.below B2.out) rb).mono ?_
  rintro e w3 ⟨u0, u1, rfl, hq0, hq1, -, hb3⟩
  obtain ⟨C0, q0, rfl⟩ := hq0.form
  obtain ⟨C1, q1, rfl⟩ := hq1.form
  have B3 := hid (below_then B2.out hb3)
  have K := hid (blk_keep hb3 H2.out.2 (blk_lt H2.out.2))
  have c0 : w3.cell? ⟨w1.heap.size, 0, none⟩ = some (.slice A0 Da.told0.length p0) := by rw [blk_cell K.out]; rfl
  have c1 : w3.cell? ⟨w1.heap.size, 1, none⟩ = some (.slice A1 Da.told1.length p1) := by rw [blk_cell K.out]; rfl
  have hb2 := H2.out.1
  have s0 := conv_str (((O0.out.below hb2).below hb3).alloc (.cells #[.slice C0 Db.told0.length q0, .slice C1 Db.told1.length q1] 32))
  have s1 := conv_str (((O1.out.below hb2).below hb3).alloc (.cells #[.slice C0 Db.told0.length q0, .slice C1 Db.told1.length q1] 32))
  have z0 := conv_str (hq0.sl.alloc (.cells #[.slice C0 Db.told0.length q0, .slice C1 Db.told1.length q1] 32))
  have z1 := conv_str (hq1.sl.alloc (.cells #[.slice C0 Db.told0.length q0, .slice C1 Db.told1.length q1] 32))
  have hw1 := blk_lt K.out
  rw [HT0.out] at c0 s0
  rw [HT1.out] at c1 s1
  have HA3 := hid ((HA.out.below B3.out).below ((Below.refl _ _).alloc (Nat.le_refl _) (.cells #[.slice C0 Db.told0.length q0, .slice C1 Db.told1.length q1] 32)))
  have HB3 := hid ((HB.out.below B3.out).below ((Below.refl _ _).alloc (Nat.le_refl _) (.cells #[.slice C0 Db.told0.length q0, .slice C1 Db.told1.length q1] 32)))
  clear hq0 hq1 hb3 hb2
  go_wp2_with (first
    | (go_at_call 18; (with_reducible refine (Current_any _ Sa a Da HA3.out).mono ?_); rintro e w' ⟨rfl, rfl⟩; rw [HC.out])
    | (go_at_call 18; (with_reducible refine (Current_any _ Sb b Db HB3.out).mono ?_); rintro e w' ⟨rfl, rfl⟩))
  go_ret
  exact ⟨rfl, B3.out.alloc B3.out.size _⟩
end Go.Proofs.Ytcadacljacbipaa
