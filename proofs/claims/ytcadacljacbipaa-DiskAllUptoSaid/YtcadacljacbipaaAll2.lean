/- The loose acts of a disk, done on bytes; the choices of a crash. -/
import Derived.Test.YtcadacljacbipaaAll1
import Derived.Deep.RegionHeld3
namespace Go.Proofs.Ytcadacljacbipaa
open Go.RowKit
theorem drew_below (w : World) : Below w.heap.size w w.drew := (Below.refl _ _).drew
theorem own_ne {w : World} {base e s n : Nat} {v : Value} {xs : List Value} (h : w.ownsRow base e s v n xs) {c : Nat} (hc : c < base) : some c ≠ v.ownBlock := fun e => by
  have := (World.ownsRow.lt h c e.symm).1
  omega
set_option maxRecDepth 100000 in
set_option maxHeartbeats 2000000 in
theorem again_app (old v : Value) (l d : List UInt8) (k c : Nat) (w : World) (ho : SlB w old l) (hc : w.cell? ⟨c, 0, none⟩ = some v) (hd : SlB w v d) (hk : k ≤ d.length) (hlen : l.length + d.length ≤ 140737488355328) :
    Calls Try.prog 55 #[old, .int .i64 k, .pointer (some ⟨c, 0, none⟩)] w fun e w' => ∃ v', e = .returned v' ∧ OwnB w' w.heap.size v' (l ++ d.take k) ∧ Below w.heap.size w w' := by
  have HO := hid ho
  have HD := hid hd
  have hcd : ∃ A cd, v = .slice A d.length cd ∧ d.length ≤ cd := by obtain ⟨A, cd, e, h, _⟩ := hd; exact ⟨A, cd, e, h⟩
  obtain ⟨A, cd, rfl, hcd⟩ := hcd
  have hlt := World.block_lt_of_cell? w _ hc
  have hk0 : (0 : Int) ≤ (k : Int) := by omega
  have hk1 : (k : Int) ≤ (cd : Int) := by omega
  have htl : (d.take k).length = k := by simp; omega
  have HT := hid htl
  clear ho hd htl
  go_enter Try.func55, Try.ntmps55
  go_wp2
  go_region_held3 (fun W => W.cell? ⟨c, 0, none⟩ = some (.slice A d.length cd))
    (first | assumption | exact hc | exact HC1.out | exact (hg2.cell HC1.out (own_ne HO1.out hlt)))
    (first
      | (go_at_call 34; refine (Clone_any old l _ (HO.out.drew) (by omega)).mono ?_; rintro e w1 ⟨v1, rfl, ho1, hb1⟩; have HB1 := hid (below_then (drew_below w) hb1); have HC1 := hid ((hb1.cell (p := ⟨c, 0, none⟩) hlt).trans hc); have HO1 : Hid (OwnB w1 w.heap.size v1 l) := hid ho1; clear ho1 hb1)
      | (refine step_appB (by rfl) (.tmp 7) (.tmp 10) (by rfl) w.heap.size v1 (.slice A k cd) l (d.take k) (by rfl) (by rfl) HO1.out ((HD.out.below HB1.out).take_ k hk (by omega)) (by rw [HT.out]; omega) HB1.out.size ?_; intro v2 w2 ho2 hg2; have HB2 := hid (OwnB.grown HB1.out HO1.out (Nat.le_refl _) HB1.out.size hg2); have HO2 := hid ho2; clear ho2))
  go_wp2
  go_ret
  exact ⟨_, rfl, HO2.out, HB2.out⟩
theorem again_wipe (old : Value) (k : Int) (w : World) :
    Calls Try.prog 56 #[old, .int .i64 k] w fun e w' => e = .returned (.slice none 0 0) ∧ w' = w := by
  go_enter Try.func56, Try.ntmps56
  go_wp2
  go_ret
  exact ⟨rfl, rfl⟩
end Go.Proofs.Ytcadacljacbipaa
