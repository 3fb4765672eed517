/- head: what is appended and synced is found behind a crash. -/
import Derived.Test.YtcadacljacbipaaDkV
import Derived.Test.YtcadacljacbipaaDkT
import Derived.Lib.SlBytesConst
namespace Go.Proofs.Ytcadacljacbipaa
open Go.RowKit
theorem DB.cells {B : Nat} {w : World} {d : Nat} {D : Dk} (h : DB B w d D) : d < w.heap.size := by
  obtain ⟨S, h1, h2⟩ := h
  exact h2.lt d h2.sd
theorem Append_db (B : Nat) (w : World) (d : Nat) (D : Dk) (n : Int) (v : Value) (da : List UInt8) (hB : B ≤ w.heap.size) (h : DB B w d D) (hf : D.fits da.length) (hv : SlB w v da) :
    Calls Try.prog 12 #[.pointer (some ⟨d, 0, none⟩), .int .i64 n, v] w fun e w' => e = .returned (.int .i64 (D.err n false)) ∧ DB B w' d (D.step n (.append da)) ∧ Below B w w' := by
  obtain ⟨S, h1, h2⟩ := h
  refine (Append_any w S d D n v da h2 hf hv).mono ?_
  rintro e w' ⟨rfl, h3⟩
  exact ⟨rfl, DB.of h1 hB h3⟩
theorem Sync_db (B : Nat) (w : World) (d : Nat) (D : Dk) (n : Int) (hB : B ≤ w.heap.size) (h : DB B w d D) (hf : D.fits 0) :
    Calls Try.prog 19 #[.pointer (some ⟨d, 0, none⟩), .int .i64 n] w fun e w' => e = .returned (.int .i64 (D.err n false)) ∧ DB B w' d (D.step n .sync) ∧ Below B w w' := by
  obtain ⟨S, h1, h2⟩ := h
  refine (Sync_any w S d D n h2 hf).mono ?_
  rintro e w' ⟨rfl, h3⟩
  exact ⟨rfl, DB.of h1 hB h3⟩
theorem Switch_db (B : Nat) (w : World) (d : Nat) (D : Dk) (n : Int) (hB : B ≤ w.heap.size) (h : DB B w d D) (hf : D.fits 0) :
    Calls Try.prog 24 #[.pointer (some ⟨d, 0, none⟩), .int .i64 n] w fun e w' => e = .returned (.int .i64 (D.err n false)) ∧ DB B w' d (D.step n .switch) ∧ Below B w w' := by
  obtain ⟨S, h1, h2⟩ := h
  refine (Switch_any w S d D n h2 hf).mono ?_
  rintro e w' ⟨rfl, h3⟩
  exact ⟨rfl, DB.of h1 hB h3⟩
theorem Crash_db (B : Nat) (w : World) (d : Nat) (D : Dk) (v : Value) (cs : List Int) (hB : B ≤ w.heap.size) (h : DB B w d D) (hf : D.fits 0) (hv : SlZ w v cs) (hvS : 0 < cs.length → ∀ k, v.ownBlock = some k → ∀ S : Nat → Prop, (∀ k, S k → B ≤ k) → DAt w S d D → ¬ S k) :
    Calls Try.prog 14 #[.pointer (some ⟨d, 0, none⟩), v] w fun e w' => ∃ fd, e = .returned (.pointer (some ⟨fd, 0, none⟩)) ∧ DB B w' d { D with dead := true } ∧ DB w.heap.size w' fd (D.crashed cs) ∧ Below B w w' ∧ Fr (fun k => k = d) w w' := by
  obtain ⟨S, h1, h2⟩ := h
  refine (Crash_any w S d D v cs h2 hf hv (fun h0 k hk => hvS h0 k hk S h1 h2)).mono ?_
  rintro e w' ⟨fd, rfl, h3, h4, h5⟩
  exact ⟨fd, rfl, ⟨S, h1, h4⟩, ⟨_, fun k hk => hk.1, h5⟩, h3.to_below (fun k hk e => by have := h1 d h2.sd; omega) hB, h3⟩
theorem litZ (w : World) (l : List Int) (hr : ∀ n ∈ l, -9223372036854775808 ≤ n ∧ n ≤ 9223372036854775807) {fr : Nat × Nat} : SlZ (w.alloc (.cells (l.map (Value.int .i64)).toArray 3 fr)) (.slice (some ⟨w.heap.size, 0, none⟩) l.length l.length) l := by
  refine ⟨⟨_, _, rfl, Nat.le_refl _, (fun h => by cases h), fun _ => ⟨w.heap.size, 0, rfl, fun i hi => ?_⟩⟩, hr⟩
  rw [cell_of_row _ _ _ _ _ _ (heap_alloc_new _ _)]
  simp [hi]
def hd1 : Dk := Dk.new.step 1 (.append [97, 98])
def hd2 : Dk := hd1.step 1 .sync
def hd3 : Dk := hd2.step 1 (.append [99, 100])
def hd4 : Dk := hd3.step 1 .switch
theorem hd_fits : Dk.new.fits 2 ∧ hd1.fits 0 ∧ hd2.fits 2 ∧ hd3.fits 0 ∧ hd4.fits 0 ∧ ({ hd4 with dead := true } : Dk).fits 0 := by
  refine ⟨⟨?_, ?_, ?_, ?_⟩, ⟨?_, ?_, ?_, ?_⟩, ⟨?_, ?_, ?_, ?_⟩, ⟨?_, ?_, ?_, ?_⟩, ⟨?_, ?_, ?_, ?_⟩, ⟨?_, ?_, ?_, ?_⟩⟩ <;> decide
set_option maxRecDepth 100000 in
set_option maxHeartbeats 4000000 in
theorem head_any (w : World) : Calls Try.prog 11 #[] w fun e w' => e = .returned (.bool true) ∧ Below w.heap.size w w' := by
  have kc := fun (w : World) (C : Array Value) (n c : Nat) => Lib.run_convert_bytes_const (P := Try.prog) w 22 5 C n c Try.underlying22 Try.underlying5
  go_enter Try.func11, Try.ntmps11
  go_wp2_with fail
  refine (New_any w).mono ?_
  rintro e w1 ⟨d, rfl, hb1, hd⟩
  have HD1 : Hid (DB w.heap.size w1 d Dk.new) := hid ⟨_, fun k hk => hk.1, hd⟩
  have HB1 := hid hb1
  clear hd hb1
  go_wp2_with fail
  refine (Append_db w.heap.size _ d Dk.new 1 _ [97, 98] (Nat.le_trans HB1.out.size (by simp)) (HD1.out.below ((Below.refl _ _).alloc (Nat.le_refl _) _)) hd_fits.1 (lit_sl w1 [97, 98] (by simp))).mono ?_
  rintro e w2 ⟨he, h2, hb2⟩
  obtain rfl : e = .returned (.int .i64 0) := he
  have HD2 : Hid (DB w.heap.size w2 d hd1) := hid h2
  have HB2 := hid ((HB1.out.alloc HB1.out.size _).trans hb2)
  clear h2 hb2
  go_wp2_with fail
  refine (Sync_db w.heap.size _ d hd1 1 HB2.out.size HD2.out hd_fits.2.1).mono ?_
  rintro e w3 ⟨he, h2, hb2⟩
  obtain rfl : e = .returned (.int .i64 0) := he
  have HD3 : Hid (DB w.heap.size w3 d hd2) := hid h2
  have HB3 := hid (HB2.out.trans hb2)
  clear h2 hb2
  go_wp2_with fail
  refine (Append_db w.heap.size _ d hd2 1 _ [99, 100] (Nat.le_trans HB3.out.size (by simp)) (HD3.out.below ((Below.refl _ _).alloc (Nat.le_refl _) _)) hd_fits.2.2.1 (lit_sl w3 [99, 100] (by simp))).mono ?_
  rintro e w4 ⟨he, h2, hb2⟩
  obtain rfl : e = .returned (.int .i64 0) := he
  have HD4 : Hid (DB w.heap.size w4 d hd3) := hid h2
  have HB4 := hid ((HB3.out.alloc HB3.out.size _).trans hb2)
  clear h2 hb2
  go_wp2_with fail
  refine (Switch_db w.heap.size _ d hd3 1 HB4.out.size HD4.out hd_fits.2.2.2.1).mono ?_
  rintro e w5 ⟨he, h2, hb2⟩
  obtain rfl : e = .returned (.int .i64 0) := he
  have HD5 : Hid (DB w.heap.size w5 d hd4) := hid h2
  have HB5 := hid (HB4.out.trans hb2)
  clear h2 hb2
  go_wp2_with fail
  obtain ⟨S5, hS5, hA5⟩ := HD5.out
  have hlz := litZ w5 [0, 0, 1] (by intro n hn; simp at hn; omega) (fr := (0, 0))
  refine (Crash_any _ S5 d hd4 _ [0, 0, 1] (hA5.below ((Below.refl _ _).alloc (Nat.le_refl _) _)) hd_fits.2.2.2.2.1 hlz (fun _ k hk hs => by
    have := hA5.lt k hs
    injection hk with hk
    have hk : w5.heap.size = k := hk
    omega)).mono ?_
  rintro e w6 ⟨fd, rfl, h6, h7, h8⟩
  have HD6 : Hid (DAt w6 S5 d { hd4 with dead := true }) := hid h7
  have HF6 := hid h8
  have HS5 := hid hS5
  have HL5 := hid hA5.lt
  have HB6 : Hid (Below w.heap.size w w6) := hid ((HB5.out.alloc HB5.out.size _).trans (h6.to_below (fun k hk e => by have := hS5 d hA5.sd; omega) (Nat.le_trans HB5.out.size (by simp))))
  clear h6 h7 h8 hS5 hA5 hlz
  go_wp2_with fail
  refine (Dead_any _ S5 d _ HD6.out).mono ?_
  rintro e w' ⟨rfl, hw⟩
  replace hw := hw.symm
  subst hw
  go_wp2_with fail
  refine (Append_any _ S5 d _ 0 _ [] HD6.out hd_fits.2.2.2.2.2 (Sl.nil _ _)).mono ?_
  rintro e w7 ⟨he, h7⟩
  obtain rfl : e = .returned (.int .i64 60) := he
  have HB7 : Hid (Below w.heap.size w w7) := hid (HB6.out.trans (h7.2.to_below (fun k hk g => by have := HS5.out k g; omega) HB6.out.size))
  have HF7 : Hid (DAt w7 (fun k => Nw (w5.alloc (.cells #[.int .i64 0, .int .i64 0, .int .i64 1] 3)) w6 k) fd (hd4.crashed [0, 0, 1])) := hid (HF6.out.fr h7.2 (fun k hk hs => by have h1 := HL5.out k hs; have h2 := hk.1; simp at h2; omega) (fun _ h => h) (fun k hk => by have := hk.2; have := h7.2.size; omega))
  clear h7
  go_wp2_with fail
  refine (Read_any _ _ fd _ 1 HF7.out (by decide)).mono ?_
  rintro e w8 ⟨v, he, ho8, hb8⟩
  obtain rfl : e = .returned (.tuple #[v, .int .i64 0]) := he
  have hv : OwnB w8 w7.heap.size v [97, 98, 99] := ho8
  obtain ⟨Av, cv, rfl⟩ := hv.form
  have hs : (convert 22 9 (.slice Av 3 cv)).run Try.prog w8 = .ok (.string ⟨#[97, 98, 99]⟩) w8 := conv_str hv.sl
  have HF8 := hid (HF7.out.below hb8)
  have HB8 := hid (HB7.out.trans (hb8.mono HB7.out.size))
  clear ho8 hb8 hv
  go_wp2_with fail
  refine (Current_any _ _ fd _ HF8.out).mono ?_
  rintro e w' ⟨he, hw⟩
  replace hw := hw.symm
  subst hw
  obtain rfl : e = .returned (.int .i64 1) := he
  go_wp2_with fail
  refine (Acts_any _ _ fd _ HF8.out).mono ?_
  rintro e w' ⟨he, hw⟩
  replace hw := hw.symm
  subst hw
  obtain rfl : e = .returned (.int .i64 0) := he
  go_wp2
  go_ret
  exact ⟨rfl, HB8.out⟩
end Go.Proofs.Ytcadacljacbipaa
