/- The document's disk: the four acts. -/
import Derived.Test.YtcadacljacbipaaAll15
import Derived.Test.YtcadacljacbipaaAll16
import Derived.Test.YtcadacljacbipaaAll12
import Derived.Test.YtcadacljacbipaaAll8
import Derived.Test.YtcadacljacbipaaAll2
namespace Go.Proofs.Ytcadacljacbipaa
open Go.RowKit
theorem step_live {D : Dk} {n : Int} {o : DOp} (hd : D.dead = false) (hb : D.bad n o.wipes = false) : D.step n o = if D.named = 1 ∧ D.withIt = false then D.near else (o.eff n.toNat D.near).more := by
  unfold Dk.step
  rw [if_neg (by simp [hd]), if_neg (by simp [hb])]
theorem err_live {D : Dk} {n : Int} {b : Bool} (hd : D.dead = false) (hb : D.bad n b = false) : D.err n b = if D.named = 1 then 60 else 0 := by
  unfold Dk.err
  rw [if_neg (by simp [hd]), if_neg (by simp [hb])]
theorem ract_not (w : World) (S : Nat → Prop) (d : Nat) (D : Dk) (n k : Int) (v : Value) (o : DOp) (h : RAt w S d D) (hk : o.wipes = (k == 2)) (hx : D.dead = true ∨ D.bad n o.wipes = true) :
    Calls Try.prog 65 #[.pointer (some ⟨d, 0, none⟩), .int .i64 k, .int .i64 n, v] w fun e w' => e = .returned (.int .i64 (D.err n o.wipes)) ∧ Rt w w' S d (D.step n o) := by
  cases hd : D.dead
  · have hb : D.bad n o.wipes = true := hx.elim (fun e => by rw [hd] at e; cases e) id
    refine (ract_bad w S d D n k v h hd (hk ▸ hb)).mono ?_
    rintro e w' ⟨rfl, rfl⟩
    have e1 : D.err n o.wipes = 61 := by unfold Dk.err; rw [if_neg (by simp [hd]), if_pos hb]
    have e2 : D.step n o = D := by unfold Dk.step; rw [if_neg (by simp [hd]), if_pos hb]
    rw [e1, e2]
    exact ⟨rfl, Rt.stay (Below.refl _ _) h⟩
  · refine (ract_dead w S d D n k v h hd).mono ?_
    rintro e w' ⟨rfl, rfl⟩
    have e1 : D.err n o.wipes = 60 := by unfold Dk.err; rw [if_pos hd]
    have e2 : D.step n o = D := by unfold Dk.step; rw [if_pos hd]
    rw [e1, e2]
    exact ⟨rfl, Rt.stay (Below.refl _ _) h⟩
theorem bad_no {D : Dk} {n : Int} {b : Bool} (hb : D.bad n b = false) : (n = 0 ∨ n = 1) ∧ (b = true → n ≠ (D.cur : Int)) := by
  unfold Dk.bad at hb
  simp at hb
  refine ⟨?_, fun e => hb.2 e⟩
  rcases Int.decEq n 0 with h | h
  · exact .inr (hb.1 h)
  · exact .inl h
section
variable (w : World) (S : Nat → Prop) (d : Nat) (D : Dk) (n : Int) (h : RAt w S d D)
theorem ract_append (v : Value) (da : List UInt8) (h : RAt w S d D) (hf : D.fits da.length) (hv : SlB w v da) (hvS : 0 < da.length → ∀ k, v.ownBlock = some k → ¬ S k) :
    Calls Try.prog 65 #[.pointer (some ⟨d, 0, none⟩), .int .i64 1, .int .i64 n, v] w fun e w' => e = .returned (.int .i64 (D.err n false)) ∧ Rt w w' S d (D.step n (.append da)) := by
  by_cases hx : D.dead = true ∨ D.bad n false = true
  · exact ract_not w S d D n 1 v (.append da) h rfl hx
  · have hd : D.dead = false := by simpa using fun e => hx (.inl e)
    have hb : D.bad n false = false := by simpa using fun e => hx (.inr e)
    obtain ⟨Av, cv, rfl⟩ := hv.form
    rw [err_live hd hb, step_live (o := .append da) hd hb]
    by_cases h0 : 0 < da.length
    · exact ract_app1 w S d D n Av cv da h hd (bad_no hb).1 hf.done hf.named (by have := hf.acts; omega) hv hvS h0 (by have := hf.room; omega)
    · obtain rfl : da = [] := List.eq_nil_of_length_eq_zero (by omega)
      exact ract_app0 w S d D n Av cv h hd (bad_no hb).1 hf.done hf.named
theorem ract_three (v : Value) (h : RAt w S d D) (hf : D.fits 0) (o : DOp) (k : Int) (hk : (o = .wipe ∧ k = 2) ∨ (o = .sync ∧ k = 3) ∨ (o = .switch ∧ k = 4)) :
    Calls Try.prog 65 #[.pointer (some ⟨d, 0, none⟩), .int .i64 k, .int .i64 n, v] w fun e w' => e = .returned (.int .i64 (D.err n o.wipes)) ∧ Rt w w' S d (D.step n o) := by
  by_cases hx : D.dead = true ∨ D.bad n o.wipes = true
  · exact ract_not w S d D n k v o h (by rcases hk with ⟨rfl, rfl⟩ | ⟨rfl, rfl⟩ | ⟨rfl, rfl⟩ <;> rfl) hx
  · have hd : D.dead = false := by simpa using fun e => hx (.inl e)
    have hb : D.bad n o.wipes = false := by simpa using fun e => hx (.inr e)
    rw [err_live hd hb, step_live hd hb]
    rcases hk with ⟨rfl, rfl⟩ | ⟨rfl, rfl⟩ | ⟨rfl, rfl⟩
    · exact ract_wipe w S d D n v h hd (bad_no hb).1 hf.done hf.named (by have := hf.acts; omega) ((bad_no hb).2 rfl)
    · exact ract_sync w S d D n v h hd (bad_no hb).1 hf.done hf.named (by have := hf.room; omega) (by have := hf.acts; omega)
    · exact ract_switch w S d D n v h hd (bad_no hb).1 hf.done hf.named
end
end Go.Proofs.Ytcadacljacbipaa

/- The document's disk: Append, Wipe, Sync, Switch, as they are called. -/
namespace Go.Proofs.Ytcadacljacbipaa
open Go.RowKit
section
variable (w : World) (S : Nat → Prop) (d : Nat) (D : Dk) (n : Int)
theorem rAppend_any (v : Value) (da : List UInt8) (h : RAt w S d D) (hf : D.fits da.length) (hv : SlB w v da) (hvS : 0 < da.length → ∀ k, v.ownBlock = some k → ¬ S k) :
    Calls Try.prog 57 #[.pointer (some ⟨d, 0, none⟩), .int .i64 n, v] w fun e w' => e = .returned (.int .i64 (D.err n false)) ∧ Rt w w' S d (D.step n (.append da)) := by
  have C := hid (ract_append w S d D n v da h hf hv hvS)
  clear h hf hv hvS
  go_enter Try.func57, Try.ntmps57
  go_wp2_with fail
  refine C.out.mono ?_
  rintro e w' ⟨rfl, hr⟩
  have R := hid hr
  clear hr
  go_wp2
  go_ret
  exact ⟨rfl, R.out⟩
theorem rWipe_any (h : RAt w S d D) (hf : D.fits 0) :
    Calls Try.prog 58 #[.pointer (some ⟨d, 0, none⟩), .int .i64 n] w fun e w' => e = .returned (.int .i64 (D.err n true)) ∧ Rt w w' S d (D.step n .wipe) := by
  have C := hid (ract_three w S d D n (.slice none 0 0) h hf .wipe 2 (.inl ⟨rfl, rfl⟩))
  clear h hf
  go_enter Try.func58, Try.ntmps58
  go_wp2_with fail
  refine C.out.mono ?_
  rintro e w' ⟨rfl, hr⟩
  have R := hid hr
  clear hr
  go_wp2
  go_ret
  exact ⟨rfl, R.out⟩
theorem rSync_any (h : RAt w S d D) (hf : D.fits 0) :
    Calls Try.prog 59 #[.pointer (some ⟨d, 0, none⟩), .int .i64 n] w fun e w' => e = .returned (.int .i64 (D.err n false)) ∧ Rt w w' S d (D.step n .sync) := by
  have C := hid (ract_three w S d D n (.slice none 0 0) h hf .sync 3 (.inr (.inl ⟨rfl, rfl⟩)))
  clear h hf
  go_enter Try.func59, Try.ntmps59
  go_wp2_with fail
  refine C.out.mono ?_
  rintro e w' ⟨rfl, hr⟩
  have R := hid hr
  clear hr
  go_wp2
  go_ret
  exact ⟨rfl, R.out⟩
theorem rSwitch_any (h : RAt w S d D) (hf : D.fits 0) :
    Calls Try.prog 60 #[.pointer (some ⟨d, 0, none⟩), .int .i64 n] w fun e w' => e = .returned (.int .i64 (D.err n false)) ∧ Rt w w' S d (D.step n .switch) := by
  have C := hid (ract_three w S d D n (.slice none 0 0) h hf .switch 4 (.inr (.inr ⟨rfl, rfl⟩)))
  clear h hf
  go_enter Try.func60, Try.ntmps60
  go_wp2_with fail
  refine C.out.mono ?_
  rintro e w' ⟨rfl, hr⟩
  have R := hid hr
  clear hr
  go_wp2
  go_ret
  exact ⟨rfl, R.out⟩
end
end Go.Proofs.Ytcadacljacbipaa

/- The law's two hands: act and actOf, for the four acts and Stop. -/
namespace Go.Proofs.Ytcadacljacbipaa
open Go.RowKit
theorem Rt.close {w w1 w2 : World} {S : Nat → Prop} {d : Nat} {D : Dk} (hb : Below w.heap.size w w1) (h : Rt w1 w2 S d D) : Rt w w2 S d D := by
  have s1 := hb.size
  exact ⟨h.1.fr (Fr.refl (fun _ => False) _) (fun _ _ h => h) (fun k hk => hk.imp id fun hk => ⟨by have := hk.1; omega, hk.2⟩) (fun k hk => hk.elim (fun g => h.1.lt k (.inl g)) (fun g => g.2)), ((Fr.of_below hb).mono fun _ _ h => h.elim).trans (h.2.mono fun k _ hk => .inl hk)⟩
theorem Dt.close {w w1 w2 : World} {S : Nat → Prop} {d : Nat} {D : Dk} (hb : Below w.heap.size w w1) (h : Dt w1 w2 S d D) : Dt w w2 S d D := by
  have s1 := hb.size
  exact ⟨h.1.fr (Fr.refl (fun _ => False) _) (fun _ _ h => h) (fun k hk => hk.imp id fun hk => ⟨by have := hk.1; omega, hk.2⟩) (fun k hk => hk.elim (fun g => h.1.lt k (.inl g)) (fun g => g.2)), ((Fr.of_below hb).mono fun _ _ h => h.elim).trans (h.2.mono fun k _ hk => .inl hk)⟩
def Dop.fiveB (o : Dop) : Bool := o.fourB || o.kind == 8
/-- an act, or Stop -/
def Dk.play (D : Dk) (o : Dop) : Dk := if o.kind = 8 then D.stop o.n o.done else D.step o.slot (o.act o.data)
def Dk.playE (D : Dk) (o : Dop) : Int := if o.kind = 8 then (if D.dead then 60 else 0) else D.err o.slot (o.act o.data).wipes
set_option maxRecDepth 100000 in
set_option maxHeartbeats 4000000 in
theorem actOf_any (w : World) (S : Nat → Prop) (d : Nat) (D : Dk) (o : Dop) (v a b c : Value) (h : RAt w S d D) (hf : D.fits o.data.length) (hk : o.four ∨ o.kind = 8) (hv : SlB w v o.data) (hvS : 0 < o.data.length → ∀ k, v.ownBlock = some k → ¬ S k) :
    Calls Try.prog 42 #[.pointer (some ⟨d, 0, none⟩), .agg #[.int .i64 o.kind, .int .i64 o.d, .int .i64 o.slot, v, .int .i64 o.n, .bool o.done, a, b, c]] w fun e w' => e = .returned (.int .i64 (D.playE o)) ∧ Rt w w' S d (D.play o) := by
  obtain ⟨kd, dn, sl, dat, n, dn2, sa, sb, ch⟩ := o
  simp only [Dop.four] at hk
  simp only at *
  have H := hid h
  have HF := hid hf
  have HV := hid hv
  have HVS := hid hvS
  have hk4 : kd = 1 ∨ kd = 2 ∨ kd = 3 ∨ kd = 4 ∨ kd = 8 := by omega
  clear h hf hv hvS hk
  rcases hk4 with rfl | rfl | rfl | rfl | rfl
  · skip
    go_enter Try.func42, Try.ntmps42
    go_upto_region 1 with (fail)
    refine Code.seen (fun W => W.heap[w.heap.size]? = some (.cells #[.int .i64 1, .int .i64 dn, .int .i64 sl, v, .int .i64 n, .bool dn2, a, b, c] 51 (0, 0)) ∧ Below w.heap.size w W) ⟨heap_alloc_new _ _, (Below.refl _ _).alloc (Nat.le_refl _) _⟩ fun w1 H1 => ?_
    have x0 : w1.cell? ⟨w.heap.size, 0, none⟩ = some (.int .i64 1) := by rw [blk_cell H1.out.1]; rfl
    have x2 : w1.cell? ⟨w.heap.size, 2, none⟩ = some (.int .i64 sl) := by rw [blk_cell H1.out.1]; rfl
    have x3 : w1.cell? ⟨w.heap.size, 3, none⟩ = some v := by rw [blk_cell H1.out.1]; rfl
    have x4 : w1.cell? ⟨w.heap.size, 4, none⟩ = some (.int .i64 n) := by rw [blk_cell H1.out.1]; rfl
    have x5 : w1.cell? ⟨w.heap.size, 5, none⟩ = some (.bool dn2) := by rw [blk_cell H1.out.1]; rfl
    go_wp2_with fail
    refine (rAppend_any w1 S d D sl v dat (H.out.below H1.out.2) HF.out (HV.out.below H1.out.2) HVS.out).mono ?_
    rintro e w2 ⟨rfl, h2⟩
    have R := hid (Rt.close H1.out.2 h2)
    clear h2
    go_wp2
    go_ret
    exact ⟨rfl, R.out⟩
  · skip
    go_enter Try.func42, Try.ntmps42
    go_upto_region 1 with (fail)
    refine Code.seen (fun W => W.heap[w.heap.size]? = some (.cells #[.int .i64 2, .int .i64 dn, .int .i64 sl, v, .int .i64 n, .bool dn2, a, b, c] 51 (0, 0)) ∧ Below w.heap.size w W) ⟨heap_alloc_new _ _, (Below.refl _ _).alloc (Nat.le_refl _) _⟩ fun w1 H1 => ?_
    have x0 : w1.cell? ⟨w.heap.size, 0, none⟩ = some (.int .i64 2) := by rw [blk_cell H1.out.1]; rfl
    have x2 : w1.cell? ⟨w.heap.size, 2, none⟩ = some (.int .i64 sl) := by rw [blk_cell H1.out.1]; rfl
    have x3 : w1.cell? ⟨w.heap.size, 3, none⟩ = some v := by rw [blk_cell H1.out.1]; rfl
    have x4 : w1.cell? ⟨w.heap.size, 4, none⟩ = some (.int .i64 n) := by rw [blk_cell H1.out.1]; rfl
    have x5 : w1.cell? ⟨w.heap.size, 5, none⟩ = some (.bool dn2) := by rw [blk_cell H1.out.1]; rfl
    go_wp2_with fail
    refine (rWipe_any w1 S d D sl (H.out.below H1.out.2) (fits_mono HF.out (Nat.zero_le _))).mono ?_
    rintro e w2 ⟨rfl, h2⟩
    have R := hid (Rt.close H1.out.2 h2)
    clear h2
    go_wp2
    go_ret
    exact ⟨rfl, R.out⟩
  · skip
    go_enter Try.func42, Try.ntmps42
    go_upto_region 1 with (fail)
    refine Code.seen (fun W => W.heap[w.heap.size]? = some (.cells #[.int .i64 3, .int .i64 dn, .int .i64 sl, v, .int .i64 n, .bool dn2, a, b, c] 51 (0, 0)) ∧ Below w.heap.size w W) ⟨heap_alloc_new _ _, (Below.refl _ _).alloc (Nat.le_refl _) _⟩ fun w1 H1 => ?_
    have x0 : w1.cell? ⟨w.heap.size, 0, none⟩ = some (.int .i64 3) := by rw [blk_cell H1.out.1]; rfl
    have x2 : w1.cell? ⟨w.heap.size, 2, none⟩ = some (.int .i64 sl) := by rw [blk_cell H1.out.1]; rfl
    have x3 : w1.cell? ⟨w.heap.size, 3, none⟩ = some v := by rw [blk_cell H1.out.1]; rfl
    have x4 : w1.cell? ⟨w.heap.size, 4, none⟩ = some (.int .i64 n) := by rw [blk_cell H1.out.1]; rfl
    have x5 : w1.cell? ⟨w.heap.size, 5, none⟩ = some (.bool dn2) := by rw [blk_cell H1.out.1]; rfl
    go_wp2_with fail
    refine (rSync_any w1 S d D sl (H.out.below H1.out.2) (fits_mono HF.out (Nat.zero_le _))).mono ?_
    rintro e w2 ⟨rfl, h2⟩
    have R := hid (Rt.close H1.out.2 h2)
    clear h2
    go_wp2
    go_ret
    exact ⟨rfl, R.out⟩
  · skip
    go_enter Try.func42, Try.ntmps42
    go_upto_region 1 with (fail)
    refine Code.seen (fun W => W.heap[w.heap.size]? = some (.cells #[.int .i64 4, .int .i64 dn, .int .i64 sl, v, .int .i64 n, .bool dn2, a, b, c] 51 (0, 0)) ∧ Below w.heap.size w W) ⟨heap_alloc_new _ _, (Below.refl _ _).alloc (Nat.le_refl _) _⟩ fun w1 H1 => ?_
    have x0 : w1.cell? ⟨w.heap.size, 0, none⟩ = some (.int .i64 4) := by rw [blk_cell H1.out.1]; rfl
    have x2 : w1.cell? ⟨w.heap.size, 2, none⟩ = some (.int .i64 sl) := by rw [blk_cell H1.out.1]; rfl
    have x3 : w1.cell? ⟨w.heap.size, 3, none⟩ = some v := by rw [blk_cell H1.out.1]; rfl
    have x4 : w1.cell? ⟨w.heap.size, 4, none⟩ = some (.int .i64 n) := by rw [blk_cell H1.out.1]; rfl
    have x5 : w1.cell? ⟨w.heap.size, 5, none⟩ = some (.bool dn2) := by rw [blk_cell H1.out.1]; rfl
    go_wp2_with fail
    refine (rSwitch_any w1 S d D sl (H.out.below H1.out.2) (fits_mono HF.out (Nat.zero_le _))).mono ?_
    rintro e w2 ⟨rfl, h2⟩
    have R := hid (Rt.close H1.out.2 h2)
    clear h2
    go_wp2
    go_ret
    exact ⟨rfl, R.out⟩
  · skip
    go_enter Try.func42, Try.ntmps42
    go_upto_region 1 with (fail)
    refine Code.seen (fun W => W.heap[w.heap.size]? = some (.cells #[.int .i64 8, .int .i64 dn, .int .i64 sl, v, .int .i64 n, .bool dn2, a, b, c] 51 (0, 0)) ∧ Below w.heap.size w W) ⟨heap_alloc_new _ _, (Below.refl _ _).alloc (Nat.le_refl _) _⟩ fun w1 H1 => ?_
    have x0 : w1.cell? ⟨w.heap.size, 0, none⟩ = some (.int .i64 8) := by rw [blk_cell H1.out.1]; rfl
    have x2 : w1.cell? ⟨w.heap.size, 2, none⟩ = some (.int .i64 sl) := by rw [blk_cell H1.out.1]; rfl
    have x3 : w1.cell? ⟨w.heap.size, 3, none⟩ = some v := by rw [blk_cell H1.out.1]; rfl
    have x4 : w1.cell? ⟨w.heap.size, 4, none⟩ = some (.int .i64 n) := by rw [blk_cell H1.out.1]; rfl
    have x5 : w1.cell? ⟨w.heap.size, 5, none⟩ = some (.bool dn2) := by rw [blk_cell H1.out.1]; rfl
    go_wp2_with fail
    obtain ⟨q, hq⟩ : ∃ q : Int, (if D.dead = true then (60 : Int) else 0) = q := ⟨_, rfl⟩
    have HQ : Hid (q = D.playE ⟨8, dn, sl, dat, n, dn2, sa, sb, ch⟩) := hid hq.symm
    refine (rStop_any w1 S d D n dn2 (H.out.below H1.out.2)).mono ?_
    rw [hq]
    clear hq
    rintro e w2 ⟨rfl, h2⟩
    have R := hid (Rt.close H1.out.2 h2)
    clear h2
    go_wp2
    go_ret
    exact ⟨(show Ending.returned (.int .i64 q) = _ by rw [HQ.out]), R.out⟩
set_option maxRecDepth 100000 in
set_option maxHeartbeats 4000000 in
theorem lawplay_any (w : World) (S : Nat → Prop) (d : Nat) (D : Dk) (o : Dop) (v a b c dv : Value) (h : DAt w S d D) (hf : D.fits o.data.length) (hk : o.four ∨ o.kind = 8) (hdv : SlB w dv o.data) :
    Calls Try.prog 28 #[.pointer (some ⟨d, 0, none⟩), .agg #[.int .i64 o.kind, .int .i64 o.d, .int .i64 o.slot, v, .int .i64 o.n, .bool o.done, a, b, c], dv] w fun e w' => e = .returned (.int .i64 (D.playE o)) ∧ Dt w w' S d (D.play o) := by
  rcases hk with hk | hk
  · have h8 : ¬ o.kind = 8 := by have := hk.2; omega
    unfold Dk.playE Dk.play
    rw [if_neg h8, if_neg h8]
    exact lawact_any w S d D o v a b c dv o.data h hf hk hdv
  · obtain ⟨kd, dn, sl, dat, n, dn2, sa, sb, ch⟩ := o
    simp only at hk
    subst hk
    have H := hid h
    clear h hf hdv
    go_enter Try.func28, Try.ntmps28
    go_upto_region 1 with (fail)
    refine Code.seen (fun W => W.heap[w.heap.size]? = some (.cells #[.int .i64 8, .int .i64 dn, .int .i64 sl, v, .int .i64 n, .bool dn2, a, b, c] 51 (0, 0)) ∧ Below w.heap.size w W) ⟨heap_alloc_new _ _, (Below.refl _ _).alloc (Nat.le_refl _) _⟩ fun w1 H1 => ?_
    have x0 : w1.cell? ⟨w.heap.size, 0, none⟩ = some (.int .i64 8) := by rw [blk_cell H1.out.1]; rfl
    have x4 : w1.cell? ⟨w.heap.size, 4, none⟩ = some (.int .i64 n) := by rw [blk_cell H1.out.1]; rfl
    have x5 : w1.cell? ⟨w.heap.size, 5, none⟩ = some (.bool dn2) := by rw [blk_cell H1.out.1]; rfl
    go_wp2_with fail
    obtain ⟨q, hq⟩ : ∃ q : Int, (if D.dead = true then (60 : Int) else 0) = q := ⟨_, rfl⟩
    have HQ : Hid (q = D.playE ⟨8, dn, sl, dat, n, dn2, sa, sb, ch⟩) := hid hq.symm
    refine (Stop_any w1 S d D n dn2 (H.out.below H1.out.2)).mono ?_
    rw [hq]
    clear hq
    rintro e w2 ⟨rfl, h2⟩
    have R := hid (Dt.close H1.out.2 h2)
    clear h2
    go_wp2
    go_ret
    exact ⟨(show Ending.returned (.int .i64 q) = _ by rw [HQ.out]), R.out⟩
end Go.Proofs.Ytcadacljacbipaa

/- Append to an owned row: it stands where it stood, or nothing old is changed. The law's alone. -/
namespace Go.Proofs.Ytcadacljacbipaa
open Go.RowKit
section
variable {P : Program} (w : World)
theorem run_app_kept (base : Nat) (t ty e : TypeId) (i : TypeInfo) (z : Value) (size bytes : Nat) (ht : P.underlying t = some (.slice e)) (hi : P.info? e = some i) (hz : i.zero = some z)
    (hsize : i.size = size) (hby : i.bytes = bytes) (hzs : z.cells.size = size) (hsz : 0 < size)
    (v : Value) (n : Nat) (xs : List Value) (hown : w.ownsRow base e size v n xs)
    (a : Addr) (m c : Nat) (news : List Value) (hl : news.length = m * size) (hnews : ∀ j u, news[j]? = some u → w.cell? (a.add j) = some u) (h1 : ∀ u ∈ news, u.oneCell' = true)
    (h63 : n + m ≤ maxLen) (hbytes : (n + m) * bytes ≤ 140737488355328) (hbase : base ≤ w.heap.size) :
    ∃ v' w', (Builtin.append_ #[t, t] ty #[v, .slice (some a) m c]).run P w = .ok v' w' ∧ w'.ownsRow base e size v' (n + m) (xs ++ news) ∧ w.grownBy w' v.ownBlock ∧ (v'.ownBlock = v.ownBlock ∨ Below w.heap.size w w' ∧ ∀ k, v'.ownBlock = some k → w.heap.size ≤ k) := by
  have hown0 := hown
  obtain ⟨hxl, ⟨rfl, rfl⟩ | ⟨g, cap, cur, rfl, hbg, hg, hnc, hcm, hcs, htake⟩⟩ := hown
  · have hx : xs = [] := List.eq_nil_of_length_eq_zero (by simpa using hxl)
    subst hx
    obtain ⟨v', w', hr, h2, h3, _⟩ := run_append_own (P := P) w w.heap.size t ty e i z size bytes ht hi hz hsize hby hzs hsz _ _ _ (World.ownsRow_nil w _ e size) a m c news hl hnews h1 h63 hbytes (Nat.le_refl _)
    exact ⟨v', w', hr, own_base h2 hbase, h3, .inr ⟨⟨h3.os, h3.tape, h3.output, h3.size, fun k hk => h3.block k hk (by simp [Value.ownBlock])⟩, fun k hk => (World.ownsRow.lt h2 k hk).1⟩⟩
  · by_cases hroom : n + m ≤ cap
    · obtain ⟨w', hr, h2, h3⟩ := run_append_fits (P := P) w base t ty e i size ht hi hsize g n cap xs hown0 a m c news hl hnews h1 hroom
      exact ⟨_, w', hr, h2, h3, .inl rfl⟩
    · obtain ⟨v', w', hr, h2, h3, _⟩ := run_append_own (P := P) w base t ty e i z size bytes ht hi hz hsize hby hzs hsz _ _ _ hown0 a m c news hl hnews h1 h63 hbytes hbase
      have hsmall : n + m ≤ 9223372036854775807 := by simp only [maxLen] at h63; omega
      have hr2 := run_append_grow (P := P) w t ty e i z ht hi hz ⟨g, 0, none⟩ n cap xs (by rw [hsize]; exact hxl) (hown0.cells (g := g) rfl) a m c news (by rw [hsize]; exact hl) hnews (by omega) (by omega) (growslice_fits (by omega) (by rw [hby]; exact hbytes))
      rw [hr] at hr2
      injection hr2 with e1 e2
      refine ⟨v', w', hr, h2, h3, .inr ⟨?_, fun k hk => ?_⟩⟩
      · rw [e2]
        exact (drew_below w).alloc (Nat.le_refl _) _
      · rw [e1] at hk
        simp only [Value.ownBlock, Option.some.injEq] at hk
        omega
end
/-- one-cell elements put behind an owned row: from any slice -/
theorem wpList_appXK {w : World} {ops : Array Oper} {rest : List Oper} {o : Oper} {a : Act} {Q : Exit → Act → World → Prop} {e t : TypeId} {z : Value} {bytes : Nat} (hgd : o.guard = none) (s x : Operand)
    (ho : o.op = .call { callee := .builtin .append, args := #[s, x], argTypes := #[t, t] })
    (ht : Try.prog.underlying t = some (.slice e)) (hinfo : (Try.prog.info? e).map (fun i => (i.zero, i.size, i.bytes)) = some (some z, 1, bytes)) (hz : z.cells.size = 1)
    (base : Nat) (v u : Value) (n m : Nat) (xs : List Value) (f : Nat → Value) (hs : a.eval s = v) (hx : a.eval x = u) (hown : w.ownsRow base e 1 v n xs) (hu : Sl w u m f) (h1 : ∀ i, i < m → (f i).oneCell' = true)
    (hbytes : (n + m) * bytes ≤ 140737488355328) (hlen : n + m ≤ maxLen) (hbase : base ≤ w.heap.size)
    (h : ∀ v' w', w'.ownsRow base e 1 v' (n + m) (xs ++ (List.range m).map f) → w.grownBy w' v.ownBlock → (v'.ownBlock = v.ownBlock ∨ Below w.heap.size w w' ∧ ∀ k, v'.ownBlock = some k → w.heap.size ≤ k) → wpList Try.prog ops Q rest (a.put o.dst v') w') : wpList Try.prog ops Q (o :: rest) a w :=
  wpList_plain hgd fun _ hK => by
    obtain ⟨i, hi, hz0, hz1, hz2⟩ := info_parts hinfo
    obtain ⟨A, c, rfl, hc, hnil, hA⟩ := hu
    cases A with
    | none =>
      have hc0 := hnil rfl
      obtain rfl : m = 0 := by omega
      subst hc0
      have hrun := run_append_owned_none (P := Try.prog) (w := w) base t o.type e i 1 ht hi v n xs hown
      unfold Oper.wp
      simp [execOp, ho, resolve, invoke, builtin, hs, hx, hrun, Result.andThen]
      exact hK _ _ (h v w (by simpa using hown) ⟨rfl, rfl, rfl, Nat.le_refl _, fun _ _ _ => rfl⟩ (.inl rfl))
    | some ad =>
      obtain ⟨v', w', hrun, r1, r2, r3⟩ := run_app_kept (P := Try.prog) w base t o.type e i z 1 bytes ht hi hz0 hz1 hz2 hz (by decide) v n xs hown ad m c ((List.range m).map f) (by simp) (fun j u hj => by
        have hj' : j < m := by
          rcases Nat.lt_or_ge j m with h | h
          · exact h
          · rw [List.getElem?_eq_none (by simpa using h)] at hj; cases hj
        obtain ⟨b, off, e1, hcell⟩ := hA (by omega)
        injection e1 with e1
        subst e1
        have := hcell j hj'
        have e2 : (⟨b, off, none⟩ : Addr).add j = ⟨b, off + j, none⟩ := by
          unfold Addr.add; split <;> simp_all
        rw [e2, this]
        simp [hj'] at hj
        rw [hj]) (fun u hu => by
        obtain ⟨j, hj, rfl⟩ := List.mem_map.1 hu
        exact h1 j (List.mem_range.1 hj)) hlen hbytes hbase
      unfold Oper.wp
      simp [execOp, ho, resolve, invoke, builtin, hs, hx, hrun, Result.andThen]
      exact hK _ _ (h v' w' r1 r2 r3)
theorem wpList_appBK {w : World} {ops : Array Oper} {rest : List Oper} {o : Oper} {a : Act} {Q : Exit → Act → World → Prop} (hgd : o.guard = none) (s x : Operand)
    (ho : o.op = .call { callee := .builtin .append, args := #[s, x], argTypes := #[22, 22] })
    (base : Nat) (v u : Value) (l k : List UInt8) (hs : a.eval s = v) (hx : a.eval x = u) (hown : OwnB w base v l) (hu : SlB w u k) (hlen : l.length + k.length ≤ 140737488355328) (hbase : base ≤ w.heap.size)
    (h : ∀ v' w', OwnB w' base v' (l ++ k) → w.grownBy w' v.ownBlock → (v'.ownBlock = v.ownBlock ∨ Below w.heap.size w w' ∧ ∀ k, v'.ownBlock = some k → w.heap.size ≤ k) → wpList Try.prog ops Q rest (a.put o.dst v') w') : wpList Try.prog ops Q (o :: rest) a w :=
  wpList_appXK hgd s x ho Try.underlying22 infoB rfl base v u l.length k.length (l.map B) _ hs hx hown hu (fun _ _ => rfl) (by omega) (by unfold maxLen; omega) hbase
    fun v' w' g1 g2 g3 => h v' w' (by unfold OwnB; rw [List.length_append, List.map_append]; rw [← map_range] at g1; exact g1) g2 g3
end Go.Proofs.Ytcadacljacbipaa

/- The law's alone: two lists of bytes that share no memory. -/
namespace Go.Proofs.Ytcadacljacbipaa
open Go.RowKit
theorem sl_of_pre {w : World} {base g n c : Nat} {v : Value} {l : List UInt8} (h : OwnB w base v l) (hv : v.ownBlock = some g) (hn : n ≤ c) (hnl : n ≤ l.length) : SlB w (.slice (some ⟨g, 0, none⟩) n c) (l.take n) := by
  have h0 := h
  obtain ⟨_, ⟨e, _⟩ | ⟨g', cap, cur, e, _⟩⟩ := h
  · subst e; cases hv
  · subst e
    simp only [Value.ownBlock, Option.some.injEq] at hv
    subst hv
    have hl : (l.take n).length = n := by rw [List.length_take]; omega
    refine ⟨_, c, by rw [hl], by rw [hl]; exact hn, (fun h => by cases h), fun _ => ⟨g', 0, rfl, fun i hi => ?_⟩⟩
    have hi2 : i < n := by omega
    rw [Nat.zero_add, (h0.at_ i (by omega)).1]
    congr 2
    rw [List.getD_eq_getElem?_getD, List.getD_eq_getElem?_getD, List.getElem?_take_of_lt hi2]
/-- how an owned slice lies -/
def At0 (v : Value) (n : Nat) : Prop := (v = .slice none 0 0 ∧ n = 0) ∨ ∃ g c, v = .slice (some ⟨g, 0, none⟩) n c ∧ n ≤ c
theorem OwnB.at0 {w : World} {base : Nat} {v : Value} {l : List UInt8} (h : OwnB w base v l) : At0 v l.length := by
  obtain ⟨_, ⟨e, h0⟩ | ⟨g, cap, cur, e, _, _, hn, _⟩⟩ := h
  · exact .inl ⟨e, h0⟩
  · exact .inr ⟨g, cap, e, hn⟩
/-- v is va grown by k, all its bytes the same -/
structure Gw (w : World) (base : Nat) (va v : Value) (n k : Nat) (b : UInt8) : Prop where
  own : OwnB w base v (List.replicate (n + k) b)
  sl : SlB w va (List.replicate n b)
  rel : v.ownBlock = va.ownBlock ∨ ∀ j, va.ownBlock = some j → v.ownBlock ≠ some j
  at0 : At0 va n
  lt : ∀ j, va.ownBlock = some j → base ≤ j ∧ j < w.heap.size
theorem Gw.start {w : World} {base : Nat} {va : Value} {n : Nat} {b : UInt8} (h : OwnB w base va (List.replicate n b)) : Gw w base va va n 0 b :=
  ⟨h, h.sl, .inl rfl, by have := h.at0; rwa [List.length_replicate] at this, fun j hj => World.ownsRow.lt h j hj⟩
theorem Gw.fr {X : Nat → Prop} {w w' : World} {base : Nat} {va v : Value} {n k : Nat} {b : UInt8} (h : Gw w base va v n k b) (hf : Fr X w w') (hx : ∀ j, va.ownBlock = some j ∨ v.ownBlock = some j → ¬ X j) : Gw w' base va v n k b :=
  ⟨h.own.fr hf fun j hj => hx j (.inr hj), sl_fr0 h.sl hf fun _ j hj => hx j (.inl hj), h.rel, h.at0, fun j hj => ⟨(h.lt j hj).1, Nat.lt_of_lt_of_le (h.lt j hj).2 hf.size⟩⟩
theorem Gw.more {w w1 w2 : World} {base : Nat} {va v v' : Value} {n k : Nat} {b : UInt8} (h : Gw w base va v n k b) (h1 : Below w.heap.size w w1) (ho : OwnB w2 base v' (List.replicate (n + k) b ++ [b])) (hg : w1.grownBy w2 v.ownBlock) (hk : v'.ownBlock = v.ownBlock ∨ Below w1.heap.size w1 w2 ∧ ∀ j, v'.ownBlock = some j → w1.heap.size ≤ j) : Gw w2 base va v' n (k + 1) b := by
  have ho' : OwnB w2 base v' (List.replicate (n + (k + 1)) b) := by rw [← Nat.add_assoc, List.replicate_succ']; exact ho
  have s1 := h1.size
  have s2 := hg.size
  have h2 := h.fr (Fr.of_below h1) (fun _ _ h => h)
  rcases hk with e | ⟨hb, hn⟩
  · refine ⟨ho', ?_, by rw [e]; exact h.rel, h.at0, fun j hj => ⟨(h.lt j hj).1, by have := (h.lt j hj).2; omega⟩⟩
    rcases h.rel with e2 | e2
    · rcases h.at0 with ⟨e3, e4⟩ | ⟨g, c, e3, e4⟩
      · subst e4; rw [e3]; exact Sl.nil _ _
      · subst e3
        have := sl_of_pre (n := n) (c := c) (g := g) ho' (by rw [e, e2]; rfl) e4 (by simp)
        rw [List.take_replicate] at this
        rwa [show min n (n + (k + 1)) = n by omega] at this
    · exact sl_fr0 h2.sl (Fr.of_grown hg) (fun _ j hj e5 => e2 j hj e5)
  · refine ⟨ho', h2.sl.below hb, .inr fun j hj e => ?_, h.at0, fun j hj => ⟨(h.lt j hj).1, by have := (h.lt j hj).2; omega⟩⟩
    have := hn j e
    have := (h.lt j hj).2
    omega
theorem rep_of {l : List UInt8} {n : Nat} {b : UInt8} (hn : l.length = n) (h : ∀ i, i < n → l.getD i 0 = b) : l = List.replicate n b := by
  subst hn
  apply List.ext_getElem
  · simp
  · intro i h1 h2
    have := h i h1
    rw [List.getD_eq_getElem?_getD, List.getElem?_eq_getElem h1] at this
    simpa using this
theorem getD_set_lt {l : List UInt8} {k i : Nat} {b : UInt8} (hk : k < l.length) (hi : i < k + 1) (h : ∀ i, i < k → l.getD i 0 = b) : (l.set k b).getD i 0 = b := by
  rw [List.getD_eq_getElem?_getD, List.getElem?_set]
  split
  · simp [*]
  · have := h i (by omega)
    rwa [List.getD_eq_getElem?_getD] at this
theorem Gw.step {wr w' : World} {base : Nat} {va v v' : Value} {n k : Nat} {b : UInt8} {o : Obj} (h : Gw wr base va v n k b) (ho : OwnB w' base v' (List.replicate (n + k) b ++ [b])) (hg : (wr.alloc o).grownBy w' v.ownBlock) (hk : v'.ownBlock = v.ownBlock ∨ Below (wr.alloc o).heap.size (wr.alloc o) w' ∧ ∀ j, v'.ownBlock = some j → (wr.alloc o).heap.size ≤ j) :
    Gw w' base va v' n (k + 1) b ∧ Fr (fun j => v.ownBlock = some j) wr w' ∧ (∀ j, v'.ownBlock = some j → v.ownBlock = some j ∨ wr.heap.size ≤ j) := by
  refine ⟨h.more ((Below.refl _ _).alloc (Nat.le_refl _) _) ho hg hk, (Fr.alloc _ wr o).trans ((Fr.of_grown hg).mono fun _ _ h => .inl h), fun j hj => ?_⟩
  rcases hk with e | ⟨_, e⟩
  · exact .inl (e ▸ hj)
  · have := e j hj
    simp at this
    exact .inr (by omega)
theorem Gw.keep {wr w' w : World} {base : Nat} {vb v v' : Value} {lb : List UInt8} (hb : OwnB wr base vb lb) (hd : ∀ j, v.ownBlock = some j → vb.ownBlock ≠ some j) (hv : ∀ j, v.ownBlock = some j → base ≤ j) (hf : Fr (fun j => v.ownBlock = some j) wr w') (hn : ∀ j, v'.ownBlock = some j → v.ownBlock = some j ∨ wr.heap.size ≤ j) (hB : Below base w wr) (hs : base ≤ wr.heap.size) :
    OwnB w' base vb lb ∧ (∀ j, v'.ownBlock = some j → vb.ownBlock ≠ some j) ∧ Below base w w' ∧ base ≤ w'.heap.size := by
  refine ⟨hb.fr hf fun j hj e => hd j e hj, fun j hj e => ?_, hB.trans (hf.to_below (fun j hj e => by have := hv j e; omega) hs), Nat.le_trans hs hf.size⟩
  rcases hn j hj with h | h
  · exact hd j h e
  · have := (World.ownsRow.lt hb j e).2
    omega
theorem Gw.keep2 {wr w' w : World} {base : Nat} {va x v v' : Value} {n k : Nat} {b : UInt8} (h : Gw wr base va x n k b) (hd : ∀ j, v.ownBlock = some j → va.ownBlock ≠ some j ∧ x.ownBlock ≠ some j) (hv : ∀ j, v.ownBlock = some j → base ≤ j) (hf : Fr (fun j => v.ownBlock = some j) wr w') (hn : ∀ j, v'.ownBlock = some j → v.ownBlock = some j ∨ wr.heap.size ≤ j) (hB : Below base w wr) (hs : base ≤ wr.heap.size) :
    Gw w' base va x n k b ∧ (∀ j, v'.ownBlock = some j → va.ownBlock ≠ some j ∧ x.ownBlock ≠ some j) ∧ Below base w w' ∧ base ≤ w'.heap.size := by
  refine ⟨h.fr hf fun j hj e => ?_, fun j hj => ?_, hB.trans (hf.to_below (fun j hj e => by have := hv j e; omega) hs), Nat.le_trans hs hf.size⟩
  · rcases hj with hj | hj
    · exact (hd j e).1 hj
    · exact (hd j e).2 hj
  · rcases hn j hj with h1 | h1
    · exact hd j h1
    · exact ⟨fun e => by have := (h.lt j e).2; omega, fun e => by have := (World.ownsRow.lt h.own j e).2; omega⟩
theorem Gw.read {w : World} {base : Nat} {va : Value} {A : Option Addr} {n k q c t : Nat} {b : UInt8} (hq : n + k = q) (h : Gw w base va (.slice A q c) n k b) (ht : t < q) : ∃ g, A = some ⟨g, 0, none⟩ ∧ w.cell? ⟨g, t, none⟩ = some (B b) := by
  subst hq
  obtain ⟨g, cap, e, _⟩ := h.own.some_ (by simp; omega)
  injection e with e1 _ e2
  subst e1 e2
  have := (h.own.at_ t (by simp; omega)).1
  rw [List.getD_eq_getElem?_getD, List.getElem?_replicate, if_pos ht] at this
  exact ⟨g, rfl, this⟩
theorem Gw.reada {w : World} {base : Nat} {v : Value} {A : Option Addr} {n k c t : Nat} {b : UInt8} (h : Gw w base (.slice A n c) v n k b) (ht : t < n) : ∃ g o, A = some ⟨g, o, none⟩ ∧ w.cell? ⟨g, o + t, none⟩ = some (B b) := by
  obtain ⟨A', c', e, h1, h2, h3⟩ := h.sl
  injection e with e1 e2 e3
  subst e1
  obtain ⟨g, o, e4, hc⟩ := h3 (by simp; omega)
  have : w.cell? ⟨g, o + t, none⟩ = some (B ((List.replicate n b).getD t 0)) := hc t (by simpa using ht)
  rw [List.getD_eq_getElem?_getD, List.getElem?_replicate, if_pos ht] at this
  exact ⟨g, o, e4, this⟩
end Go.Proofs.Ytcadacljacbipaa

/- The law's alone, walked. -/
namespace Go.Proofs.Ytcadacljacbipaa
open Go.RowKit
set_option maxRecDepth 100000 in
set_option maxHeartbeats 8000000 in
theorem alone_any (va vb : Value) (la lb : List UInt8) (w : World) (base : Nat) (ha : OwnB w base va la) (hb : OwnB w base vb lb) (hdis : ∀ j, va.ownBlock = some j → vb.ownBlock ≠ some j) (hbase : base ≤ w.heap.size) (hla : la.length ≤ 140737488000000) (hlb : lb.length ≤ 140737488000000) :
    Calls Try.prog 47 #[va, vb] w fun e w' => e = .returned (.bool true) ∧ Below base w w' := by
  obtain ⟨n, hn⟩ : ∃ n, la.length = n := ⟨_, rfl⟩
  obtain ⟨m, hm⟩ : ∃ m, lb.length = m := ⟨_, rfl⟩
  obtain ⟨Aa, ca, rfl⟩ := ha.form
  obtain ⟨Ab, cb, rfl⟩ := hb.form
  rw [hn] at ha hdis hla ⊢
  rw [hm] at hb hdis hlb ⊢
  have HA := hid ha
  have HB := hid hb
  have HN := hid hn
  have HM := hid hm
  have HD := hid hdis
  have Z0 := hid (Below.refl base w)
  clear ha hb hn hm hdis
  go_enter Try.func47, Try.ntmps47
  go_wp2
  go_loopw [5] (fun x wr => ∃ (k : Nat) (l : List UInt8), k ≤ n ∧ x = .int .i64 k ∧ l.length = n ∧ (∀ i, i < k → l.getD i 0 = 1) ∧ OwnB wr base (.slice Aa n ca) l ∧ OwnB wr base (.slice Ab m cb) lb ∧ Below base w wr ∧ base ≤ wr.heap.size) (fun x _ => n - (intOf x).toNat)
  case atStart => exact ⟨0, la, Nat.zero_le _, rfl, HN.out, fun i h => by omega, HA.out, HB.out, Z0.out, hbase⟩
  case round =>
    clear HA HB Z0
    obtain ⟨k, l, hk, rfl, hl, hone, ha, hb, hw, hs⟩ := hrel
    have HL := hid hl
    have HO := hid hone
    have HA := hid ha
    have HB := hid hb
    have HW := hid hw
    clear hone ha hb hw
    by_cases hlt : k < n
    · obtain ⟨g, c, e, -, -, -⟩ := HA.out.some_ (by omega)
      rw [hl] at e
      injection e with e1 _ e2
      subst e1 e2
      obtain ⟨x0, f0⟩ := HA.out.at_ k (by omega)
      have i0 : (0 : Int) ≤ (k : Int) := by omega
      have i1 : (k : Int) < (n : Int) := by omega
      have hbs := HA.out.base_le.1
      clear hl
      go_wp2
      go_roundw
      case rel => exact ⟨k + 1, l.set k 1, by omega, by go_num, by rw [List.length_set]; exact HL.out, fun i hi => getD_set_lt (by rw [HL.out]; exact hlt) hi HO.out, HA.out.set_ k 1, HB.out.fr (Fr.set_ _ _) (fun j hj e => HD.out g rfl (e ▸ hj)), HW.out.trans ((Fr.set_ _ _).to_below (fun j hj e => by omega) hs), by simpa using hs⟩
      case measure => simp [intOf]; omega
    · have hge : n ≤ k := by omega
      have hrep := rep_of hl (fun i hi => HO.out i (by omega))
      replace HA : Hid (OwnB wr base (.slice Aa n ca) (List.replicate n 1)) := hid (hrep ▸ HA.out)
      clear hl hrep HL HO
      go_wp2
      go_loopw [6] (fun x wr => ∃ (k : Nat) (l : List UInt8), k ≤ m ∧ x = .int .i64 k ∧ l.length = m ∧ (∀ i, i < k → l.getD i 0 = 2) ∧ OwnB wr base (.slice Ab m cb) l ∧ OwnB wr base (.slice Aa n ca) (List.replicate n 1) ∧ Below base w wr ∧ base ≤ wr.heap.size) (fun x _ => m - (intOf x).toNat)
      case atStart => exact ⟨0, lb, Nat.zero_le _, rfl, HM.out, fun i h => by omega, HB.out, HA.out, HW.out, hs⟩
      case round =>
        clear HA HB HW
        obtain ⟨k, l, hk, rfl, hl, hone, hb, ha, hw, hs⟩ := hrel
        have HL := hid hl
        have HO := hid hone
        have HA := hid ha
        have HB := hid hb
        have HW := hid hw
        clear hone ha hb hw
        by_cases hlt2 : k < m
        · obtain ⟨g, c, e, -, -, -⟩ := HB.out.some_ (by omega)
          rw [hl] at e
          injection e with e1 _ e2
          subst e1 e2
          obtain ⟨x0, f0⟩ := HB.out.at_ k (by omega)
          have i0 : (0 : Int) ≤ (k : Int) := by omega
          have i1 : (k : Int) < (m : Int) := by omega
          have hbs := HB.out.base_le.1
          clear hl
          go_wp2
          go_roundw
          case rel => exact ⟨k + 1, l.set k 2, by omega, by go_num, by rw [List.length_set]; exact HL.out, fun i hi => getD_set_lt (by rw [HL.out]; exact hlt2) hi HO.out, HB.out.set_ k 2, HA.out.fr (Fr.set_ _ _) (fun j hj e => HD.out j hj (by rw [e]; rfl)), HW.out.trans ((Fr.set_ _ _).to_below (fun j hj e => by omega) hs), by simpa using hs⟩
          case measure => simp [intOf]; omega
        · have hrep := rep_of hl (fun i hi => HO.out i (by omega))
          replace HB : Hid (OwnB wr base (.slice Ab m cb) (List.replicate m 2)) := hid (hrep ▸ HB.out)
          have hge2 : m ≤ k := by omega
          clear hl hrep HL HO
          go_wp2
          go_loopw [7, 9] (fun v x wr => ∃ (k : Nat), k ≤ 70 ∧ x = .int .i64 k ∧ Gw wr base (.slice Aa n ca) v n k 1 ∧ OwnB wr base (.slice Ab m cb) (List.replicate m 2) ∧ (∀ j, v.ownBlock = some j → (Value.slice Ab m cb).ownBlock ≠ some j) ∧ Below base w wr ∧ base ≤ wr.heap.size) (fun _ x _ => 70 - (intOf x).toNat)
          case atStart => exact ⟨0, by omega, rfl, Gw.start HA.out, HB.out, HD.out, HW.out, hs⟩
          case round =>
            clear HA HB HW
            obtain ⟨k, hk, rfl, hgw, hb, hdv, hw, hs⟩ := hrel
            obtain ⟨Av, cv, rfl⟩ : ∃ A c, _ = Value.slice A (n + k) c := by have := hgw.own.form; rwa [List.length_replicate] at this
            have HG := hid hgw
            have HB := hid hb
            have HW := hid hw
            have HDV := hid hdv
            clear hgw hb hw hdv
            by_cases hlt3 : k < 70
            · have i1 : (k : Int) < 70 := by omega
              have hvb : ∀ j, (Value.slice Av (n + k) cv).ownBlock = some j → base ≤ j := fun j hj => (World.ownsRow.lt HG.out.own j hj).1
              have HVB := hid hvb
              clear hvb
              go_wp2_with (at_builtin; refine wpList_appBK rfl (.tmp 37) (.tmp 38) rfl base (.slice Av (n + k) cv) _ (List.replicate (n + k) 1) [1] rfl rfl (HG.out.own.alloc _) (by exact lit_sl wr [1] (by simp)) (by simp; omega) (by simp; omega) ?_; intro v' w' ho' hg' hk'; obtain ⟨Aw, cw, rfl⟩ : ∃ A c, v' = Value.slice A (n + k + 1) c := (by have := ho'.form; simpa using this); have HS' := hid (Gw.step HG.out ho' hg' hk'); have HK' := hid (Gw.keep HB.out HDV.out HVB.out HS'.out.2.1 HS'.out.2.2 HW.out hs); clear ho' hg' hk')
              go_roundw
              case rel => exact ⟨k + 1, by omega, by go_num, HS'.out.1, HK'.out⟩
              case measure => simp [intOf]; omega
            · have hge3 : 70 ≤ k := by omega
              obtain ⟨q, hq⟩ : ∃ q, n + k = q := ⟨_, rfl⟩
              rw [hq] at HG HDV ⊢
              have HQ := hid hq
              clear hq
              have HX : Hid (∀ j, (Value.slice Ab m cb).ownBlock = some j → (Value.slice Aa n ca).ownBlock ≠ some j ∧ (Value.slice Av q cv).ownBlock ≠ some j) := hid fun j hj => ⟨fun e => HD.out j e hj, fun e => HDV.out j e hj⟩
              go_wp2
              go_loopw [8, 10] (fun v x wr => ∃ (i : Nat), i ≤ 70 ∧ x = .int .i64 i ∧ Gw wr base (.slice Ab m cb) v m i 2 ∧ Gw wr base (.slice Aa n ca) (.slice Av q cv) n k 1 ∧ (∀ j, v.ownBlock = some j → (Value.slice Aa n ca).ownBlock ≠ some j ∧ (Value.slice Av q cv).ownBlock ≠ some j) ∧ Below base w wr ∧ base ≤ wr.heap.size) (fun _ x _ => 70 - (intOf x).toNat)
              case atStart => exact ⟨0, by omega, rfl, Gw.start HB.out, HG.out, HX.out, HW.out, hs⟩
              case round =>
                clear HB HG HW HX HDV
                obtain ⟨i, hi, rfl, hgw, hga, hdv, hw, hs⟩ := hrel
                obtain ⟨Ay, cy, rfl⟩ : ∃ A c, _ = Value.slice A (m + i) c := by have := hgw.own.form; rwa [List.length_replicate] at this
                have HG := hid hgw
                have HA := hid hga
                have HW := hid hw
                have HDV := hid hdv
                clear hgw hga hw hdv
                by_cases hlt4 : i < 70
                · have i1 : (i : Int) < 70 := by omega
                  have hvb : ∀ j, (Value.slice Ay (m + i) cy).ownBlock = some j → base ≤ j := fun j hj => (World.ownsRow.lt HG.out.own j hj).1
                  have HVB := hid hvb
                  clear hvb
                  go_wp2_with (at_builtin; refine wpList_appBK rfl (.tmp 44) (.tmp 45) rfl base (.slice Ay (m + i) cy) _ (List.replicate (m + i) 2) [2] rfl rfl (HG.out.own.alloc _) (by exact lit_sl wr [2] (by simp)) (by simp; omega) (by simp; omega) ?_; intro v' w' ho' hg' hk'; obtain ⟨Aw, cw, rfl⟩ : ∃ A c, v' = Value.slice A (m + i + 1) c := (by have := ho'.form; simpa using this); have HS' := hid (Gw.step HG.out ho' hg' hk'); have HK' := hid (Gw.keep2 HA.out HDV.out HVB.out HS'.out.2.1 HS'.out.2.2 HW.out hs); clear ho' hg' hk')
                  go_roundw
                  case rel => exact ⟨i + 1, by omega, by go_num, HS'.out.1, HK'.out⟩
                  case measure => simp [intOf]; omega
                · have hge4 : 70 ≤ i := by omega
                  obtain ⟨q2, hq2⟩ : ∃ q, m + i = q := ⟨_, rfl⟩
                  rw [hq2] at HG HDV ⊢
                  have hql : n ≤ q := by have := HQ.out; omega
                  have hql2 : m ≤ q2 := by omega
                  have hqu : q ≤ 140737488001000 := by have := HQ.out; omega
                  have hqu2 : q2 ≤ 140737488001000 := by omega
                  have HX : Hid (∀ t, t < q → ∃ g, Av = some ⟨g, 0, none⟩ ∧ wr.cell? ⟨g, t, none⟩ = some (.int .u8 1)) := hid fun t ht => Gw.read HQ.out HA.out ht
                  have HA2 : Hid (∀ t, t < n → ∃ b o, Aa = some ⟨b, o, none⟩ ∧ wr.cell? ⟨b, o + t, none⟩ = some (.int .u8 1)) := hid fun t ht => Gw.reada HA.out ht
                  have HX2 : Hid (∀ t, t < q2 → ∃ g, Ay = some ⟨g, 0, none⟩ ∧ wr.cell? ⟨g, t, none⟩ = some (.int .u8 2)) := hid fun t ht => Gw.read hq2 HG.out ht
                  have HA3 : Hid (∀ t, t < m → ∃ b o, Ab = some ⟨b, o, none⟩ ∧ wr.cell? ⟨b, o + t, none⟩ = some (.int .u8 2)) := hid fun t ht => Gw.reada HG.out ht
                  clear hq2 HQ HG HA HDV hge2 hge3 hge4 hge
                  go_wp2
                  go_loop [11] (fun x => ∃ t : Nat, t ≤ q ∧ x = .int .i64 t) (fun x => q - (intOf x).toNat)
                  case atStart => exact ⟨0, by omega, rfl⟩
                  case round =>
                    obtain ⟨t, ht, rfl⟩ := hrel
                    by_cases hlt5 : t < q
                    · obtain ⟨g, rfl, x0⟩ := HX.out t hlt5
                      have i0 : (0 : Int) ≤ (t : Int) := by omega
                      have i1 : (t : Int) < (q : Int) := by omega
                      by_cases hlt6 : t < n
                      · obtain ⟨b, o, rfl, y0⟩ := HA2.out t hlt6
                        have i2 : (t : Int) < (n : Int) := by omega
                        go_wp2
                        go_round
                        case rel => exact ⟨t + 1, by omega, by go_num⟩
                        case measure => simp [intOf]; omega
                      · go_wp2
                        go_round
                        case rel => exact ⟨t + 1, by omega, by go_num⟩
                        case measure => simp [intOf]; omega
                    · go_wp2
                      go_loop [12] (fun x => ∃ t : Nat, t ≤ q2 ∧ x = .int .i64 t) (fun x => q2 - (intOf x).toNat)
                      case atStart => exact ⟨0, by omega, rfl⟩
                      case round =>
                        obtain ⟨t, ht, rfl⟩ := hrel
                        by_cases hlt7 : t < q2
                        · obtain ⟨g, rfl, x0⟩ := HX2.out t hlt7
                          have i0 : (0 : Int) ≤ (t : Int) := by omega
                          have i1 : (t : Int) < (q2 : Int) := by omega
                          by_cases hlt8 : t < m
                          · obtain ⟨b, o, rfl, y0⟩ := HA3.out t hlt8
                            have i2 : (t : Int) < (m : Int) := by omega
                            go_wp2
                            go_round
                            case rel => exact ⟨t + 1, by omega, by go_num⟩
                            case measure => simp [intOf]; omega
                          · go_wp2
                            go_round
                            case rel => exact ⟨t + 1, by omega, by go_num⟩
                            case measure => simp [intOf]; omega
                        · go_wp2
                          go_ret
                          exact ⟨rfl, HW.out⟩
end Go.Proofs.Ytcadacljacbipaa

/- The law's kept: a wide copy is as it was made. -/
namespace Go.Proofs.Ytcadacljacbipaa
open Go.RowKit
set_option maxHeartbeats 1000000 in
theorem kept_any (g c base : Nat) (v : Value) (l : List UInt8) (w : World) (h : OwnB w base (.slice (some ⟨g, 0, none⟩) (l.length + 2) c) (l ++ [193, 194])) (hc : l.length + 2 ≤ c) (hv : SlB w v l) (hl : l.length + 2 ≤ 140737488355328) :
    Calls Try.prog 43 #[.slice (some ⟨g, 0, none⟩) l.length c, v] w fun e w' => e = .returned (.bool true) ∧ w' = w := by
  obtain ⟨A, c2, rfl⟩ := hv.form
  have hs : SlB w (.slice (some ⟨g, 0, none⟩) l.length c) l := by
    have h1 := h.sl.take_ (n := l.length + 2) l.length (by simp) (by omega)
    rw [List.take_left] at h1
    exact h1
  have k1 := conv_str hs
  have k2 := conv_str hv
  have x0 : w.cell? ⟨g, l.length, none⟩ = some (.int .u8 193) := by
    rw [(h.at_ l.length (by simp)).1]
    simp
  have x1 : w.cell? ⟨g, l.length + 1, none⟩ = some (.int .u8 194) := by
    rw [(h.at_ (l.length + 1) (by simp)).1]
    simp
  have i1 : (l.length : Int) + 2 ≤ (c : Int) := by omega
  have i2 : (l.length : Int) < (l.length : Int) + 2 := by omega
  have i3 : (l.length : Int) + 1 < (l.length : Int) + 2 := by omega
  clear h hv hs
  go_enter Try.func43, Try.ntmps43
  go_wp2
  go_ret
  exact ⟨rfl, rfl⟩
end Go.Proofs.Ytcadacljacbipaa
