/- The walk of the law DiskLasts. -/
import Derived.Test.YtcadacljacbipaaDkY
import Derived.Test.YtcadacljacbipaaDkW
namespace Go.Proofs.Ytcadacljacbipaa
open Go.RowKit
theorem slz_lt {w : World} {v : Value} {l : List Int} (h : SlZ w v l) (h0 : 0 < l.length) : ∀ k, v.ownBlock = some k → k < w.heap.size := by
  intro k hk
  obtain ⟨⟨A, c, rfl, h1, h2, h3⟩, _⟩ := h
  obtain ⟨b, off, rfl, hc⟩ := h3 h0
  have hb := World.block_lt_of_cell? w _ (hc 0 h0)
  injection hk with hk
  have hk : b = k := hk
  subst hk
  exact hb
theorem SlZ.below {w w' : World} {v : Value} {l : List Int} (h : SlZ w v l) (hb : Below w.heap.size w w') : SlZ w' v l := h.fr (Fr.of_below hb) (fun _ _ _ h => h)
/-- Crash by choices that were there ahead of the disk -/
theorem Crash_old (w0 w : World) (d : Nat) (D : Dk) (v : Value) (cs : List Int) (hb : Below w0.heap.size w0 w) (h : DB w0.heap.size w d D) (hf : D.fits 0) (hv : SlZ w0 v cs) :
    Calls Try.prog 14 #[.pointer (some ⟨d, 0, none⟩), v] w fun e w' => ∃ fd, e = .returned (.pointer (some ⟨fd, 0, none⟩)) ∧ DB w0.heap.size w' d { D with dead := true } ∧ DB w.heap.size w' fd (D.crashed cs) ∧ Below w0.heap.size w0 w' ∧ Fr (fun k => k = d) w w' := by
  refine (Crash_db w0.heap.size w d D v cs hb.size h hf (hv.below hb) (fun h0 k hk S hS _ hs => ?_)).mono ?_
  · have h1 := slz_lt hv h0 k hk
    have h2 := hS k hs
    omega
  · rintro e w' ⟨fd, rfl, h1, h2, h3, h4⟩
    exact ⟨fd, rfl, h1, h2, hb.trans h3, h4⟩
theorem cmod2 (k : Int) : cmod k 2 = 0 ∨ cmod k 2 = 1 := by have := cmod_lt k (show 0 < 2 by omega); omega
/-- of a living disk with no act named -/
structure Live (D : Dk) : Prop where
  d : D.dead = false
  n : D.named = 0
theorem Live.err {D : Dk} (h : Live D) {i : Int} (hi : i = 0 ∨ i = 1) (b : Bool) (hb : b = true → i ≠ (D.cur : Int)) : D.err i b = 0 := by
  unfold Dk.err
  rw [if_neg (by rw [h.d]; decide), if_neg, if_neg (by rw [h.n]; decide)]
  intro hbad
  unfold Dk.bad at hbad
  rw [Bool.or_eq_true, Bool.and_eq_true, Bool.and_eq_true] at hbad
  rcases hbad with ⟨h1, h2⟩ | ⟨h1, h2⟩
  · rcases hi with rfl | rfl
    · cases h1
    · cases h2
  · exact hb h1 (by simpa using h2)
theorem Live.step {D : Dk} (h : Live D) {i : Int} (hi : i = 0 ∨ i = 1) (o : DOp) (hb : o.wipes = true → i ≠ (D.cur : Int)) : D.step i o = (o.eff i.toNat D.near).more := by
  unfold Dk.step
  rw [if_neg (by rw [h.d]; decide), if_neg, if_neg (by rw [h.n]; intro h; cases h.1)]
  intro hbad
  unfold Dk.bad at hbad
  rw [Bool.or_eq_true, Bool.and_eq_true, Bool.and_eq_true] at hbad
  rcases hbad with ⟨h1, h2⟩ | ⟨h1, h2⟩
  · rcases hi with rfl | rfl
    · cases h1
    · cases h2
  · exact hb h1 (by simpa using h2)
theorem runD_live (ops : List Dop) : Live (runD Dk.new ops) := by
  obtain ⟨_, h1, h2⟩ := runD_state Dk.new 0 0 new_mild rfl rfl ops
  exact ⟨h2, h1⟩
theorem crash_synced (l : List UInt8) (cs : List Int) : (Dslot.crash ⟨l, []⟩ cs).1 = l := by
  unfold Dslot.crash
  simp [doAll]
theorem now_synced (l : List UInt8) : (Dslot.mk l []).now = l := rfl
/-- the synced slot is behind a crash what it was -/
theorem sync_lasts {D : Dk} (h : Live D) {i : Int} (hi : i = 0 ∨ i = 1) (cs : List Int) :
    (D.step i .sync).readE i = 0 ∧ ((D.step i .sync).crashed cs).readE i = 0 ∧ ((D.step i .sync).crashed cs).readB i = (D.step i .sync).readB i ∧ ((D.step i .sync).crashed cs).curN = D.curN ∧ ((D.step i .sync).crashed cs).pending = 0 ∧ ((D.step i .sync).crashed cs).dead = false ∧ ((D.step i .sync).crashed cs).s0.room + ((D.step i .sync).crashed cs).s1.room = (((D.step i .sync).s0.crash cs).1).length + ((D.step i .sync).s1.crash ((D.step i .sync).s0.crash cs).2).1.length := by
  have hs := h.step hi .sync (fun h => by cases h)
  have hd : (D.step i .sync).dead = false := by
    rw [hs]; show (DOp.sync.eff i.toNat D.near).dead = false
    rw [eff_dead]; show (D.named == 1) = false; rw [h.n]; rfl
  have hc : (D.step i .sync).cur = D.cur := by
    rw [hs]
    rcases hi with rfl | rfl <;> rfl
  have hE : (D.step i .sync).readE i = 0 := by unfold Dk.readE; rw [if_neg (by rw [hd]; decide), if_pos hi]
  have nd : ¬ ((D.step i .sync).crashed cs).dead = true := fun h => Bool.noConfusion (show false = true from h)
  have nd2 : ¬ (D.step i .sync).dead = true := by rw [hd]; exact fun h => Bool.noConfusion h
  have nd3 : ¬ D.dead = true := by rw [h.d]; exact fun h => Bool.noConfusion h
  refine ⟨hE, ?_, ?_, ?_, rfl, rfl, rfl⟩
  · unfold Dk.readE; rw [if_neg nd, if_pos hi]
  · rcases hi with rfl | rfl
    · have h0 : (D.step 0 .sync).s0 = ⟨D.s0.now, []⟩ := by rw [hs]; rfl
      unfold Dk.readB
      rw [if_neg nd, if_neg nd2, if_pos rfl, if_pos rfl]
      show ((D.step 0 .sync).s0.crash cs).1 = (D.step 0 .sync).s0.now
      rw [h0, crash_synced]; rfl
    · have h0 : (D.step 1 .sync).s1 = ⟨D.s1.now, []⟩ := by rw [hs]; rfl
      unfold Dk.readB
      rw [if_neg nd, if_neg nd2, if_neg (show ¬ (1 : Int) = 0 by omega), if_pos rfl, if_neg (show ¬ (1 : Int) = 0 by omega), if_pos rfl]
      show ((D.step 1 .sync).s1.crash ((D.step 1 .sync).s0.crash cs).2).1 = (D.step 1 .sync).s1.now
      rw [h0, crash_synced]; rfl
  · unfold Dk.curN
    rw [if_neg nd, if_neg nd3]
    exact hc
theorem crash_le (s : Dslot) (cs : List Int) : (s.crash cs).1.length ≤ s.room := by
  have key : ∀ k, (doAll (s.acts.take k) s.lasts).length ≤ s.lasts.length + sizes (s.acts.take k) := fun k => doAll_length _ _
  unfold Dslot.crash
  simp only
  split
  · rename_i d hd
    have h1 := key (pick1 cs (s.acts.length + 1))
    obtain ⟨hi, e⟩ := List.getElem?_eq_some_iff.1 hd
    have h2 := sizes_take s.acts _ hi
    rw [e] at h2
    have h3 : (DAct.app d).size = d.length := rfl
    have h4 : (d.take (pick1 cs.tail d.length)).length ≤ d.length := by simp; omega
    simp only [List.length_append, Dslot.room]
    omega
  · have h1 := key (pick1 cs (s.acts.length + 1))
    have h2 : sizes (s.acts.take (pick1 cs (s.acts.length + 1))) ≤ sizes s.acts := by
      have : sizes (s.acts.take (pick1 cs (s.acts.length + 1))) + sizes (s.acts.drop (pick1 cs (s.acts.length + 1))) = sizes s.acts := by
        unfold sizes; rw [← List.sum_append, ← List.map_append, List.take_append_drop]
      omega
    simp only [Dslot.room]
    omega
theorem crashed_room (D : Dk) (cs : List Int) : (D.crashed cs).s0.room + (D.crashed cs).s1.room ≤ D.s0.room + D.s1.room := by
  have h1 := crash_le D.s0 cs
  have h2 := crash_le D.s1 (D.s0.crash cs).2
  show (D.s0.crash cs).1.length + sizes [] + ((D.s1.crash (D.s0.crash cs).2).1.length + sizes []) ≤ _
  have : sizes [] = 0 := rfl
  omega
set_option maxRecDepth 100000 in
set_option maxHeartbeats 8000000 in
theorem DiskLasts_walk (sv cv : Value) (ops : List Dop) (cs : List Int) (n : Int) (w : World) (n0 : -9223372036854775808 ≤ n) (n1 : n ≤ 9223372036854775807) (hS : SlR Dop.R 9 w sv ops) (hC : SlZ w cv cs) (hM : bytesD ops ≤ 1048576) (hlen : ops.length ≤ 1048576) :
    Calls Try.prog 4 #[sv, .int .i64 n, cv] w fun e w' => e = .returned (.bool true) ∧ Below w.heap.size w w' := by
  have HS := hid hS
  have HC := hid hC
  have HL := hid (runD_live ops)
  have hf := new_run_fits ops ops.length hM hlen 0 (by omega)
  rw [List.take_length] at hf
  have HF := hid hf
  obtain ⟨Cv, pc, rfl⟩ := hC.form
  obtain ⟨A, c, rfl⟩ : ∃ A c, sv = .slice A ops.length c := by obtain ⟨A, c, _, e, h, _⟩ := hS; exact ⟨A, c, e⟩
  clear hS hC hf
  go_enter Try.func4, Try.ntmps4
  go_wp2_with fail
  refine (begun_any _ ops w HS.out hM hlen).mono ?_
  rintro e w1 ⟨d, rfl, hd, hb⟩
  have HD1 := hid hd
  have HB1 := hid hb
  clear hd hb
  go_wp2_with fail
  refine (head_any w1).mono ?_
  rintro e w2 ⟨rfl, hb⟩
  have HD2 := hid (HD1.out.below hb)
  have HB2 := hid (below_then HB1.out hb)
  clear hb HD1 HB1
  go_wp2_with fail
  refine (mod_any n 2 n0 n1 (by omega) (by omega) w2).mono ?_
  rintro e w' ⟨rfl, hw⟩
  replace hw := hw.symm
  subst hw
  obtain ⟨i, hi⟩ : ∃ i : Int, (cmod n 2 : Int) = i := ⟨_, rfl⟩
  have hi01 : i = 0 ∨ i = 1 := by rcases cmod2 n with h | h <;> rw [h] at hi <;> omega
  rw [hi]
  have HI := hid hi01
  obtain ⟨hmild, _, _⟩ := runD_state Dk.new 0 0 new_mild rfl rfl ops
  obtain ⟨D, hD⟩ : ∃ D, runD Dk.new ops = D := ⟨_, rfl⟩
  rw [hD] at HL HF HD2 hmild
  obtain ⟨s1, s2, s3, s4, s5, s6, _⟩ := sync_lasts HL.out HI.out cs
  have HE := hid (HL.out.err HI.out false (fun h => by cases h))
  have q1 := step_room D i .sync
  have q4 := step_named D i .sync
  have q5 := crashed_room (D.step i .sync) cs
  have hf2 : (D.step i .sync).fits 0 := (hmild.step i .sync).fits (by have := HL.out.n; omega) (by omega) (by show 0 + bytesD ops + 0 + 0 ≤ _; omega)
  have HF2 := hid hf2
  have hroom2 := hf2.room
  obtain ⟨D2, hD2⟩ : ∃ D2, D.step i .sync = D2 := ⟨_, rfl⟩
  rw [hD2] at s1 s2 s3 s4 s5 s6 HF2 hroom2 q5
  have T1 := hid s1
  have T2 := hid s2
  have T3 := hid s3
  have T4 := hid s4
  have T5 := hid s5
  have T6 := hid s6
  have HD2e := hid hD2
  clear hi hD hi01 hf2 s1 s2 s3 s4 s5 s6 q1 q4 hmild hD2
  obtain ⟨cu, hcu⟩ : ∃ cu, D.curN = cu := ⟨_, rfl⟩
  have HCU := hid hcu
  clear hcu
  obtain ⟨S, hS, hA⟩ := HD2.out
  go_wp2_with fail
  refine (Current_any w2 S d D hA).mono ?_
  rw [HCU.out]
  rintro e w' ⟨rfl, hw⟩
  replace hw := hw.symm
  subst hw
  clear hS hA
  go_wp2_with fail
  refine (Sync_db w.heap.size w2 d D i HB2.out.size HD2.out HF.out).mono ?_
  rw [HE.out, HD2e.out]
  rintro e w3 ⟨rfl, hd3, hb3⟩
  have HD3 := hid hd3
  have HB3 := hid (HB2.out.trans hb3)
  clear hd3 hb3 HD2 HB2
  obtain ⟨S, hS, hA⟩ := HD3.out
  go_wp2_with fail
  refine (Read_any w3 S d D2 i hA (by omega)).mono ?_
  rw [T1.out]
  rintro e w4 ⟨v4, rfl, hv4, hb4⟩
  obtain ⟨A4, c4, rfl⟩ := hv4.form
  have HV4 := hid hv4.sl
  have HO4 := hid hv4
  have HD4 := hid (HD3.out.below hb4)
  have HB4 := hid (below_then HB3.out hb4)
  obtain ⟨l4, hl4⟩ : ∃ l4, D2.readB i = l4 := ⟨_, rfl⟩
  rw [hl4] at HV4 HO4 ⊢
  have HL4 := hid hl4
  clear hS hA hv4 hb4 hl4
  go_wp2_with fail
  refine (Crash_old w w4 d D2 _ cs HB4.out HD4.out HF2.out HC.out).mono ?_
  rintro e w5 ⟨fd, rfl, -, hf5, hb5, hfr5⟩
  have HF5 := hid hf5
  have HB5 := hid hb5
  have HV5 : Hid (SlB w5 (.slice A4 l4.length c4) l4) := hid (sl_fr0 HV4.out hfr5 (fun h0 k hk e => by
    have := (World.ownsRow.lt HO4.out k hk).1
    have := HD3.out.cells
    omega))
  clear hf5 hb5 hfr5
  obtain ⟨S5, hS5, hA5⟩ := HF5.out
  go_wp2_with fail
  refine (Read_any w5 S5 fd _ i hA5 (by omega)).mono ?_
  rw [T2.out, T3.out, HL4.out]
  rintro e w6 ⟨v6, rfl, hv6, hb6⟩
  obtain ⟨A6, c6, rfl⟩ := hv6.form
  have k6 := conv_str hv6.sl
  have k4 := conv_str (HV5.out.below hb6)
  have HA6 := hid (hA5.below hb6)
  have HB6 := hid (below_then HB5.out hb6)
  clear hS5 hA5 hv6 hb6
  go_wp2_with fail
  refine (Current_any w6 S5 fd _ HA6.out).mono ?_
  rw [T4.out, HCU.out]
  rintro e w' ⟨rfl, hw⟩
  replace hw := hw.symm
  subst hw
  go_wp2_with fail
  refine (Pending_any w6 S5 fd _ HA6.out (by rw [T5.out]; omega)).mono ?_
  rw [T5.out]
  rintro e w7 ⟨rfl, n7, hw⟩
  have HA7 : Hid (DAt w7 S5 fd (D2.crashed cs)) := hid (by rw [hw]; exact HA6.out.below (below_drewN (Below.refl _ _) _))
  have HB7 : Hid (Below w.heap.size w w7) := hid (by rw [hw]; exact below_drewN HB6.out _)
  clear hw
  go_wp2_with fail
  refine (Dead_any w7 S5 fd _ HA7.out).mono ?_
  rw [T6.out]
  rintro e w' ⟨rfl, hw⟩
  replace hw := hw.symm
  subst hw
  go_wp2
  go_ret
  exact ⟨rfl, HB7.out⟩
end Go.Proofs.Ytcadacljacbipaa
