/- The walk of the law DiskWorlds. -/
import Derived.Test.YtcadacljacbipaaDkZ
import Derived.Test.YtcadacljacbipaaDkY
namespace Go.Proofs.Ytcadacljacbipaa
open Go.RowKit
/-- a disk whose blocks lie between lo and hi, or are newer than w0; nothing else has changed since w0 -/
def Gap (w0 W : World) (lo hi b : Nat) (D : Dk) : Prop := ∃ S : Nat → Prop, (∀ k, S k → (lo ≤ k ∧ k < hi) ∨ w0.heap.size ≤ k) ∧ DAt W S b D ∧ Fr (fun k => lo ≤ k ∧ k < hi) w0 W
theorem Gap.below {w0 W W' : World} {lo hi b : Nat} {D : Dk} (h : Gap w0 W lo hi b D) (hb : Below W.heap.size W W') : Gap w0 W' lo hi b D := by
  obtain ⟨S, h1, h2, h3⟩ := h
  exact ⟨S, h1, h2.below hb, h3.trans ((Fr.of_below hb).mono fun _ _ h => h.elim)⟩
theorem Gap.go {w0 W W' : World} {lo hi b : Nat} {D' : Dk} {S : Nat → Prop} (h1 : ∀ k, S k → (lo ≤ k ∧ k < hi) ∨ w0.heap.size ≤ k) (h3 : Fr (fun k => lo ≤ k ∧ k < hi) w0 W) (hd : Dt W W' S b D') : Gap w0 W' lo hi b D' :=
  ⟨_, fun k hk => hk.elim (h1 k) (fun g => .inr (Nat.le_trans h3.size g.1)), hd.1, h3.trans (hd.2.mono fun k _ hk => h1 k hk)⟩
theorem Append_gap (w0 w : World) (lo hi d : Nat) (D : Dk) (n : Int) (v : Value) (da : List UInt8) (h : Gap w0 w lo hi d D) (hf : D.fits da.length) (hv : SlB w v da) :
    Calls Try.prog 12 #[.pointer (some ⟨d, 0, none⟩), .int .i64 n, v] w fun e w' => e = .returned (.int .i64 (D.err n false)) ∧ Gap w0 w' lo hi d (D.step n (.append da)) := by
  obtain ⟨S, h1, h2, h3⟩ := h
  exact (Append_any w S d D n v da h2 hf hv).mono fun e w' h => ⟨h.1, Gap.go h1 h3 h.2⟩
theorem Switch_gap (w0 w : World) (lo hi d : Nat) (D : Dk) (n : Int) (h : Gap w0 w lo hi d D) (hf : D.fits 0) :
    Calls Try.prog 24 #[.pointer (some ⟨d, 0, none⟩), .int .i64 n] w fun e w' => e = .returned (.int .i64 (D.err n false)) ∧ Gap w0 w' lo hi d (D.step n .switch) := by
  obtain ⟨S, h1, h2, h3⟩ := h
  exact (Switch_any w S d D n h2 hf).mono fun e w' h => ⟨h.1, Gap.go h1 h3 h.2⟩
theorem Wipe_gap (w0 w : World) (lo hi d : Nat) (D : Dk) (n : Int) (h : Gap w0 w lo hi d D) (hf : D.fits 0) :
    Calls Try.prog 25 #[.pointer (some ⟨d, 0, none⟩), .int .i64 n] w fun e w' => e = .returned (.int .i64 (D.err n true)) ∧ Gap w0 w' lo hi d (D.step n .wipe) := by
  obtain ⟨S, h1, h2, h3⟩ := h
  exact (Wipe_any w S d D n h2 hf).mono fun e w' h => ⟨h.1, Gap.go h1 h3 h.2⟩
theorem Sync_gap (w0 w : World) (lo hi d : Nat) (D : Dk) (n : Int) (h : Gap w0 w lo hi d D) (hf : D.fits 0) :
    Calls Try.prog 19 #[.pointer (some ⟨d, 0, none⟩), .int .i64 n] w fun e w' => e = .returned (.int .i64 (D.err n false)) ∧ Gap w0 w' lo hi d (D.step n .sync) := by
  obtain ⟨S, h1, h2, h3⟩ := h
  exact (Sync_any w S d D n h2 hf).mono fun e w' h => ⟨h.1, Gap.go h1 h3 h.2⟩
theorem DAt.keep {S : Nat → Prop} {w w' : World} {d lo hi : Nat} {D : Dk} (h : DAt w S d D) (hf : Fr (fun k => lo ≤ k ∧ k < hi) w w') (hx : ∀ k, S k → k < lo) : DAt w' S d D :=
  h.fr hf (fun k hk g => by have := hx k hk; omega) (fun _ h => h) (fun k hk => Nat.lt_of_lt_of_le (h.lt k hk) hf.size)
theorem str_size (l : List UInt8) : (str l).size = l.length := by simp [str, ByteArray.size]
theorem str_cat (a b : List UInt8) : str (a ++ b) = str a ++ str b := by
  apply ByteArray.ext
  simp [str, ByteArray.data_append]
theorem mild_n {D : Dk} {k m : Nat} (h : D.mild k m ∧ D.named = 0) (i : Int) (o : DOp) : (D.step i o).mild (k + 1) (m + o.size) ∧ (D.step i o).named = 0 :=
  ⟨h.1.step i o, by have := step_named D i o; have := h.2; omega⟩
theorem mild_fits {D : Dk} {k m n : Nat} (h : D.mild k m ∧ D.named = 0) (hk : k ≤ 4194304) (hm : m + n ≤ 4194304) : D.fits n := h.1.fits (by rw [h.2]; omega) hk hm
theorem load_mild (a b : List UInt8) (c : Nat) : (Dk.load a b c).mild 0 (a.length + b.length) := ⟨by simp [Dk.load, Dslot.room, sizes], Nat.le_refl _, Nat.le_refl _⟩
set_option maxRecDepth 100000 in
set_option maxHeartbeats 16000000 in
theorem DiskWorlds_walk (sv cv mv : Value) (ops : List Dop) (cs : List Int) (m : List UInt8) (w : World) (hS : SlR Dop.R 9 w sv ops) (hC : SlZ w cv cs) (hMv : SlB w mv m) (hM : bytesD ops + m.length ≤ 1048576) (hlen : ops.length ≤ 1048576) :
    Calls Try.prog 5 #[sv, cv, mv] w fun e w' => e = .returned (.bool true) ∧ Below w.heap.size w w' := by
  have HS := hid hS
  have HC := hid hC
  have HM := hid hMv
  obtain ⟨Cv, pc, rfl⟩ := hC.form
  obtain ⟨Mv, pm, rfl⟩ := hMv.form
  obtain ⟨A, c0, rfl⟩ : ∃ A c, sv = .slice A ops.length c := by obtain ⟨A, c, _, e, h, _⟩ := hS; exact ⟨A, c, e⟩
  clear hS hC hMv
  go_enter Try.func5, Try.ntmps5
  go_wp2_with fail
  refine (begun_any _ ops w HS.out (by omega) hlen).mono ?_
  rintro e w1 ⟨d, rfl, hd, hb⟩
  have HD1 := hid hd
  have HB1 := hid hb
  clear hd hb
  go_wp2_with fail
  refine (head_any w1).mono ?_
  rintro e w2 ⟨rfl, hb⟩
  have HD2 := hid (HD1.out.below hb)
  have HB2 := hid (below_then HB1.out hb)
  clear hb HD1 HB1
  obtain ⟨hmild, hnm, hdd⟩ := runD_state Dk.new 0 0 new_mild rfl rfl ops
  obtain ⟨D, hD⟩ : ∃ D, runD Dk.new ops = D := ⟨_, rfl⟩
  rw [hD] at HD2 hmild hnm hdd
  have HF : Hid (D.fits 0) := hid (hmild.fits (by omega) (by omega) (by omega))
  have HRM : Hid (D.s0.room + D.s1.room ≤ bytesD ops) := hid (by have := hmild.room; omega)
  obtain ⟨Sd, hSd, hAd⟩ := HD2.out
  have hcur : D.cur < 2 := hAd.ok.2.2
  have HSd := hid hSd
  have HAd := hid hAd
  clear hmild hnm hdd hD hSd hAd HD2
  have hla := crash_le D.s0 cs
  have hlb := crash_le D.s1 (D.s0.crash cs).2
  obtain ⟨la, hlae⟩ : ∃ la, (D.s0.crash cs).1 = la := ⟨_, rfl⟩
  obtain ⟨lb, hlbe⟩ : ∃ lb, (D.s1.crash (D.s0.crash cs).2).1 = lb := ⟨_, rfl⟩
  obtain ⟨c, hce⟩ : ∃ c, D.cur = c := ⟨_, rfl⟩
  have HCR : Hid (D.crashed cs = Dk.load la lb c) := hid (by rw [← hlae, ← hlbe, ← hce]; rfl)
  rw [hlae] at hla
  rw [hlbe] at hlb
  rw [hce] at hcur
  have hab : la.length + lb.length + m.length ≤ 1048576 := by have := HRM.out; omega
  obtain ⟨X, hX⟩ : ∃ X, ({ D with dead := true } : Dk) = X := ⟨_, rfl⟩
  have HXC : Hid (X.crashed cs = Dk.load la lb c) := hid (by rw [← hX]; exact HCR.out)
  have HXF : Hid (X.fits 0) := hid (by rw [← hX]; exact ⟨HF.out.room, HF.out.acts, HF.out.done, HF.out.named⟩)
  have HXD : Hid (({ X with dead := true } : Dk) = X) := hid (by rw [← hX])
  have HX := hid hX
  have hLM := hid (load_mild la lb c)
  clear hla hlb hlae hlbe hce hX
  go_wp2_with fail
  refine (Crash_any w2 Sd d D _ cs HAd.out HF.out (HC.out.below HB2.out) (fun h0 k hk hs => by have h1 := slz_lt HC.out h0 k hk; have h2 := HSd.out k hs; omega)).mono ?_
  rw [HCR.out, HX.out]
  rintro e w3 ⟨a, rfl, hfr, hd3, ha3⟩
  have HAd3 := hid hd3
  have HAa3 := hid ha3
  have HB3 : Hid (Below w.heap.size w w3) := hid (HB2.out.trans (hfr.to_below (fun k hk e => by have := HSd.out _ HAd.out.sd; omega) HB2.out.size))
  have HSd2 : Hid (∀ k, Sd k → k < w2.heap.size) := hid HAd.out.lt
  have HZ3 : Hid (w2.heap.size ≤ w3.heap.size) := hid hfr.size
  clear hfr hd3 ha3 HAd
  go_wp2_with fail
  refine (Crash_any w3 Sd d X _ cs HAd3.out HXF.out (HC.out.below HB3.out) (fun h0 k hk hs => by have h1 := slz_lt HC.out h0 k hk; have h2 := HSd.out k hs; omega)).mono ?_
  rw [HXC.out, HXD.out]
  rintro e w4 ⟨b, rfl, hfr, hd4, hb4⟩
  have hdl := HSd2.out _ HAd3.out.sd
  have HAa4 : Hid (DAt w4 (fun k => Nw w2 w3 k) a (Dk.load la lb c)) := hid (HAa3.out.fr hfr (fun k hk e => by have := hk.1; omega) (fun _ h => h) (fun k hk => Nat.lt_of_lt_of_le hk.2 hfr.size))
  have HAd4 := hid hd4
  have HAb4 := hid hb4
  have HB4 : Hid (Below w.heap.size w w4) := hid (HB3.out.trans (hfr.to_below (fun k hk e => by have := HSd.out _ HAd3.out.sd; omega) HB3.out.size))
  have HZ4 : Hid (w3.heap.size ≤ w4.heap.size) := hid hfr.size
  clear hfr hd4 hb4 HAd3 HAa3 hdl
  go_wp2_with fail
  refine (alike_any w4 _ _ a b _ _ HAa4.out HAb4.out (by have := hLM.out.room; omega) (by have := hLM.out.room; omega) rfl rfl rfl).mono ?_
  rintro e w5 ⟨rfl, hb5⟩
  have HAa5 := hid (HAa4.out.below hb5)
  have HAb5 := hid (HAb4.out.below hb5)
  have HAd5 := hid (HAd4.out.below hb5)
  have HB5 := hid (below_then HB4.out hb5)
  have HZ5 : Hid (w4.heap.size ≤ w5.heap.size) := hid hb5.size
  clear hb5 HAa4 HAb4 HAd4
  go_wp2_with fail
  refine (Slots_any w5 _ a _ HAa5.out (by have := hLM.out.room; omega)).mono ?_
  rw [show (Dk.load la lb c).told0 = la from rfl, show (Dk.load la lb c).told1 = lb from rfl, show (Dk.load la lb c).curN = c from rfl]
  rintro e w6 ⟨v0, v1, rfl, ho0, ho1, -, hb6⟩
  obtain ⟨A0, p0, rfl⟩ := ho0.form
  obtain ⟨A1, p1, rfl⟩ := ho1.form
  have HO0 := hid ho0
  have HO1 := hid ho1
  have HAa6 := hid (HAa5.out.below hb6)
  have HAb6 := hid (HAb5.out.below hb6)
  have HAd6 := hid (HAd5.out.below hb6)
  have HB6 := hid (below_then HB5.out hb6)
  have HZ6 : Hid (w5.heap.size ≤ w6.heap.size) := hid hb6.size
  clear ho0 ho1 hb6 HAa5 HAb5 HAd5
  go_wp2_with fail
  refine Calls.seen (fun W => Below w6.heap.size w6 W ∧ W.heap[w6.heap.size]? = some (.cells #[.slice A0 la.length p0, .slice A1 lb.length p1] 32 (0, 0))) ⟨(Below.refl _ _).alloc (Nat.le_refl _) _, heap_alloc_new _ _⟩ fun w7 H7 => ?_
  have HAa7 := hid (HAa6.out.below H7.out.1)
  have HAb7 := hid (HAb6.out.below H7.out.1)
  have HAd7 := hid (HAd6.out.below H7.out.1)
  have HO07 := hid (HO0.out.below H7.out.1)
  have HO17 := hid (HO1.out.below H7.out.1)
  have HW7 := hid H7.out.2
  have HB7 := hid (below_then HB6.out H7.out.1)
  have HZ7 : Hid (w6.heap.size ≤ w7.heap.size) := hid H7.out.1.size
  clear HAa6 HAb6 HAd6 HO0 HO1 H7
  refine (Read_any w7 _ b _ 0 HAb7.out (by have := hLM.out.room; omega)).mono ?_
  rw [show (Dk.load la lb c).readB 0 = la from rfl, show (Dk.load la lb c).readE 0 = 0 from rfl]
  rintro e w8 ⟨v8, rfl, ho8, hb8⟩
  obtain ⟨A8, p8, rfl⟩ := ho8.form
  have HO8 := hid ho8
  have HB8 := hid hb8
  clear ho8 hb8
  go_wp2_with fail
  refine (over_any _ la _ w8 HO8.out).mono ?_
  rintro e w9 ⟨rfl, hf9⟩
  have HB9 := hid (HB8.out.trans (hf9.to_below (fun k hk e => by have := (World.ownsRow.lt HO8.out k e).1; omega) HB8.out.size))
  have HAa9 := hid (HAa7.out.below HB9.out)
  have HAb9 := hid (HAb7.out.below HB9.out)
  have HAd9 := hid (HAd7.out.below HB9.out)
  have HO09 := hid (HO07.out.below HB9.out)
  have HO19 := hid (HO17.out.below HB9.out)
  have HW9 := hid (blk_keep HB9.out HW7.out (blk_lt HW7.out))
  have HBB9 := hid (below_then HB7.out HB9.out)
  have HZ9 : Hid (w7.heap.size ≤ w9.heap.size) := hid HB9.out.size
  have HG9 : Hid (Gap w9 w9 w3.heap.size w4.heap.size b (Dk.load la lb c)) := hid ⟨_, fun k hk => .inl hk, HAb9.out, Fr.refl _ _⟩
  clear hf9 HB8 HO8 HAa7 HAb7 HAd7 HO07 HO17 HW7 HB7 HAb9 HB9
  obtain ⟨E, hE⟩ : ∃ E, E = five (Dk.load la lb c) m c := ⟨_, rfl⟩
  rcases (show c = 0 ∨ c = 1 by omega) with hc | hc
  · skip
    have hF := hid (five_0 la lb m)
    subst hc
    obtain ⟨t0, t1, e0, e1, e2, e3, e4⟩ := hF.out
    have q0 : Hid ((Dk.load la lb 0).fits m.length) := hid (mild_fits ⟨hLM.out, rfl⟩ (by omega) (by omega))
    have M1 := hid (mild_n ⟨hLM.out, rfl⟩ 0 (.append m))
    have q1 : Hid (((Dk.load la lb 0).step 0 (.append m)).fits m.length) := hid (mild_fits M1.out (by omega) (by have : (DOp.append m).size = m.length := rfl; omega))
    have M2 := hid (mild_n M1.out 1 (.append m))
    have q2 : Hid ((((Dk.load la lb 0).step 0 (.append m)).step 1 (.append m)).fits 0) := hid (mild_fits M2.out (by omega) (by have : (DOp.append m).size = m.length := rfl; omega))
    have M3 := hid (mild_n M2.out 1 .switch)
    have q3 : Hid (((((Dk.load la lb 0).step 0 (.append m)).step 1 (.append m)).step 1 .switch).fits 0) := hid (mild_fits M3.out (by omega) (by have h1 : (DOp.append m).size = m.length := rfl; have h2 : DOp.switch.size = 0 := rfl; omega))
    have M4 := hid (mild_n M3.out 0 .wipe)
    have q4 : Hid ((((((Dk.load la lb 0).step 0 (.append m)).step 1 (.append m)).step 1 .switch).step 0 .wipe).fits 0) := hid (mild_fits M4.out (by omega) (by have h1 : (DOp.append m).size = m.length := rfl; have h2 : DOp.switch.size = 0 := rfl; have h3 : DOp.wipe.size = 0 := rfl; omega))
    have M5 := hid (mild_n M4.out 0 .sync)
    have q5 : Hid ((five (Dk.load la lb 0) m 0).s0.room + (five (Dk.load la lb 0) m 0).s1.room ≤ 140737488355328) := hid (by have h0 := M5.out.1.room; have h1 : (DOp.append m).size = m.length := rfl; have h2 : DOp.switch.size = 0 := rfl; have h3 : DOp.wipe.size = 0 := rfl; have h4 : DOp.sync.size = 0 := rfl; show (((((((Dk.load la lb 0).step 0 (.append m)).step 1 (.append m)).step 1 .switch).step 0 .wipe).step 0 .sync)).s0.room + (((((((Dk.load la lb 0).step 0 (.append m)).step 1 (.append m)).step 1 .switch).step 0 .wipe).step 0 .sync)).s1.room ≤ _; omega)
    have E0 := hid e0
    have E1 := hid e1
    have E2 := hid e2
    have E3 := hid e3
    have E4 := hid e4
    have T0 := hid t0
    have T1 := hid t1
    clear e0 e1 e2 e3 e4 t0 t1 hF M1 M2 M3 M4 M5 hE
    go_wp2_with fail
    refine (wide_any _ m w9 (HM.out.below HBB9.out) (by omega)).mono ?_
    rintro e w10 ⟨g1, k1, rfl, ho, -, hb⟩
    have G10 := hid (HG9.out.below hb)
    have HV10 := hid (wide_sl ho)
    have HM10 := hid (HM.out.below (below_then HBB9.out hb))
    have HBB10 := hid (below_then HBB9.out hb)
    clear ho hb HG9
    go_wp2_with fail
    refine (Append_gap w9 w10 _ _ b _ 0 _ m G10.out q0.out HV10.out).mono ?_
    rw [E0.out]
    rintro e w11 ⟨rfl, hg⟩
    have G11 := hid hg
    have HBB11 : Hid (Below w.heap.size w w11) := hid (by obtain ⟨_, _, _, h3⟩ := hg; exact HBB9.out.trans (h3.to_below (fun k hk g => by have := HB3.out.size; omega) HBB9.out.size))
    clear hg G10 HM10 HBB10
    go_wp2_with fail
    refine (wide_any _ m w11 (HM.out.below HBB11.out) (by omega)).mono ?_
    rintro e w12 ⟨g2, k2, rfl, ho, -, hb⟩
    have G12 := hid (G11.out.below hb)
    have HV12 := hid (wide_sl ho)
    clear ho hb G11
    go_wp2_with fail
    refine (Append_gap w9 w12 _ _ b _ 1 _ m G12.out q1.out HV12.out).mono ?_
    rw [E1.out]
    rintro e w13 ⟨rfl, hg⟩
    have G13 := hid hg
    clear hg G12
    go_wp2_with fail
    refine (Switch_gap w9 w13 _ _ b _ 1 G13.out q2.out).mono ?_
    rw [E2.out]
    rintro e w14 ⟨rfl, hg⟩
    have G14 := hid hg
    clear hg G13
    go_wp2_with fail
    refine (Wipe_gap w9 w14 _ _ b _ 0 G14.out q3.out).mono ?_
    rw [E3.out]
    rintro e w15 ⟨rfl, hg⟩
    have G15 := hid hg
    clear hg G14
    go_wp2_with fail
    refine (Sync_gap w9 w15 _ _ b _ 0 G15.out q4.out).mono ?_
    rw [E4.out]
    rintro e w16 ⟨rfl, hg⟩
    have G16 : Hid (Gap w9 w16 w3.heap.size w4.heap.size b (five (Dk.load la lb 0) m 0)) := hid hg
    clear hg G15
    obtain ⟨Sb, hSb, hAb, hfb⟩ := G16.out
    have hz3 := HZ3.out
    have hz4 := HZ4.out
    have hz5 := HZ5.out
    have hz6 := HZ6.out
    have hz7 := HZ7.out
    have HAb16 := hid hAb
    have HAa16 := hid (HAa9.out.keep hfb (fun k hk => hk.2))
    have HAd16 := hid (HAd9.out.keep hfb (fun k hk => by have := HSd2.out k hk; omega))
    have HO016 := hid (HO09.out.fr hfb (fun k hk g => by have := (World.ownsRow.lt HO09.out k hk).1; omega))
    have HO116 := hid (HO19.out.fr hfb (fun k hk g => by have := (World.ownsRow.lt HO19.out k hk).1; omega))
    have HW16 := hid (blk_fr hfb HW9.out (fun g => by omega))
    have HBB16 : Hid (Below w.heap.size w w16) := hid (HBB9.out.trans (hfb.to_below (fun k hk g => by have := HB3.out.size; omega) HBB9.out.size))
    have HSB : Hid (∀ k, Sb k → w3.heap.size ≤ k ∨ w9.heap.size ≤ k) := hid (fun k hk => (hSb k hk).elim (fun g => .inl g.1) .inr)
    have HBS : Hid (w9.heap.size ≤ w16.heap.size) := hid hfb.size
    clear hSb hAb hfb G16 HAa9 HAd9 HO09 HO19 HW9 HBB9 HBB11 hz3 hz4 hz5 hz6 hz7
    go_wp2_with fail
    refine (Slots_any w16 _ a _ HAa16.out (by have := hLM.out.room; omega)).mono ?_
    rw [show (Dk.load la lb 0).told0 = la from rfl, show (Dk.load la lb 0).told1 = lb from rfl, show (Dk.load la lb 0).curN = 0 from rfl]
    rintro e w17 ⟨u0, u1, rfl, hp0, hp1, -, hb17⟩
    obtain ⟨B0, r0, rfl⟩ := hp0.form
    obtain ⟨B1, r1, rfl⟩ := hp1.form
    have HP0 := hid hp0
    have HP1 := hid hp1
    have HB17 := hid hb17
    have HBB17 := hid (below_then HBB16.out hb17)
    clear hp0 hp1 hb17
    go_wp2_with fail
    refine Calls.seen (fun W => Below w17.heap.size w17 W ∧ W.heap[w17.heap.size]? = some (.cells #[.slice B0 la.length r0, .slice B1 lb.length r1] 32 (0, 0))) ⟨(Below.refl _ _).alloc (Nat.le_refl _) _, heap_alloc_new _ _⟩ fun w18 H18 => ?_
    have HB18 := hid (below_then HB17.out H18.out.1)
    have HBB18 := hid (below_then HBB17.out H18.out.1)
    have hz3 := HZ3.out
    have hz4 := HZ4.out
    have hz5 := HZ5.out
    have hz6 := HZ6.out
    have hz7 := HZ7.out
    have hz9 := HZ9.out
    have hz18 := HB18.out.size
    have hz17 := HB17.out.size
    have hz16 := HBS.out
    have hdl := HSd2.out _ HAd16.out.sd
    refine (Crash_any w18 Sd d X _ cs (HAd16.out.below HB18.out) HXF.out (HC.out.below HBB18.out) (fun h0 k hk hs => by have h1 := slz_lt HC.out h0 k hk; have h2 := HSd.out k hs; omega)).mono ?_
    rw [HXC.out, HXD.out]
    rintro e w19 ⟨cc, rfl, hfr, hd19, hc19⟩
    have HC19 := hid hc19
    have HAa19 : Hid (DAt w19 (fun k => Nw w2 w3 k) a (Dk.load la lb 0)) := hid ((HAa16.out.below HB18.out).fr hfr (fun k hk e => by have := hk.1; omega) (fun _ h => h) (fun k hk => Nat.lt_of_lt_of_le ((HAa16.out.below HB18.out).lt k hk) hfr.size))
    have HAb19 : Hid (DAt w19 Sb b (five (Dk.load la lb 0) m 0)) := hid ((HAb16.out.below HB18.out).fr hfr (fun k hk e => by have := HSB.out k hk; omega) (fun _ h => h) (fun k hk => Nat.lt_of_lt_of_le ((HAb16.out.below HB18.out).lt k hk) hfr.size))
    have HO019 := hid ((HO016.out.below HB18.out).fr hfr (fun k hk e => by have := (World.ownsRow.lt HO016.out k hk).1; omega))
    have HO119 := hid ((HO116.out.below HB18.out).fr hfr (fun k hk e => by have := (World.ownsRow.lt HO116.out k hk).1; omega))
    have HP019 := hid ((HP0.out.below H18.out.1).fr hfr (fun k hk e => by have := (World.ownsRow.lt HP0.out k hk).1; omega))
    have HP119 := hid ((HP1.out.below H18.out.1).fr hfr (fun k hk e => by have := (World.ownsRow.lt HP1.out k hk).1; omega))
    have HW19 := hid (blk_fr hfr (blk_keep HB18.out HW16.out (blk_lt HW16.out)) (by omega))
    have HU19 := hid (blk_fr hfr H18.out.2 (by omega))
    have HBB19 : Hid (Below w.heap.size w w19) := hid (HBB18.out.trans (hfr.to_below (fun k hk e => by have := HSd.out _ HAd16.out.sd; omega) HBB18.out.size))
    clear hfr hd19 hc19 HAd16 HAa16 HAb16 HO016 HO116 HP0 HP1 HW16 H18 HBB16 HBB17 HBB18 HB17 HB18 hz3 hz4 hz5 hz6 hz7 hz9 hz18 hz17 hz16 hdl
    have a0 : w19.cell? ⟨w17.heap.size, 0, none⟩ = some (.slice B0 la.length r0) := by rw [blk_cell HU19.out]; rfl
    have a1 : w19.cell? ⟨w17.heap.size, 1, none⟩ = some (.slice B1 lb.length r1) := by rw [blk_cell HU19.out]; rfl
    have b0 : w19.cell? ⟨w6.heap.size, 0, none⟩ = some (.slice A0 la.length p0) := by rw [blk_cell HW19.out]; rfl
    have b1 : w19.cell? ⟨w6.heap.size, 1, none⟩ = some (.slice A1 lb.length p1) := by rw [blk_cell HW19.out]; rfl
    have s0 := conv_str HO019.out.sl
    have s1 := conv_str HO119.out.sl
    have s2 := conv_str HP019.out.sl
    have s3 := conv_str HP119.out.sl
    go_wp2_with fail
    refine (alike_any w19 _ _ a cc _ _ HAa19.out HC19.out (by have := hLM.out.room; omega) (by have := hLM.out.room; omega) rfl rfl rfl).mono ?_
    rintro e w20 ⟨rfl, hb20⟩
    have HAb20 := hid (HAb19.out.below hb20)
    have HO20 := hid (HO119.out.below hb20)
    have HW20 := hid (blk_keep hb20 HW19.out (blk_lt HW19.out))
    have HBB20 := hid (below_then HBB19.out hb20)
    clear hb20 a0 a1 b0 b1 s0 s1 s2 s3 HO019 HO119 HAa19 HAb19 HC19 HP019 HP119 HU19 HW19 HBB19
    go_wp2_with fail
    refine (Slots_any w20 _ b _ HAb20.out q5.out).mono ?_
    rw [T0.out, T1.out]
    rintro e w21 ⟨x0, x1, rfl, hx0, hx1, -, hb21⟩
    obtain ⟨X0, y0, rfl⟩ := hx0.form
    obtain ⟨X1, y1, rfl⟩ := hx1.form
    have HXS := hid hx1.sl
    have HO21 := hid (HO20.out.below hb21)
    have HW21 := hid (blk_keep hb21 HW20.out (blk_lt HW20.out))
    have HBB21 := hid (below_then HBB20.out hb21)
    clear hx0 hx1 hb21 HO20 HW20 HBB20
    go_upto_region 18 with (fail)
    refine Code.seen (fun W => Below w21.heap.size w21 W ∧ W.heap[w21.heap.size]? = some (.cells #[.slice X0 0 y0, .slice X1 (lb.length + m.length) y1] 32 (0, 0))) ⟨(Below.refl _ _).alloc (Nat.le_refl _) _, heap_alloc_new _ _⟩ fun w22 H22 => ?_
    have HW22 := hid (blk_keep H22.out.1 HW21.out (blk_lt HW21.out))
    have HBB22 := hid (below_then HBB21.out H22.out.1)
    have x0 : w22.cell? ⟨w21.heap.size, 0, none⟩ = some (.slice X0 0 y0) := by rw [blk_cell H22.out.2]; rfl
    have x1 : w22.cell? ⟨w21.heap.size, 1, none⟩ = some (.slice X1 (lb.length + m.length) y1) := by rw [blk_cell H22.out.2]; rfl
    have z1 : w22.cell? ⟨w6.heap.size, 1, none⟩ = some (.slice A1 lb.length p1) := by rw [blk_cell HW22.out]; rfl
    have k1 : ∀ n, (convert 22 9 (.slice X1 (lb.length + m.length) y1)).run Try.prog (w22.drewN n) = .ok (.string (str (lb ++ m))) (w22.drewN n) := fun n => conv_str (by have := HXS.out.below (H22.out.1.trans (below_drewN (Below.refl _ _) n)); rw [List.length_append] at this; exact this)
    have k2 : ∀ n, (convert 22 9 (.slice A1 lb.length p1)).run Try.prog (w22.drewN n) = .ok (.string (str lb)) (w22.drewN n) := fun n => conv_str (HO21.out.sl.below (H22.out.1.trans (below_drewN (Below.refl _ _) n)))
    have k3 : ∀ n, (convert 22 9 (.slice Mv m.length pm)).run Try.prog (w22.drewN n) = .ok (.string (str m)) (w22.drewN n) := fun n => conv_str (HM.out.below (below_drewN HBB22.out n))
    have hcat : str lb ++ str m = str (lb ++ m) := (str_cat _ _).symm
    have hsz : (str lb).size + (str m).size ≤ 9223372036854775807 := by rw [str_size, str_size]; omega
    have hadd : ∀ w, (Op.stringOp .add (str lb) (str m)).run Try.prog w = .ok (.string (str (lb ++ m))) w := fun w => by rw [run_string_add_sum _ _ _ hsz, hcat]
    have hw1 : IntKind.i64.wrap (1 - 0) = 1 := rfl
    have hw2 : IntKind.i64.wrap 1 = 1 := rfl
    go_quiet (fail)
    go_wp2_with fail
    go_ret
    exact ⟨rfl, below_drewN HBB22.out _⟩
  · skip
    have hF := hid (five_1 la lb m)
    subst hc
    obtain ⟨t0, t1, e0, e1, e2, e3, e4⟩ := hF.out
    have q0 : Hid ((Dk.load la lb 1).fits m.length) := hid (mild_fits ⟨hLM.out, rfl⟩ (by omega) (by omega))
    have M1 := hid (mild_n ⟨hLM.out, rfl⟩ 0 (.append m))
    have q1 : Hid (((Dk.load la lb 1).step 0 (.append m)).fits m.length) := hid (mild_fits M1.out (by omega) (by have : (DOp.append m).size = m.length := rfl; omega))
    have M2 := hid (mild_n M1.out 1 (.append m))
    have q2 : Hid ((((Dk.load la lb 1).step 0 (.append m)).step 1 (.append m)).fits 0) := hid (mild_fits M2.out (by omega) (by have : (DOp.append m).size = m.length := rfl; omega))
    have M3 := hid (mild_n M2.out 0 .switch)
    have q3 : Hid (((((Dk.load la lb 1).step 0 (.append m)).step 1 (.append m)).step 0 .switch).fits 0) := hid (mild_fits M3.out (by omega) (by have h1 : (DOp.append m).size = m.length := rfl; have h2 : DOp.switch.size = 0 := rfl; omega))
    have M4 := hid (mild_n M3.out 1 .wipe)
    have q4 : Hid ((((((Dk.load la lb 1).step 0 (.append m)).step 1 (.append m)).step 0 .switch).step 1 .wipe).fits 0) := hid (mild_fits M4.out (by omega) (by have h1 : (DOp.append m).size = m.length := rfl; have h2 : DOp.switch.size = 0 := rfl; have h3 : DOp.wipe.size = 0 := rfl; omega))
    have M5 := hid (mild_n M4.out 1 .sync)
    have q5 : Hid ((five (Dk.load la lb 1) m 1).s0.room + (five (Dk.load la lb 1) m 1).s1.room ≤ 140737488355328) := hid (by have h0 := M5.out.1.room; have h1 : (DOp.append m).size = m.length := rfl; have h2 : DOp.switch.size = 0 := rfl; have h3 : DOp.wipe.size = 0 := rfl; have h4 : DOp.sync.size = 0 := rfl; show (((((((Dk.load la lb 1).step 0 (.append m)).step 1 (.append m)).step 0 .switch).step 1 .wipe).step 1 .sync)).s0.room + (((((((Dk.load la lb 1).step 0 (.append m)).step 1 (.append m)).step 0 .switch).step 1 .wipe).step 1 .sync)).s1.room ≤ _; omega)
    have E0 := hid e0
    have E1 := hid e1
    have E2 := hid e2
    have E3 := hid e3
    have E4 := hid e4
    have T0 := hid t0
    have T1 := hid t1
    clear e0 e1 e2 e3 e4 t0 t1 hF M1 M2 M3 M4 M5 hE
    go_wp2_with fail
    refine (wide_any _ m w9 (HM.out.below HBB9.out) (by omega)).mono ?_
    rintro e w10 ⟨g1, k1, rfl, ho, -, hb⟩
    have G10 := hid (HG9.out.below hb)
    have HV10 := hid (wide_sl ho)
    have HM10 := hid (HM.out.below (below_then HBB9.out hb))
    have HBB10 := hid (below_then HBB9.out hb)
    clear ho hb HG9
    go_wp2_with fail
    refine (Append_gap w9 w10 _ _ b _ 0 _ m G10.out q0.out HV10.out).mono ?_
    rw [E0.out]
    rintro e w11 ⟨rfl, hg⟩
    have G11 := hid hg
    have HBB11 : Hid (Below w.heap.size w w11) := hid (by obtain ⟨_, _, _, h3⟩ := hg; exact HBB9.out.trans (h3.to_below (fun k hk g => by have := HB3.out.size; omega) HBB9.out.size))
    clear hg G10 HM10 HBB10
    go_wp2_with fail
    refine (wide_any _ m w11 (HM.out.below HBB11.out) (by omega)).mono ?_
    rintro e w12 ⟨g2, k2, rfl, ho, -, hb⟩
    have G12 := hid (G11.out.below hb)
    have HV12 := hid (wide_sl ho)
    clear ho hb G11
    go_wp2_with fail
    refine (Append_gap w9 w12 _ _ b _ 1 _ m G12.out q1.out HV12.out).mono ?_
    rw [E1.out]
    rintro e w13 ⟨rfl, hg⟩
    have G13 := hid hg
    clear hg G12
    go_wp2_with fail
    refine (Switch_gap w9 w13 _ _ b _ 0 G13.out q2.out).mono ?_
    rw [E2.out]
    rintro e w14 ⟨rfl, hg⟩
    have G14 := hid hg
    clear hg G13
    go_wp2_with fail
    refine (Wipe_gap w9 w14 _ _ b _ 1 G14.out q3.out).mono ?_
    rw [E3.out]
    rintro e w15 ⟨rfl, hg⟩
    have G15 := hid hg
    clear hg G14
    go_wp2_with fail
    refine (Sync_gap w9 w15 _ _ b _ 1 G15.out q4.out).mono ?_
    rw [E4.out]
    rintro e w16 ⟨rfl, hg⟩
    have G16 : Hid (Gap w9 w16 w3.heap.size w4.heap.size b (five (Dk.load la lb 1) m 1)) := hid hg
    clear hg G15
    obtain ⟨Sb, hSb, hAb, hfb⟩ := G16.out
    have hz3 := HZ3.out
    have hz4 := HZ4.out
    have hz5 := HZ5.out
    have hz6 := HZ6.out
    have hz7 := HZ7.out
    have HAb16 := hid hAb
    have HAa16 := hid (HAa9.out.keep hfb (fun k hk => hk.2))
    have HAd16 := hid (HAd9.out.keep hfb (fun k hk => by have := HSd2.out k hk; omega))
    have HO016 := hid (HO09.out.fr hfb (fun k hk g => by have := (World.ownsRow.lt HO09.out k hk).1; omega))
    have HO116 := hid (HO19.out.fr hfb (fun k hk g => by have := (World.ownsRow.lt HO19.out k hk).1; omega))
    have HW16 := hid (blk_fr hfb HW9.out (fun g => by omega))
    have HBB16 : Hid (Below w.heap.size w w16) := hid (HBB9.out.trans (hfb.to_below (fun k hk g => by have := HB3.out.size; omega) HBB9.out.size))
    have HSB : Hid (∀ k, Sb k → w3.heap.size ≤ k ∨ w9.heap.size ≤ k) := hid (fun k hk => (hSb k hk).elim (fun g => .inl g.1) .inr)
    have HBS : Hid (w9.heap.size ≤ w16.heap.size) := hid hfb.size
    clear hSb hAb hfb G16 HAa9 HAd9 HO09 HO19 HW9 HBB9 HBB11 hz3 hz4 hz5 hz6 hz7
    go_wp2_with fail
    refine (Slots_any w16 _ a _ HAa16.out (by have := hLM.out.room; omega)).mono ?_
    rw [show (Dk.load la lb 1).told0 = la from rfl, show (Dk.load la lb 1).told1 = lb from rfl, show (Dk.load la lb 1).curN = 1 from rfl]
    rintro e w17 ⟨u0, u1, rfl, hp0, hp1, -, hb17⟩
    obtain ⟨B0, r0, rfl⟩ := hp0.form
    obtain ⟨B1, r1, rfl⟩ := hp1.form
    have HP0 := hid hp0
    have HP1 := hid hp1
    have HB17 := hid hb17
    have HBB17 := hid (below_then HBB16.out hb17)
    clear hp0 hp1 hb17
    go_wp2_with fail
    refine Calls.seen (fun W => Below w17.heap.size w17 W ∧ W.heap[w17.heap.size]? = some (.cells #[.slice B0 la.length r0, .slice B1 lb.length r1] 32 (0, 0))) ⟨(Below.refl _ _).alloc (Nat.le_refl _) _, heap_alloc_new _ _⟩ fun w18 H18 => ?_
    have HB18 := hid (below_then HB17.out H18.out.1)
    have HBB18 := hid (below_then HBB17.out H18.out.1)
    have hz3 := HZ3.out
    have hz4 := HZ4.out
    have hz5 := HZ5.out
    have hz6 := HZ6.out
    have hz7 := HZ7.out
    have hz9 := HZ9.out
    have hz18 := HB18.out.size
    have hz17 := HB17.out.size
    have hz16 := HBS.out
    have hdl := HSd2.out _ HAd16.out.sd
    refine (Crash_any w18 Sd d X _ cs (HAd16.out.below HB18.out) HXF.out (HC.out.below HBB18.out) (fun h0 k hk hs => by have h1 := slz_lt HC.out h0 k hk; have h2 := HSd.out k hs; omega)).mono ?_
    rw [HXC.out, HXD.out]
    rintro e w19 ⟨cc, rfl, hfr, hd19, hc19⟩
    have HC19 := hid hc19
    have HAa19 : Hid (DAt w19 (fun k => Nw w2 w3 k) a (Dk.load la lb 1)) := hid ((HAa16.out.below HB18.out).fr hfr (fun k hk e => by have := hk.1; omega) (fun _ h => h) (fun k hk => Nat.lt_of_lt_of_le ((HAa16.out.below HB18.out).lt k hk) hfr.size))
    have HAb19 : Hid (DAt w19 Sb b (five (Dk.load la lb 1) m 1)) := hid ((HAb16.out.below HB18.out).fr hfr (fun k hk e => by have := HSB.out k hk; omega) (fun _ h => h) (fun k hk => Nat.lt_of_lt_of_le ((HAb16.out.below HB18.out).lt k hk) hfr.size))
    have HO019 := hid ((HO016.out.below HB18.out).fr hfr (fun k hk e => by have := (World.ownsRow.lt HO016.out k hk).1; omega))
    have HO119 := hid ((HO116.out.below HB18.out).fr hfr (fun k hk e => by have := (World.ownsRow.lt HO116.out k hk).1; omega))
    have HP019 := hid ((HP0.out.below H18.out.1).fr hfr (fun k hk e => by have := (World.ownsRow.lt HP0.out k hk).1; omega))
    have HP119 := hid ((HP1.out.below H18.out.1).fr hfr (fun k hk e => by have := (World.ownsRow.lt HP1.out k hk).1; omega))
    have HW19 := hid (blk_fr hfr (blk_keep HB18.out HW16.out (blk_lt HW16.out)) (by omega))
    have HU19 := hid (blk_fr hfr H18.out.2 (by omega))
    have HBB19 : Hid (Below w.heap.size w w19) := hid (HBB18.out.trans (hfr.to_below (fun k hk e => by have := HSd.out _ HAd16.out.sd; omega) HBB18.out.size))
    clear hfr hd19 hc19 HAd16 HAa16 HAb16 HO016 HO116 HP0 HP1 HW16 H18 HBB16 HBB17 HBB18 HB17 HB18 hz3 hz4 hz5 hz6 hz7 hz9 hz18 hz17 hz16 hdl
    have a0 : w19.cell? ⟨w17.heap.size, 0, none⟩ = some (.slice B0 la.length r0) := by rw [blk_cell HU19.out]; rfl
    have a1 : w19.cell? ⟨w17.heap.size, 1, none⟩ = some (.slice B1 lb.length r1) := by rw [blk_cell HU19.out]; rfl
    have b0 : w19.cell? ⟨w6.heap.size, 0, none⟩ = some (.slice A0 la.length p0) := by rw [blk_cell HW19.out]; rfl
    have b1 : w19.cell? ⟨w6.heap.size, 1, none⟩ = some (.slice A1 lb.length p1) := by rw [blk_cell HW19.out]; rfl
    have s0 := conv_str HO019.out.sl
    have s1 := conv_str HO119.out.sl
    have s2 := conv_str HP019.out.sl
    have s3 := conv_str HP119.out.sl
    go_wp2_with fail
    refine (alike_any w19 _ _ a cc _ _ HAa19.out HC19.out (by have := hLM.out.room; omega) (by have := hLM.out.room; omega) rfl rfl rfl).mono ?_
    rintro e w20 ⟨rfl, hb20⟩
    have HAb20 := hid (HAb19.out.below hb20)
    have HO20 := hid (HO019.out.below hb20)
    have HW20 := hid (blk_keep hb20 HW19.out (blk_lt HW19.out))
    have HBB20 := hid (below_then HBB19.out hb20)
    clear hb20 a0 a1 b0 b1 s0 s1 s2 s3 HO019 HO119 HAa19 HAb19 HC19 HP019 HP119 HU19 HW19 HBB19
    go_wp2_with fail
    refine (Slots_any w20 _ b _ HAb20.out q5.out).mono ?_
    rw [T0.out, T1.out]
    rintro e w21 ⟨x0, x1, rfl, hx0, hx1, -, hb21⟩
    obtain ⟨X0, y0, rfl⟩ := hx0.form
    obtain ⟨X1, y1, rfl⟩ := hx1.form
    have HXS := hid hx0.sl
    have HO21 := hid (HO20.out.below hb21)
    have HW21 := hid (blk_keep hb21 HW20.out (blk_lt HW20.out))
    have HBB21 := hid (below_then HBB20.out hb21)
    clear hx0 hx1 hb21 HO20 HW20 HBB20
    go_upto_region 18 with (fail)
    refine Code.seen (fun W => Below w21.heap.size w21 W ∧ W.heap[w21.heap.size]? = some (.cells #[.slice X0 (la.length + m.length) y0, .slice X1 0 y1] 32 (0, 0))) ⟨(Below.refl _ _).alloc (Nat.le_refl _) _, heap_alloc_new _ _⟩ fun w22 H22 => ?_
    have HW22 := hid (blk_keep H22.out.1 HW21.out (blk_lt HW21.out))
    have HBB22 := hid (below_then HBB21.out H22.out.1)
    have x0 : w22.cell? ⟨w21.heap.size, 0, none⟩ = some (.slice X0 (la.length + m.length) y0) := by rw [blk_cell H22.out.2]; rfl
    have x1 : w22.cell? ⟨w21.heap.size, 1, none⟩ = some (.slice X1 0 y1) := by rw [blk_cell H22.out.2]; rfl
    have z0 : w22.cell? ⟨w6.heap.size, 0, none⟩ = some (.slice A0 la.length p0) := by rw [blk_cell HW22.out]; rfl
    have k1 : ∀ n, (convert 22 9 (.slice X0 (la.length + m.length) y0)).run Try.prog (w22.drewN n) = .ok (.string (str (la ++ m))) (w22.drewN n) := fun n => conv_str (by have := HXS.out.below (H22.out.1.trans (below_drewN (Below.refl _ _) n)); rw [List.length_append] at this; exact this)
    have k2 : ∀ n, (convert 22 9 (.slice A0 la.length p0)).run Try.prog (w22.drewN n) = .ok (.string (str la)) (w22.drewN n) := fun n => conv_str (HO21.out.sl.below (H22.out.1.trans (below_drewN (Below.refl _ _) n)))
    have k3 : ∀ n, (convert 22 9 (.slice Mv m.length pm)).run Try.prog (w22.drewN n) = .ok (.string (str m)) (w22.drewN n) := fun n => conv_str (HM.out.below (below_drewN HBB22.out n))
    have hcat : str la ++ str m = str (la ++ m) := (str_cat _ _).symm
    have hsz : (str la).size + (str m).size ≤ 9223372036854775807 := by rw [str_size, str_size]; omega
    have hadd : ∀ w, (Op.stringOp .add (str la) (str m)).run Try.prog w = .ok (.string (str (la ++ m))) w := fun w => by rw [run_string_add_sum _ _ _ hsz, hcat]
    have hw1 : IntKind.i64.wrap (1 - 1) = 0 := rfl
    have hw2 : IntKind.i64.wrap 0 = 0 := rfl
    go_quiet (fail)
    go_wp2_with fail
    go_ret
    exact ⟨rfl, below_drewN HBB22.out _⟩
end Go.Proofs.Ytcadacljacbipaa
