/- The law DiskLoads, walked: a disk that Load makes of what Slots tells goes on alike. -/
import Derived.Test.YtcadacljacbipaaDkAB
import Derived.Test.YtcadacljacbipaaDkZ
namespace Go.Proofs.Ytcadacljacbipaa
open Go.RowKit
set_option maxRecDepth 100000 in
set_option maxHeartbeats 8000000 in
theorem DiskLoads_walk (sv tv cv : Value) (ops th : List Dop) (cs : List Int) (w : World) (hS : SlR Dop.R 9 w sv ops) (hT : SlR Dop.R 9 w tv th) (hC : SlZ w cv cs) (hM : bytesD ops ≤ 1048576) (hlen : ops.length ≤ 1048576) (hMt : bytesD th ≤ 1048576) (hlent : th.length ≤ 1048576) :
    Calls Try.prog 8 #[sv, tv, cv] w fun e w' => e = .returned (.bool true) ∧ Below w.heap.size w w' := by
  have HS := hid hS
  have HT := hid hT
  have HC := hid hC
  have hL := runD_live ops
  have hF := new_run_fits ops ops.length hM hlen 0 (by omega)
  rw [List.take_length] at hF
  obtain ⟨hmild, _, _⟩ := runD_state Dk.new 0 0 new_mild rfl rfl ops
  have hw := runD_with ops Dk.new
  obtain ⟨Cv, pc, rfl⟩ := hC.form
  obtain ⟨A, c, rfl⟩ : ∃ A c, sv = .slice A ops.length c := by obtain ⟨A, c, _, e, h, _⟩ := hS; exact ⟨A, c, e⟩
  obtain ⟨At, ct, rfl, htc⟩ : ∃ A c, tv = .slice A th.length c ∧ th.length ≤ c := by obtain ⟨A, c, _, e, h, _⟩ := hT; exact ⟨A, c, e, h⟩
  have HBG := hid (begun_any _ ops w HS.out hM hlen)
  obtain ⟨D, hD⟩ : ∃ D, runD Dk.new ops = D := ⟨_, rfl⟩
  rw [hD] at hL hF hmild hw HBG
  obtain ⟨x, y, hsy, hx, hy, herr1⟩ := synced hL hw
  have hE0 := hid (hL.err (i := 0) (.inl rfl) false (fun h => by cases h))
  have hE1 := hid herr1
  have hF0 := hid hF
  have hF1 : Hid ((D.step 0 .sync).fits 0) := hid ((hmild.step 0 .sync).fits (by have := step_named D 0 .sync; have := hL.n; omega) (by omega) (by show 0 + bytesD ops + 0 + 0 ≤ _; omega))
  have hxy : x.length + y.length ≤ 1048576 := by
    have h1 := hmild.room
    have h2 := D.s0.now_le
    have h3 := D.s1.now_le
    rw [hx, hy]; omega
  have hn2 : D.done + 2 ≤ 1048578 := by have := hmild.done; omega
  have HSY := hid hsy
  clear hS hT hC hL hF hmild hw hD hsy hx hy herr1
  go_enter Try.func8, Try.ntmps8
  go_wp2_with fail
  refine HBG.out.mono ?_
  rintro e w1 ⟨d, rfl, hd, hb⟩
  have HD1 := hid hd
  have HB1 := hid hb
  clear hd hb HBG
  go_wp2_with fail
  refine (head_any w1).mono ?_
  rintro e w2 ⟨rfl, hb⟩
  have HD2 := hid (HD1.out.below hb)
  have HB2 := hid (below_then HB1.out hb)
  clear hb HD1 HB1
  go_wp2_with fail
  refine (Sync_db w.heap.size w2 d D 0 HB2.out.size HD2.out hF0.out).mono ?_
  rw [hE0.out]
  rintro e w3 ⟨rfl, hd3, hb3⟩
  have HD3 := hid hd3
  have HB3 := hid (HB2.out.trans hb3)
  clear hd3 hb3 HD2 HB2
  go_wp2_with fail
  refine (Sync_db w.heap.size w3 d _ 1 HB3.out.size HD3.out hF1.out).mono ?_
  rw [hE1.out, HSY.out]
  rintro e w4 ⟨rfl, hd4, hb4⟩
  have HB4 := hid (HB3.out.trans hb4)
  obtain ⟨n, hn⟩ : ∃ n, D.done + 2 = n := ⟨_, rfl⟩
  obtain ⟨cu, hcu⟩ : ∃ cu, D.cur = cu := ⟨_, rfl⟩
  rw [hn, hcu] at hd4
  rw [hn] at hn2
  obtain ⟨S, hS, hA⟩ := hd4
  have hc2 : cu < 2 := hA.ok.2.2
  have HA := hid hA
  have HSb := hid hS
  clear HD3 HB3 HSY hE0 hE1 hF0 hF1 hn hcu hS hA hb4
  go_wp2_with fail
  refine Calls.mono (Slots_any w4 S d _ HA.out (by show x.length + sizes [] + (y.length + sizes []) ≤ _; simp [sizes]; omega)) ?_
  rintro e w5 ⟨v0, v1, rfl, ho0, ho1, hne, hb5⟩
  replace ho0 : OwnB w5 w4.heap.size v0 x := ho0
  replace ho1 : OwnB w5 w4.heap.size v1 y := ho1
  rw [show ((Dk.load x y cu).plus n).curN = cu from rfl]
  obtain ⟨A0, c0, rfl⟩ := ho0.form
  obtain ⟨A1, c1, rfl⟩ := ho1.form
  have HO0 := hid ho0
  have HO1 := hid ho1
  have HNE := hid hne
  have HA5 := hid (HA.out.below hb5)
  have HB5 := hid (below_then HB4.out hb5)
  have HL4 := hid HA.out.lt
  have HL05 := hid (World.ownsRow.lt ho0)
  have HS45 := hid hb5.size
  clear ho0 ho1 hne hb5 HA
  go_upto_region 5 with (fail)
  refine Code.seen (fun W => W.heap[w5.heap.size]? = some (.cells #[.slice A0 x.length c0, .slice A1 y.length c1] 32 (0, 0)) ∧ Below w5.heap.size w5 W) ⟨heap_alloc_new _ _, (Below.refl _ _).alloc (Nat.le_refl _) _⟩ fun w6 Z6 => ?_
  have HR6 := hid Z6.out.1
  have HB6 := hid (below_then HB5.out Z6.out.2)
  have HA6 := hid (HA5.out.below Z6.out.2)
  have HO06 := hid (HO0.out.below Z6.out.2)
  have HO16 := hid (HO1.out.below Z6.out.2)
  have HG6 := hid (blk_lt Z6.out.1)
  obtain ⟨x0, x1⟩ := pair_cells Z6.out.1
  clear Z6 HA5 HO0 HO1 HB5
  go_wp2_with fail
  refine Calls.mono (Load_any w6 (cu : Int) (by omega) (.slice A0 x.length c0) (.slice A1 y.length c1) x y HO06.out.sl HO16.out.sl (by omega) (by omega)) ?_
  rintro e w7 ⟨l, rfl, hb7, hl7⟩
  rw [Int.toNat_natCast] at hl7
  have HDU : Hid (Duo (fun k => w4.heap.size ≤ k ∧ k < w6.heap.size) w.heap.size w w7 d ((Dk.load x y cu).plus n) l (Dk.load x y cu)) := hid
    ⟨S, _, HA6.out.below hb7, hl7, fun k hk => ⟨HSb.out k hk, fun e => by have := HL4.out k hk; omega⟩, fun k hk => ⟨Nat.le_trans HB6.out.size hk.1, fun e => by have := hk.1; omega, fun e => by have := HL4.out k e; have := hk.1; have := HG6.out; have := HS45.out; omega⟩, below_then HB6.out hb7, Nat.le_trans HB6.out.size hb7.size, fun k hk => Nat.lt_of_lt_of_le hk.2 hb7.size⟩
  have HR7 := hid (blk_keep hb7 HR6.out HG6.out)
  have HO07 := hid (HO06.out.below hb7)
  have HO17 := hid (HO16.out.below hb7)
  have hrm : x.length + sizes [] + (y.length + sizes []) ≤ 140737488355328 := by simp [sizes]; omega
  have HRM := hid hrm
  have HLL6 := hid (World.ownsRow.lt HO06.out)
  have HLL61 := hid (World.ownsRow.lt HO16.out)
  clear hb7 hl7 hrm x0 x1 HA6 HO06 HO16 HR6
  go_wp2_with fail
  refine (alike_duo HDU.out.swap HRM.out HRM.out rfl rfl rfl).mono ?_
  rintro e w8 ⟨rfl, hb8⟩
  have HDU8 := hid (HDU.out.below hb8)
  have HR8 := hid (blk_keep hb8 HR7.out (blk_lt HR7.out))
  have HO08 := hid (HO07.out.below hb8)
  have HO18 := hid (HO17.out.below hb8)
  clear hb8 HDU HR7 HO07 HO17
  obtain ⟨x0, x1⟩ := pair_cells HR8.out
  go_upto_region 8 with (fail)
  go_wp2_with fail
  refine (over_any (.slice A0 x.length c0) x w4.heap.size w8 HO08.out).mono ?_
  rintro e w9 ⟨rfl, hf9⟩
  have HDU9 := hid (HDU8.out.free hf9 (fun k hk => ⟨HLL6.out k hk, Nat.le_trans HB4.out.size (HLL6.out k hk).1⟩))
  have HR9 := hid (blk_fr hf9 HR8.out (fun hk => by have := (HL05.out _ hk).2; omega))
  have HO19 := hid (HO18.out.fr hf9 (fun k hk e => HNE.out k e hk))
  obtain ⟨y0, y1⟩ := pair_cells HR9.out
  clear hf9 x0 x1 HDU8 HR8 HO08 HO18
  go_wp2_with fail
  refine (over_any (.slice A1 y.length c1) y w4.heap.size w9 HO19.out).mono ?_
  rintro e w10 ⟨rfl, hf10⟩
  have HDU10 := hid (HDU9.out.free hf10 (fun k hk => ⟨HLL61.out k hk, Nat.le_trans HB4.out.size (HLL61.out k hk).1⟩))
  clear hf10 y0 y1 HDU9 HR9 HO19
  go_wp2_with fail
  refine (Acts_duo HDU10.out).mono ?_
  rintro e w11 ⟨he, hw⟩
  replace hw := hw.symm
  subst hw
  rw [show (((Dk.load x y cu).plus n).done : Int) = (n : Int) by simp [Dk.plus, Dk.load]] at he
  subst he
  have HL0 := hid (HDU10.out.forget)
  have HMI := hid (load_mild0 x y cu (x.length + y.length) (Nat.le_refl _))
  have HSZ : Hid (Try.prog.cellsOf 51 = 9) := hid (by kernel_rfl)
  clear HDU10 HNE HLL6 HLL61 HL05 HL4 HS45 HSb HB6 HG6
  go_wp2
  go_loopw [13] (fun i wr => ∃ j : Nat, j ≤ th.length ∧ i = .int .i64 j ∧ Duo (fun _ => False) w.heap.size w wr d ((runD (Dk.load x y cu) (th.take j)).plus n) l (runD (Dk.load x y cu) (th.take j))) (fun i _ => th.length - (intOf i).toNat)
  case atStart => exact ⟨0, Nat.zero_le _, rfl, HL0.out⟩
  case round =>
    clear HL0
    obtain ⟨j, hj, rfl, hd⟩ := hrel
    have HD := hid hd
    clear hd
    obtain ⟨m1, m2, m3⟩ := runD_state _ 0 _ HMI.out rfl rfl (th.take j)
    have hbt := bytesD_take th j
    have hlt2 : (th.take j).length ≤ 1048576 := by simp; omega
    have HFL : Hid (∀ m, m ≤ 1048576 → (runD (Dk.load x y cu) (th.take j)).fits m) := hid fun m hm => m1.fits (by omega) (by omega) (by omega)
    have HDN := hid m1.done
    have hlj : (th.take j).length ≤ 1048576 := hlt2
    clear m1 m2 m3 hbt hlt2
    by_cases hlt : j < th.length
    · obtain ⟨o, ho⟩ : ∃ o, th[j]? = some o := ⟨_, List.getElem?_eq_getElem hlt⟩
      obtain ⟨b, off, rfl⟩ : ∃ b off, At = some ⟨b, off, none⟩ := by
        obtain ⟨A', c', ys, e1, _, _, _, h4⟩ := HT.out
        injection e1 with e1
        obtain ⟨b, off, eA, _⟩ := h4 (by omega)
        exact ⟨b, off, e1.trans eA⟩
      obtain ⟨ov, ox, oy, oz, hr, hov, hox, hoy, hoz, _⟩ := dop_at HT.out j o ho
      obtain ⟨Av, cv, rfl⟩ := hov.form
      obtain ⟨Ax, cx, rfl⟩ := hox.form
      obtain ⟨Ay, cy, rfl⟩ := hoy.form
      obtain ⟨Az, cz, rfl⟩ := hoz.form
      have HRT := hid (runD_take (Dk.load x y cu) th j hlt)
      rw [show th[j] = o by rw [List.getElem?_eq_getElem hlt] at ho; injection ho] at HRT
      have hdl : o.data.length ≤ 1048576 := Nat.le_trans (data_le th o j ho) hMt
      have HRW := hid (dcells_at hr)
      have HOV := hid hov
      obtain ⟨L, hL⟩ : ∃ L, runD (Dk.load x y cu) (th.take j) = L := ⟨_, rfl⟩
      rw [hL] at HRT HD HFL HDN
      clear hov hox hoy hoz hr ho hL
      have i0 : (0 : Int) ≤ (j : Int) := by omega
      have i1 : (j : Int) < (th.length : Int) := by omega
      obtain ⟨d0, d1, d2, d3, d4, d5, d6, d7, d8⟩ := HRW.out wr HD.out.base
      by_cases hfour : o.fourB = true
      · rw [if_pos hfour] at HRT
        have h14 : o.four := by unfold Dop.fourB at hfour; simpa [Dop.four] using hfour
        have H14 := hid h14
        have hk1 : (1 : Int) ≤ o.kind := h14.1
        have hk2 : o.kind ≤ 4 := h14.2
        clear hfour h14
        have HLJ := hid hlj
        clear hlj
        go_upto_region 15 with (fail)
        refine Code.seen (fun W => DW wr.heap.size 0 o (.slice Av o.data.length cv) (.slice Ax o.sa.length cx) (.slice Ay o.sb.length cy) (.slice Az o.ch.length cz) W ∧ Below wr.heap.size wr W ∧ wr.heap.size < W.heap.size) ⟨?_, (Below.refl _ _).alloc (Nat.le_refl _) _, by simp⟩ fun w1 Z1 => ?_
        · exact dw_new _ _ _ _ _ _
        have HDK := hid (HD.out.lay Z1.out.2.1)
        have HW1 := hid Z1.out.1
        have HKG : Hid (wr.heap.size ≤ wr.heap.size ∧ wr.heap.size < w1.heap.size) := hid ⟨Nat.le_refl _, Z1.out.2.2⟩
        have HW1d := hid (HW1.out.below (drew_below w1))
        obtain ⟨L', hL'⟩ : ∃ L', L.step o.slot (o.act o.data) = L' := ⟨_, rfl⟩
        rw [hL'] at HRT
        have HL' := hid hL'
        obtain ⟨m1, m2, m3⟩ := runD_state _ 0 _ HMI.out rfl rfl (th.take (j + 1))
        have hbt := bytesD_take th (j + 1)
        have hlt2 : (th.take (j + 1)).length ≤ 1048576 := by simp; omega
        rw [HRT.out] at m1
        have hrm1 : L'.s0.room + L'.s1.room ≤ 140737488355328 := by have := m1.room; omega
        have hpd1 : L'.pending ≤ 1099511627776 := by have := m1.acts; show L'.s0.acts.length + L'.s1.acts.length ≤ _; omega
        have hdn1 : L'.done ≤ 1048576 := by have := m1.done; omega
        have HRM1 := hid hrm1
        have HPD1 := hid hpd1
        have HRM1p : Hid ((L'.plus n).s0.room + (L'.plus n).s1.room ≤ 140737488355328) := hid hrm1
        have HPD1p : Hid ((L'.plus n).pending ≤ 1099511627776) := hid hpd1
        obtain ⟨q, hq⟩ : ∃ q, L.err o.slot (o.act o.data).wipes = q := ⟨_, rfl⟩
        have HQ := hid hq
        obtain ⟨dn, hdn⟩ : ∃ dn, L'.done = dn := ⟨_, rfl⟩
        rw [hdn] at hdn1
        have HDN1 := hid hdn
        obtain ⟨pn, hpn⟩ : ∃ pn, L'.pending = pn := ⟨_, rfl⟩
        have HPN := hid hpn
        have hqq : (q != q) = false := by simp
        have hpp : ((pn : Int) != (pn : Int)) = false := by simp
        have hdd : (((dn : Int) + (n : Int)) != ((dn : Int) + (n : Int))) = false := by simp
        obtain ⟨e0, e1, e2, e3, e4, e5, e6, e7, e8⟩ := HW1.out.o
        have hwr : IntKind.i64.wrap ((dn : Int) + (n : Int)) = (dn : Int) + (n : Int) := by rw [IntKind.wrap_i64]; omega
        have hwl : o.data.length + 2 ≤ 140737488355328 := by omega
        clear hL' m1 m2 m3 hbt hlt2 hrm1 hpd1 hq hdn hpn d0 d1 d2 d3 d4 d5 d6 d7 d8 Z1
        go_upto_region 16 with (fail)
        go_region_held3 (fun W => W.cell? ⟨wr.heap.size, 0, none⟩ = some (.int .i64 o.kind) ∧ W.cell? ⟨wr.heap.size, 1, none⟩ = some (.int .i64 o.d) ∧ W.cell? ⟨wr.heap.size, 2, none⟩ = some (.int .i64 o.slot) ∧ W.cell? ⟨wr.heap.size, 3, none⟩ = some (.slice Av o.data.length cv) ∧ W.cell? ⟨wr.heap.size, 4, none⟩ = some (.int .i64 o.n) ∧ W.cell? ⟨wr.heap.size, 5, none⟩ = some (.bool o.done) ∧ W.cell? ⟨wr.heap.size, 6, none⟩ = some (.slice Ax o.sa.length cx) ∧ W.cell? ⟨wr.heap.size, 7, none⟩ = some (.slice Ay o.sb.length cy) ∧ W.cell? ⟨wr.heap.size, 8, none⟩ = some (.slice Az o.ch.length cz))
          (first | with_reducible assumption | with_reducible exact DW.o HW1.out | with_reducible exact DW.o HW1d.out | with_reducible exact DW.o HW2.out | with_reducible exact DW.o HW3.out | with_reducible exact DW.o HW4.out | with_reducible exact DW.o HW5.out | with_reducible exact DW.o HW6.out | with_reducible exact DW.o HW7.out | with_reducible exact DW.o HW8.out)
          (first
            | (go_at_call 10; (with_reducible refine Calls.mono (wide_any (.slice Av o.data.length cv) o.data w1.drew ((HOV.out.below HDK.out.base).below (drew_below w1)) hwl) ?_); rintro e w2 ⟨g2, c2, rfl, how2, -, hb2⟩; have HD2 := hid ((HDK.out.below (drew_below w1)).below hb2); have HW2 := hid (HW1d.out.below hb2); have HSW2 := hid (wide_sl how2); clear how2 hb2)
            | (go_at_call 28; (with_reducible refine Calls.mono (lawact_duo HD2.out o (.slice Av o.data.length cv) (.slice Ax o.sa.length cx) (.slice Ay o.sb.length cy) (.slice Az o.ch.length cz) (.slice (some ⟨g2, 0, none⟩) o.data.length c2) o.data (plus_fits (HFL.out _ hdl) (by have := HDN.out; have := HLJ.out; omega)) H14.out HSW2.out) ?_); rintro e w3 ⟨he3, hd3, hf3⟩; obtain rfl : e = .returned (.int .i64 q) := he3.trans (by rw [plus_err, HQ.out]); have HD3 := hid hd3; have HW3 := hid (HW2.out.kept hf3 HKG.out); clear hd3 hf3 he3)
            | (go_at_call 10; (with_reducible refine Calls.mono (wide_any (.slice Av o.data.length cv) o.data w3 (HOV.out.below HD3.out.base) hwl) ?_); rintro e w4 ⟨g4, c4, rfl, how4, -, hb4⟩; have HD4 := hid (HD3.out.below hb4); have HW4 := hid (HW3.out.below hb4); have HSW4 := hid (wide_sl how4); clear how4 hb4)
            | (go_at_call 28; (with_reducible refine Calls.mono (lawact_duo HD4.out.swap o (.slice Av o.data.length cv) (.slice Ax o.sa.length cx) (.slice Ay o.sb.length cy) (.slice Az o.ch.length cz) (.slice (some ⟨g4, 0, none⟩) o.data.length c4) o.data (HFL.out _ hdl) H14.out HSW4.out) ?_); rintro e w5 ⟨he5, hd5, hf5⟩; obtain rfl : e = .returned (.int .i64 q) := he5.trans (by rw [HQ.out]); rw [plus_step, HL'.out] at hd5; have HD5 := hid hd5.swap; have HW5 := hid (HW4.out.kept hf5 HKG.out); clear hd5 hf5 he5)
            | (go_at_call 21; (with_reducible refine Calls.mono (alike_duo HD5.out HRM1p.out HRM1.out (plus_told L' n).1 (plus_told L' n).2.1 (plus_told L' n).2.2.1) ?_); rintro e w6 ⟨rfl, hb6⟩; have HD6 := hid (HD5.out.below hb6); have HW6 := hid (HW5.out.below hb6); clear hb6)
            | (go_at_call 13; (with_reducible refine Calls.mono (Pending_duo HD6.out HPD1p.out) ?_); rintro e w7 ⟨he7, hb7⟩; obtain rfl : e = .returned (.int .i64 (pn : Int)) := he7.trans (by rw [(plus_told L' n).2.2.2.1, HPN.out]); have HD7 := hid (HD6.out.below hb7); have HW7 := hid (HW6.out.below hb7); clear hb7 he7)
            | (go_at_call 13; (with_reducible refine Calls.mono (Pending_duo HD7.out.swap HPD1.out) ?_); rintro e w8 ⟨he8, hb8⟩; obtain rfl : e = .returned (.int .i64 (pn : Int)) := he8.trans (by rw [HPN.out]); have HD8 := hid (HD7.out.below hb8); have HW8 := hid (HW7.out.below hb8); clear hb8 he8)
            | (go_at_call 29; (with_reducible refine Calls.mono (Acts_duo HD8.out) ?_); rintro e w9 ⟨he9, hw9⟩; replace hw9 := hw9.symm; subst hw9; obtain rfl : e = .returned (.int .i64 ((dn : Int) + (n : Int))) := he9.trans (by rw [(plus_told L' n).2.2.2.2, HDN1.out]; rfl); clear he9)
            | (go_at_call 29; (with_reducible refine Calls.mono (Acts_duo HD8.out.swap) ?_); rintro e w9 ⟨he9, hw9⟩; replace hw9 := hw9.symm; subst hw9; obtain rfl : e = .returned (.int .i64 (dn : Int)) := he9.trans (by rw [HDN1.out]); clear he9))
        all_goals
          clear e0 e1 e2 e3 e4 e5 e6 e7 e8 hpp hwr
          go_wp2
          go_roundw
          case rel => exact ⟨j + 1, by omega, by go_num, by rw [HRT.out]; exact HD8.out.forget⟩
          case measure => simp [intOf]; omega
      · rw [if_neg hfour] at HRT
        have hk : ¬ (1 ≤ o.kind ∧ o.kind ≤ 4) := fun h => hfour (by unfold Dop.fourB; simpa using h)
        rcases Int.lt_or_le o.kind 1 with hk1 | hk1
        case' inl => have hk2 : ¬ (1 ≤ o.kind) := by omega
        case' inr => have hk2 : 4 < o.kind := by omega
        all_goals
          clear hk hfour
          go_upto_region 15 with (fail)
          refine Code.seen (fun W => DW wr.heap.size 0 o (.slice Av o.data.length cv) (.slice Ax o.sa.length cx) (.slice Ay o.sb.length cy) (.slice Az o.ch.length cz) W ∧ Below wr.heap.size wr W) ⟨dw_new _ _ _ _ _ _, (Below.refl _ _).alloc (Nat.le_refl _) _⟩ fun w1 Z1 => ?_
          have HD1 := hid (HD.out.below Z1.out.2)
          obtain ⟨e0, -, -, -, -, -, -, -, -⟩ := Z1.out.1
          clear d0 d1 d2 d3 d4 d5 d6 d7 d8 Z1
          go_wp2
          go_roundw
          case rel => exact ⟨j + 1, by omega, by go_num, by rw [HRT.out]; exact HD1.out⟩
          case measure => simp [intOf]; omega
    · obtain rfl : j = th.length := by omega
      obtain ⟨L, hL⟩ : ∃ L, runD (Dk.load x y cu) (th.take th.length) = L := ⟨_, rfl⟩
      rw [hL] at HD HFL HDN
      rw [List.length_take, Nat.min_self] at HDN
      clear hL hlj
      go_wp2_with fail
      refine (Crash_duo HD.out rfl (.slice Cv cs.length pc) cs (plus_fits (HFL.out 0 (by omega)) (by have := HDN.out; omega)) HC.out).mono ?_
      rintro e w1 ⟨fd, rfl, -, h1, -⟩
      have H1 : Hid (Duo (fun _ => False) w.heap.size w w1 l L fd (L.crashed cs)) := hid h1
      clear h1
      go_wp2_with fail
      obtain ⟨S1, T1, k1, k2, k3, k4, k5, k6, k7⟩ := H1.out
      refine (Crash_any w1 S1 l L (.slice Cv cs.length pc) cs k1 (HFL.out 0 (by omega)) (HC.out.below k5) (fun h0 k hk hs => by have := slz_lt HC.out h0 k hk; have := (k3 k hs).1; omega)).mono ?_
      rintro e w2 ⟨gd, rfl, h2, h3, h4⟩
      have hfs : Fr S1 w1 w2 := h2.mono fun k _ e => e ▸ k1.sd
      have H2 : Hid (DAt w2 T1 fd (L.crashed cs)) := hid (k2.fr hfs (fun k hk => (k4 k hk).2.2) (fun _ h => h) (fun k hk => Nat.lt_of_lt_of_le (k2.lt k hk) h2.size))
      have H3 := hid h4
      have HB2 := hid (k5.trans (hfs.to_below (fun k hk e => by have := (k3 k e).1; omega) k6))
      have hcr := crashed_room L cs
      have hfr := (HFL.out 0 (by omega)).room
      have HCR : Hid ((L.crashed cs).s0.room + (L.crashed cs).s1.room ≤ 140737488355328) := hid (by omega)
      clear k1 k2 k3 k4 k5 k6 k7 h2 h3 h4 hfs hcr hfr
      go_wp2_with fail
      refine (alike_any w2 _ _ fd gd _ _ H2.out H3.out HCR.out HCR.out rfl rfl rfl).mono ?_
      rintro e w3 ⟨rfl, hb3⟩
      have HB3 := hid (HB2.out.trans (hb3.mono HB2.out.size))
      clear hb3
      go_wp2
      go_ret
      exact ⟨rfl, HB3.out⟩
end Go.Proofs.Ytcadacljacbipaa
