/- The law DiskStops, walked: a disk whose n-th act is named dies at it. -/
import Derived.Test.YtcadacljacbipaaDkAC
namespace Go.Proofs.Ytcadacljacbipaa
open Go.RowKit
/-- the state of the two in the loop -/
def StR (w wr : World) (a b : Nat) (many : Nat) (wi : Bool) (acts : Nat) (dead : Bool) (j m : Nat) : Prop :=
  ∃ A D, Rel many wi A D acts dead ∧ A.mild j m ∧ D.mild j m ∧ A.named ≤ many ∧ acts ≤ j ∧ Duo (fun _ => False) w.heap.size w wr a A b D
theorem nine {W : World} {g : Nat} {o : Dop} {v x y z : Value} {t : TypeId} (h : W.heap[g]? = some (.cells #[.int .i64 o.kind, .int .i64 o.d, .int .i64 o.slot, v, .int .i64 o.n, .bool o.done, x, y, z] t (0, 0))) : W.cell? ⟨g, 4, none⟩ = some (.int .i64 o.n) ∧ W.cell? ⟨g, 5, none⟩ = some (.bool o.done) := ⟨by rw [blk_cell h]; rfl, by rw [blk_cell h]; rfl⟩
set_option maxRecDepth 100000 in
set_option maxHeartbeats 16000000 in
theorem DiskStops_walk (sv cv : Value) (ops : List Dop) (so : Dop) (s3 s6 s7 s8 : Value) (cs : List Int) (w : World) (hS : SlR Dop.R 9 w sv ops) (hC : SlZ w cv cs) (hM : bytesD ops ≤ 1048576) (hlen : ops.length ≤ 1048576) (n0 : -9223372036854775808 ≤ so.n) (n1 : so.n ≤ 9223372036854775807) :
    Calls Try.prog 6 #[sv, .agg #[.int .i64 so.kind, .int .i64 so.d, .int .i64 so.slot, s3, .int .i64 so.n, .bool so.done, s6, s7, s8], cv] w fun e w' => e = .returned (.bool true) ∧ Below w.heap.size w w' := by
  have HS := hid hS
  have HC := hid hC
  obtain ⟨Cv, pc, rfl⟩ := hC.form
  obtain ⟨At, ct, rfl, htc⟩ : ∃ A c, sv = .slice A ops.length c ∧ ops.length ≤ c := by obtain ⟨A, c, _, e, h, _⟩ := hS; exact ⟨A, c, e, h⟩
  clear hS hC
  go_enter Try.func6, Try.ntmps6
  go_upto_region 1 with (fail)
  refine Code.seen (fun W => W.heap[w.heap.size]? = some (.cells #[.int .i64 so.kind, .int .i64 so.d, .int .i64 so.slot, s3, .int .i64 so.n, .bool so.done, s6, s7, s8] 51 (0, 0)) ∧ Below w.heap.size w W) ⟨heap_alloc_new _ _, (Below.refl _ _).alloc (Nat.le_refl _) _⟩ fun wa Za => ?_
  obtain ⟨y4, y5⟩ := nine Za.out.1
  have HBa := hid Za.out.2
  clear Za
  generalize so.n = sn at *
  generalize so.done = wi at *
  go_quiet (fail)
  have HBb := hid (below_drewN HBa.out nq)
  generalize wa.drewN nq = wb at *
  clear y4 y5 HBa
  go_wp2_with fail
  refine (New_any wb).mono ?_
  rintro e w1 ⟨a, rfl, hb1, hd1⟩
  have HA1 := hid hd1
  have HB1 := hid hb1
  clear hd1 hb1
  go_wp2_with fail
  refine (New_any w1).mono ?_
  rintro e w2 ⟨b, rfl, hb2, hd2⟩
  have HD2 : Hid (Duo (fun _ => False) w.heap.size w w2 a Dk.new b Dk.new) := hid ⟨_, _, HA1.out.below hb2, hd2, fun k hk => ⟨Nat.le_trans HBb.out.size hk.1, fun h => h⟩, fun k hk => ⟨Nat.le_trans (Nat.le_trans HBb.out.size HB1.out.size) hk.1, fun h => h, fun e => by have := e.2; have := hk.1; omega⟩, below_then (below_then HBb.out HB1.out) hb2, Nat.le_trans (Nat.le_trans HBb.out.size HB1.out.size) hb2.size, fun _ h => h.elim⟩
  clear hd2 hb2 HA1 HB1 HBb
  go_wp2_with fail
  refine (head_any w2).mono ?_
  rintro e w3 ⟨rfl, hb⟩
  have HD3 := hid (HD2.out.below hb)
  clear hb HD2
  go_wp2_with fail
  have e2 : (ops.length : Int) + 2 = ((ops.length + 2 : Nat) : Int) := by omega
  rw [e2]
  refine (mod_any sn (ops.length + 2) n0 n1 (by omega) (by omega) w3).mono ?_
  rintro e w' ⟨rfl, hw⟩
  replace hw := hw.symm
  subst hw
  have hcm := cmod_lt sn (show 0 < ops.length + 2 by omega)
  generalize cmod sn (ops.length + 2) = many at *
  clear e2
  go_wp2_with fail
  refine (Stop_duo HD3.out (many : Int) wi (by omega)).mono ?_
  rintro e w4 ⟨he, hd4, -⟩
  obtain rfl : e = .returned (.int .i64 0) := he
  have H4 : Hid (StR w w4 a b many wi 0 false 0 0) := hid ⟨_, _, Rel.start many wi, stop_mild many wi, new_mild, by show (many : Int).toNat ≤ many; omega, Nat.le_refl _, hd4⟩
  have HDL : Hid (∀ (i : Nat) (o : Dop), ops[i]? = some o → o.data.length ≤ 1048576) := hid fun i o hi => by have := data_le ops o i hi; omega
  clear hd4 HD3
  go_wp2
  go_loopw [12, 13, 14] (fun ac dd i wr => ∃ (acts j : Nat) (dead : Bool), j ≤ ops.length ∧ ac = .int .i64 acts ∧ dd = .bool dead ∧ i = .int .i64 j ∧ StR w wr a b many wi acts dead j (bytesD (ops.take j))) (fun _ _ i _ => ops.length - (intOf i).toNat)
  case atStart => exact ⟨0, 0, false, Nat.zero_le _, rfl, rfl, rfl, H4.out⟩
  case round =>
    clear H4
    obtain ⟨acts, j, dead, hj, rfl, rfl, rfl, A, D, hR, hmA, hmD, hnm, haj, hD⟩ := hrel
    have HR := hid hR
    have HMA := hid hmA
    have HMD := hid hmD
    have HNM := hid hnm
    have HD := hid hD
    have hbt := bytesD_take ops j
    have HFA : Hid (∀ m, m ≤ 1048576 → A.fits m) := hid fun m hm => hmA.fits (by omega) (by omega) (by omega)
    have HFD : Hid (∀ m, m ≤ 1048576 → D.fits m) := hid fun m hm => hmD.fits (by have := hR.n; omega) (by omega) (by omega)
    clear hR hmA hmD hnm hD hbt
    by_cases hlt : j < ops.length
    · obtain ⟨o, ho⟩ : ∃ o, ops[j]? = some o := ⟨_, List.getElem?_eq_getElem hlt⟩
      obtain ⟨bb, off, rfl⟩ : ∃ b off, At = some ⟨b, off, none⟩ := by
        obtain ⟨A', c', ys, e1, _, _, _, h4⟩ := HS.out
        injection e1 with e1
        obtain ⟨b, off, eA, _⟩ := h4 (by omega)
        exact ⟨b, off, e1.trans eA⟩
      obtain ⟨ov, ox, oy, oz, hr, hov, hox, hoy, hoz, _⟩ := dop_at HS.out j o ho
      obtain ⟨Av, cv, rfl⟩ := hov.form
      obtain ⟨Ax, cx, rfl⟩ := hox.form
      obtain ⟨Ay, cy, rfl⟩ := hoy.form
      obtain ⟨Az, cz, rfl⟩ := hoz.form
      have hdl := HDL.out j o ho
      have HRW := hid (dcells_at hr)
      have HOV := hid hov
      have HBT : Hid (bytesD (ops.take j) + o.data.length ≤ bytesD (ops.take (j + 1))) := hid (by rw [List.take_add_one, ho]; simp [bytesD])
      have HBT2 : Hid (bytesD (ops.take j) ≤ bytesD (ops.take (j + 1))) := hid (Nat.le_trans (Nat.le_add_right _ _) HBT.out)
      clear hov hox hoy hoz hr ho
      have i0 : (0 : Int) ≤ (j : Int) := by omega
      have i1 : (j : Int) < (ops.length : Int) := by omega
      obtain ⟨d0, d1, d2, d3, d4, d5, d6, d7, d8⟩ := HRW.out wr HD.out.base
      by_cases hfour : o.fourB = true
      · have h14 : o.four := by unfold Dop.fourB at hfour; simpa [Dop.four] using hfour
        have H14 := hid h14
        have hk1 : (1 : Int) ≤ o.kind := h14.1
        have hk2 : o.kind ≤ 4 := h14.2
        clear hfour h14
        go_upto_region 15 with (fail)
        refine Code.seen (fun W => DW wr.heap.size 0 o (.slice Av o.data.length cv) (.slice Ax o.sa.length cx) (.slice Ay o.sb.length cy) (.slice Az o.ch.length cz) W ∧ Below wr.heap.size wr W ∧ wr.heap.size < W.heap.size) ⟨dw_new _ _ _ _ _ _, (Below.refl _ _).alloc (Nat.le_refl _) _, by simp⟩ fun w10 Z1 => ?_
        have HD10 := hid (HD.out.lay Z1.out.2.1)
        have HW10 := hid Z1.out.1
        have HKG : Hid (wr.heap.size ≤ wr.heap.size ∧ wr.heap.size < w10.heap.size) := hid ⟨Nat.le_refl _, Z1.out.2.2⟩
        have hwl : o.data.length + 2 ≤ 140737488355328 := by omega
        have HSZ := hid (act_size o o.data)
        clear d0 d1 d2 d3 d4 d5 d6 d7 d8
        obtain ⟨e0, -⟩ := HW10.out.o
        clear Z1
        go_upto_region 16 with (fail)
        clear e0
        cases dead
        · cases hbad : A.bad o.slot (o.act o.data).wipes
          · have HBAD := hid hbad
            clear hbad
            by_cases hm : acts + 1 = many
            · have HM := hid hm
              have hmi : (((acts : Int) + 1) == (many : Int)) = true := by rw [beq_iff_eq]; omega
              cases wi
              · obtain ⟨q1, q3⟩ := HR.out.met_not o.slot (o.act o.data) HBAD.out HM.out rfl
                have Q1 := hid q1
                have Q3 := hid q3
                clear q1 q3 hm
                have HWd10 := hid (HW10.out.below (drew_below w10))
                obtain ⟨e0, e1, e2, e3, e4, e5, e6, e7, e8⟩ := HW10.out.o
                go_region_held3 (fun W => W.cell? ⟨wr.heap.size, 0, none⟩ = some (.int .i64 o.kind) ∧ W.cell? ⟨wr.heap.size, 1, none⟩ = some (.int .i64 o.d) ∧ W.cell? ⟨wr.heap.size, 2, none⟩ = some (.int .i64 o.slot) ∧ W.cell? ⟨wr.heap.size, 3, none⟩ = some (.slice Av o.data.length cv) ∧ W.cell? ⟨wr.heap.size, 4, none⟩ = some (.int .i64 o.n) ∧ W.cell? ⟨wr.heap.size, 5, none⟩ = some (.bool o.done) ∧ W.cell? ⟨wr.heap.size, 6, none⟩ = some (.slice Ax o.sa.length cx) ∧ W.cell? ⟨wr.heap.size, 7, none⟩ = some (.slice Ay o.sb.length cy) ∧ W.cell? ⟨wr.heap.size, 8, none⟩ = some (.slice Az o.ch.length cz))
                  (first | with_reducible assumption | with_reducible exact DW.o HW10.out | with_reducible exact DW.o HWd10.out | with_reducible exact DW.o HW11.out | with_reducible exact DW.o HW12.out)
                  (first
                    | (go_at_call 10; (with_reducible refine Calls.mono (wide_any (.slice Av o.data.length cv) o.data w10.drew ((HOV.out.below HD10.out.base).below (drew_below w10)) hwl) ?_); rintro e w11 ⟨gg11, cc11, rfl, how, -, hb⟩; have HD11 := hid ((HD10.out.below (drew_below w10)).below hb); have HW11 := hid (HWd10.out.below hb); have HSW11 := hid (wide_sl how); clear how hb)
                    | (go_at_call 28; (with_reducible refine Calls.mono (lawact_duo HD11.out o (.slice Av o.data.length cv) (.slice Ax o.sa.length cx) (.slice Ay o.sb.length cy) (.slice Az o.ch.length cz) (.slice (some ⟨gg11, 0, none⟩) o.data.length cc11) o.data (HFA.out _ hdl) H14.out HSW11.out) ?_); rintro e w12 ⟨he, hd, hf⟩; rw [Q1.out] at he; subst he; have HD12 := hid (hd); have HW12 := hid (HW11.out.kept hf HKG.out); clear hd hf))
                clear e0 e1 e2 e3 e4 e5 e6 e7 e8
                go_upto_region 25 with (fail)
                go_wp2_with fail
                refine (Dead_duo HD12.out).mono ?_
                rw [Q3.out.a]
                rintro e w' ⟨rfl, hw⟩
                replace hw := hw.symm
                subst hw
                go_wp2
                go_roundw
                case rel => exact ⟨acts, j + 1, true, by omega, rfl, rfl, by go_num, _, D, Q3.out, (mild_step HMA.out _ _ (by have := HSZ.out; have := HBT.out; omega)), mild_more HMD.out HBT2.out, (Nat.le_trans (step_named _ _ _) HNM.out), by omega, HD12.out.forget⟩
                case measure => simp [intOf]; omega
              · obtain ⟨q1, q2, q3⟩ := HR.out.met_done o.slot (o.act o.data) HBAD.out HM.out rfl
                have Q1 := hid q1
                have Q2 := hid q2
                have Q3 := hid q3
                clear q1 q2 q3 hm
                have HWd10 := hid (HW10.out.below (drew_below w10))
                obtain ⟨e0, e1, e2, e3, e4, e5, e6, e7, e8⟩ := HW10.out.o
                go_region_held3 (fun W => W.cell? ⟨wr.heap.size, 0, none⟩ = some (.int .i64 o.kind) ∧ W.cell? ⟨wr.heap.size, 1, none⟩ = some (.int .i64 o.d) ∧ W.cell? ⟨wr.heap.size, 2, none⟩ = some (.int .i64 o.slot) ∧ W.cell? ⟨wr.heap.size, 3, none⟩ = some (.slice Av o.data.length cv) ∧ W.cell? ⟨wr.heap.size, 4, none⟩ = some (.int .i64 o.n) ∧ W.cell? ⟨wr.heap.size, 5, none⟩ = some (.bool o.done) ∧ W.cell? ⟨wr.heap.size, 6, none⟩ = some (.slice Ax o.sa.length cx) ∧ W.cell? ⟨wr.heap.size, 7, none⟩ = some (.slice Ay o.sb.length cy) ∧ W.cell? ⟨wr.heap.size, 8, none⟩ = some (.slice Az o.ch.length cz))
                  (first | with_reducible assumption | with_reducible exact DW.o HW10.out | with_reducible exact DW.o HWd10.out | with_reducible exact DW.o HW11.out | with_reducible exact DW.o HW12.out)
                  (first
                    | (go_at_call 10; (with_reducible refine Calls.mono (wide_any (.slice Av o.data.length cv) o.data w10.drew ((HOV.out.below HD10.out.base).below (drew_below w10)) hwl) ?_); rintro e w11 ⟨gg11, cc11, rfl, how, -, hb⟩; have HD11 := hid ((HD10.out.below (drew_below w10)).below hb); have HW11 := hid (HWd10.out.below hb); have HSW11 := hid (wide_sl how); clear how hb)
                    | (go_at_call 28; (with_reducible refine Calls.mono (lawact_duo HD11.out o (.slice Av o.data.length cv) (.slice Ax o.sa.length cx) (.slice Ay o.sb.length cy) (.slice Az o.ch.length cz) (.slice (some ⟨gg11, 0, none⟩) o.data.length cc11) o.data (HFA.out _ hdl) H14.out HSW11.out) ?_); rintro e w12 ⟨he, hd, hf⟩; rw [Q1.out] at he; subst he; have HD12 := hid (hd); have HW12 := hid (HW11.out.kept hf HKG.out); clear hd hf))
                clear e0 e1 e2 e3 e4 e5 e6 e7 e8
                go_upto_region 25 with (fail)
                go_wp2_with fail
                refine (Dead_duo HD12.out).mono ?_
                rw [Q3.out.a]
                rintro e w' ⟨rfl, hw⟩
                replace hw := hw.symm
                subst hw
                go_upto_region 31 with (fail)
                have HWd12 := hid (HW12.out.below (drew_below w12))
                obtain ⟨e0, e1, e2, e3, e4, e5, e6, e7, e8⟩ := HW12.out.o
                go_region_held3 (fun W => W.cell? ⟨wr.heap.size, 0, none⟩ = some (.int .i64 o.kind) ∧ W.cell? ⟨wr.heap.size, 1, none⟩ = some (.int .i64 o.d) ∧ W.cell? ⟨wr.heap.size, 2, none⟩ = some (.int .i64 o.slot) ∧ W.cell? ⟨wr.heap.size, 3, none⟩ = some (.slice Av o.data.length cv) ∧ W.cell? ⟨wr.heap.size, 4, none⟩ = some (.int .i64 o.n) ∧ W.cell? ⟨wr.heap.size, 5, none⟩ = some (.bool o.done) ∧ W.cell? ⟨wr.heap.size, 6, none⟩ = some (.slice Ax o.sa.length cx) ∧ W.cell? ⟨wr.heap.size, 7, none⟩ = some (.slice Ay o.sb.length cy) ∧ W.cell? ⟨wr.heap.size, 8, none⟩ = some (.slice Az o.ch.length cz))
                  (first | with_reducible assumption | with_reducible exact DW.o HW12.out | with_reducible exact DW.o HWd12.out | with_reducible exact DW.o HW13.out | with_reducible exact DW.o HW14.out)
                  (first
                    | (go_at_call 10; (with_reducible refine Calls.mono (wide_any (.slice Av o.data.length cv) o.data w12.drew ((HOV.out.below HD12.out.base).below (drew_below w12)) hwl) ?_); rintro e w13 ⟨gg13, cc13, rfl, how, -, hb⟩; have HD13 := hid ((HD12.out.below (drew_below w12)).below hb); have HW13 := hid (HWd12.out.below hb); have HSW13 := hid (wide_sl how); clear how hb)
                    | (go_at_call 28; (with_reducible refine Calls.mono (lawact_duo HD13.out.swap o (.slice Av o.data.length cv) (.slice Ax o.sa.length cx) (.slice Ay o.sb.length cy) (.slice Az o.ch.length cz) (.slice (some ⟨gg13, 0, none⟩) o.data.length cc13) o.data (HFD.out _ hdl) H14.out HSW13.out) ?_); rintro e w14 ⟨he, hd, hf⟩; rw [Q2.out] at he; subst he; have HD14 := hid (hd.swap); have HW14 := hid (HW13.out.kept hf HKG.out); clear hd hf))
                clear e0 e1 e2 e3 e4 e5 e6 e7 e8
                go_wp2
                go_roundw
                case rel => exact ⟨acts + 1, j + 1, true, by omega, by go_num, rfl, by go_num, _, _, Q3.out, (mild_step HMA.out _ _ (by have := HSZ.out; have := HBT.out; omega)), (mild_step HMD.out _ _ (by have := HSZ.out; have := HBT.out; omega)), (Nat.le_trans (step_named _ _ _) HNM.out), by omega, HD14.out.forget⟩
                case measure => simp [intOf]; omega
            · have hmi : (((acts : Int) + 1) == (many : Int)) = false := by rw [beq_eq_false_iff_ne]; omega
              obtain ⟨q1, q2, q3⟩ := HR.out.far_step o.slot (o.act o.data) HBAD.out hm
              have Q1 := hid q1
              have Q2 := hid q2
              have Q3 := hid q3
              clear q1 q2 q3 hm
              have HWd10 := hid (HW10.out.below (drew_below w10))
              obtain ⟨e0, e1, e2, e3, e4, e5, e6, e7, e8⟩ := HW10.out.o
              go_region_held3 (fun W => W.cell? ⟨wr.heap.size, 0, none⟩ = some (.int .i64 o.kind) ∧ W.cell? ⟨wr.heap.size, 1, none⟩ = some (.int .i64 o.d) ∧ W.cell? ⟨wr.heap.size, 2, none⟩ = some (.int .i64 o.slot) ∧ W.cell? ⟨wr.heap.size, 3, none⟩ = some (.slice Av o.data.length cv) ∧ W.cell? ⟨wr.heap.size, 4, none⟩ = some (.int .i64 o.n) ∧ W.cell? ⟨wr.heap.size, 5, none⟩ = some (.bool o.done) ∧ W.cell? ⟨wr.heap.size, 6, none⟩ = some (.slice Ax o.sa.length cx) ∧ W.cell? ⟨wr.heap.size, 7, none⟩ = some (.slice Ay o.sb.length cy) ∧ W.cell? ⟨wr.heap.size, 8, none⟩ = some (.slice Az o.ch.length cz))
                (first | with_reducible assumption | with_reducible exact DW.o HW10.out | with_reducible exact DW.o HWd10.out | with_reducible exact DW.o HW11.out | with_reducible exact DW.o HW12.out)
                (first
                  | (go_at_call 10; (with_reducible refine Calls.mono (wide_any (.slice Av o.data.length cv) o.data w10.drew ((HOV.out.below HD10.out.base).below (drew_below w10)) hwl) ?_); rintro e w11 ⟨gg11, cc11, rfl, how, -, hb⟩; have HD11 := hid ((HD10.out.below (drew_below w10)).below hb); have HW11 := hid (HWd10.out.below hb); have HSW11 := hid (wide_sl how); clear how hb)
                  | (go_at_call 28; (with_reducible refine Calls.mono (lawact_duo HD11.out o (.slice Av o.data.length cv) (.slice Ax o.sa.length cx) (.slice Ay o.sb.length cy) (.slice Az o.ch.length cz) (.slice (some ⟨gg11, 0, none⟩) o.data.length cc11) o.data (HFA.out _ hdl) H14.out HSW11.out) ?_); rintro e w12 ⟨he, hd, hf⟩; rw [Q1.out] at he; subst he; have HD12 := hid (hd); have HW12 := hid (HW11.out.kept hf HKG.out); clear hd hf))
              clear e0 e1 e2 e3 e4 e5 e6 e7 e8
              go_upto_region 31 with (fail)
              have HWd12 := hid (HW12.out.below (drew_below w12))
              obtain ⟨e0, e1, e2, e3, e4, e5, e6, e7, e8⟩ := HW12.out.o
              go_region_held3 (fun W => W.cell? ⟨wr.heap.size, 0, none⟩ = some (.int .i64 o.kind) ∧ W.cell? ⟨wr.heap.size, 1, none⟩ = some (.int .i64 o.d) ∧ W.cell? ⟨wr.heap.size, 2, none⟩ = some (.int .i64 o.slot) ∧ W.cell? ⟨wr.heap.size, 3, none⟩ = some (.slice Av o.data.length cv) ∧ W.cell? ⟨wr.heap.size, 4, none⟩ = some (.int .i64 o.n) ∧ W.cell? ⟨wr.heap.size, 5, none⟩ = some (.bool o.done) ∧ W.cell? ⟨wr.heap.size, 6, none⟩ = some (.slice Ax o.sa.length cx) ∧ W.cell? ⟨wr.heap.size, 7, none⟩ = some (.slice Ay o.sb.length cy) ∧ W.cell? ⟨wr.heap.size, 8, none⟩ = some (.slice Az o.ch.length cz))
                (first | with_reducible assumption | with_reducible exact DW.o HW12.out | with_reducible exact DW.o HWd12.out | with_reducible exact DW.o HW13.out | with_reducible exact DW.o HW14.out)
                (first
                  | (go_at_call 10; (with_reducible refine Calls.mono (wide_any (.slice Av o.data.length cv) o.data w12.drew ((HOV.out.below HD12.out.base).below (drew_below w12)) hwl) ?_); rintro e w13 ⟨gg13, cc13, rfl, how, -, hb⟩; have HD13 := hid ((HD12.out.below (drew_below w12)).below hb); have HW13 := hid (HWd12.out.below hb); have HSW13 := hid (wide_sl how); clear how hb)
                  | (go_at_call 28; (with_reducible refine Calls.mono (lawact_duo HD13.out.swap o (.slice Av o.data.length cv) (.slice Ax o.sa.length cx) (.slice Ay o.sb.length cy) (.slice Az o.ch.length cz) (.slice (some ⟨gg13, 0, none⟩) o.data.length cc13) o.data (HFD.out _ hdl) H14.out HSW13.out) ?_); rintro e w14 ⟨he, hd, hf⟩; rw [Q2.out] at he; subst he; have HD14 := hid (hd.swap); have HW14 := hid (HW13.out.kept hf HKG.out); clear hd hf))
              clear e0 e1 e2 e3 e4 e5 e6 e7 e8
              go_wp2
              go_roundw
              case rel => exact ⟨acts + 1, j + 1, false, by omega, by go_num, rfl, by go_num, _, _, Q3.out, (mild_step HMA.out _ _ (by have := HSZ.out; have := HBT.out; omega)), (mild_step HMD.out _ _ (by have := HSZ.out; have := HBT.out; omega)), (Nat.le_trans (step_named _ _ _) HNM.out), by omega, HD14.out.forget⟩
              case measure => simp [intOf]; omega
          · have HBAD := hid hbad
            clear hbad
            obtain ⟨q1, q2, q3, q4⟩ := HR.out.bad_step o.slot (o.act o.data) rfl HBAD.out
            have Q1 := hid q1
            have Q2 := hid q2
            have Q3 := hid q3
            have Q4 := hid q4
            clear q1 q2 q3 q4
            have HWd10 := hid (HW10.out.below (drew_below w10))
            obtain ⟨e0, e1, e2, e3, e4, e5, e6, e7, e8⟩ := HW10.out.o
            go_region_held3 (fun W => W.cell? ⟨wr.heap.size, 0, none⟩ = some (.int .i64 o.kind) ∧ W.cell? ⟨wr.heap.size, 1, none⟩ = some (.int .i64 o.d) ∧ W.cell? ⟨wr.heap.size, 2, none⟩ = some (.int .i64 o.slot) ∧ W.cell? ⟨wr.heap.size, 3, none⟩ = some (.slice Av o.data.length cv) ∧ W.cell? ⟨wr.heap.size, 4, none⟩ = some (.int .i64 o.n) ∧ W.cell? ⟨wr.heap.size, 5, none⟩ = some (.bool o.done) ∧ W.cell? ⟨wr.heap.size, 6, none⟩ = some (.slice Ax o.sa.length cx) ∧ W.cell? ⟨wr.heap.size, 7, none⟩ = some (.slice Ay o.sb.length cy) ∧ W.cell? ⟨wr.heap.size, 8, none⟩ = some (.slice Az o.ch.length cz))
              (first | with_reducible assumption | with_reducible exact DW.o HW10.out | with_reducible exact DW.o HWd10.out | with_reducible exact DW.o HW11.out | with_reducible exact DW.o HW12.out)
              (first
                | (go_at_call 10; (with_reducible refine Calls.mono (wide_any (.slice Av o.data.length cv) o.data w10.drew ((HOV.out.below HD10.out.base).below (drew_below w10)) hwl) ?_); rintro e w11 ⟨gg11, cc11, rfl, how, -, hb⟩; have HD11 := hid ((HD10.out.below (drew_below w10)).below hb); have HW11 := hid (HWd10.out.below hb); have HSW11 := hid (wide_sl how); clear how hb)
                | (go_at_call 28; (with_reducible refine Calls.mono (lawact_duo HD11.out o (.slice Av o.data.length cv) (.slice Ax o.sa.length cx) (.slice Ay o.sb.length cy) (.slice Az o.ch.length cz) (.slice (some ⟨gg11, 0, none⟩) o.data.length cc11) o.data (HFA.out _ hdl) H14.out HSW11.out) ?_); rintro e w12 ⟨he, hd, hf⟩; rw [Q1.out] at he; subst he; have HD12 := hid (hd); have HW12 := hid (HW11.out.kept hf HKG.out); clear hd hf))
            clear e0 e1 e2 e3 e4 e5 e6 e7 e8
            rw [Q2.out] at HD12
            go_upto_region 21 with (fail)
            have HWd12 := hid (HW12.out.below (drew_below w12))
            obtain ⟨e0, e1, e2, e3, e4, e5, e6, e7, e8⟩ := HW12.out.o
            go_region_held3 (fun W => W.cell? ⟨wr.heap.size, 0, none⟩ = some (.int .i64 o.kind) ∧ W.cell? ⟨wr.heap.size, 1, none⟩ = some (.int .i64 o.d) ∧ W.cell? ⟨wr.heap.size, 2, none⟩ = some (.int .i64 o.slot) ∧ W.cell? ⟨wr.heap.size, 3, none⟩ = some (.slice Av o.data.length cv) ∧ W.cell? ⟨wr.heap.size, 4, none⟩ = some (.int .i64 o.n) ∧ W.cell? ⟨wr.heap.size, 5, none⟩ = some (.bool o.done) ∧ W.cell? ⟨wr.heap.size, 6, none⟩ = some (.slice Ax o.sa.length cx) ∧ W.cell? ⟨wr.heap.size, 7, none⟩ = some (.slice Ay o.sb.length cy) ∧ W.cell? ⟨wr.heap.size, 8, none⟩ = some (.slice Az o.ch.length cz))
              (first | with_reducible assumption | with_reducible exact DW.o HW12.out | with_reducible exact DW.o HWd12.out | with_reducible exact DW.o HW13.out | with_reducible exact DW.o HW14.out)
              (first
                | (go_at_call 10; (with_reducible refine Calls.mono (wide_any (.slice Av o.data.length cv) o.data w12.drew ((HOV.out.below HD12.out.base).below (drew_below w12)) hwl) ?_); rintro e w13 ⟨gg13, cc13, rfl, how, -, hb⟩; have HD13 := hid ((HD12.out.below (drew_below w12)).below hb); have HW13 := hid (HWd12.out.below hb); have HSW13 := hid (wide_sl how); clear how hb)
                | (go_at_call 28; (with_reducible refine Calls.mono (lawact_duo HD13.out.swap o (.slice Av o.data.length cv) (.slice Ax o.sa.length cx) (.slice Ay o.sb.length cy) (.slice Az o.ch.length cz) (.slice (some ⟨gg13, 0, none⟩) o.data.length cc13) o.data (HFD.out _ hdl) H14.out HSW13.out) ?_); rintro e w14 ⟨he, hd, hf⟩; rw [Q3.out] at he; subst he; have HD14 := hid (hd.swap); have HW14 := hid (HW13.out.kept hf HKG.out); clear hd hf))
            clear e0 e1 e2 e3 e4 e5 e6 e7 e8
            rw [Q4.out] at HD14
            go_wp2
            go_roundw
            case rel => exact ⟨acts, j + 1, false, by omega, rfl, rfl, by go_num, A, D, HR.out, mild_more HMA.out HBT2.out, mild_more HMD.out HBT2.out, HNM.out, by omega, HD14.out.forget⟩
            case measure => simp [intOf]; omega
        · obtain ⟨q1, q2⟩ := HR.out.dead_step o.slot (o.act o.data)
          have Q1 := hid q1
          have Q2 := hid q2
          clear q1 q2
          have HWd10 := hid (HW10.out.below (drew_below w10))
          obtain ⟨e0, e1, e2, e3, e4, e5, e6, e7, e8⟩ := HW10.out.o
          go_region_held3 (fun W => W.cell? ⟨wr.heap.size, 0, none⟩ = some (.int .i64 o.kind) ∧ W.cell? ⟨wr.heap.size, 1, none⟩ = some (.int .i64 o.d) ∧ W.cell? ⟨wr.heap.size, 2, none⟩ = some (.int .i64 o.slot) ∧ W.cell? ⟨wr.heap.size, 3, none⟩ = some (.slice Av o.data.length cv) ∧ W.cell? ⟨wr.heap.size, 4, none⟩ = some (.int .i64 o.n) ∧ W.cell? ⟨wr.heap.size, 5, none⟩ = some (.bool o.done) ∧ W.cell? ⟨wr.heap.size, 6, none⟩ = some (.slice Ax o.sa.length cx) ∧ W.cell? ⟨wr.heap.size, 7, none⟩ = some (.slice Ay o.sb.length cy) ∧ W.cell? ⟨wr.heap.size, 8, none⟩ = some (.slice Az o.ch.length cz))
            (first | with_reducible assumption | with_reducible exact DW.o HW10.out | with_reducible exact DW.o HWd10.out | with_reducible exact DW.o HW11.out | with_reducible exact DW.o HW12.out)
            (first
              | (go_at_call 10; (with_reducible refine Calls.mono (wide_any (.slice Av o.data.length cv) o.data w10.drew ((HOV.out.below HD10.out.base).below (drew_below w10)) hwl) ?_); rintro e w11 ⟨gg11, cc11, rfl, how, -, hb⟩; have HD11 := hid ((HD10.out.below (drew_below w10)).below hb); have HW11 := hid (HWd10.out.below hb); have HSW11 := hid (wide_sl how); clear how hb)
              | (go_at_call 28; (with_reducible refine Calls.mono (lawact_duo HD11.out o (.slice Av o.data.length cv) (.slice Ax o.sa.length cx) (.slice Ay o.sb.length cy) (.slice Az o.ch.length cz) (.slice (some ⟨gg11, 0, none⟩) o.data.length cc11) o.data (HFA.out _ hdl) H14.out HSW11.out) ?_); rintro e w12 ⟨he, hd, hf⟩; rw [Q1.out] at he; subst he; have HD12 := hid (hd); have HW12 := hid (HW11.out.kept hf HKG.out); clear hd hf))
          clear e0 e1 e2 e3 e4 e5 e6 e7 e8
          rw [Q2.out] at HD12
          go_wp2
          go_roundw
          case rel => exact ⟨acts, j + 1, true, by omega, rfl, rfl, by go_num, A, D, HR.out, mild_more HMA.out HBT2.out, mild_more HMD.out HBT2.out, HNM.out, by omega, HD12.out.forget⟩
          case measure => simp [intOf]; omega
      · have hk : ¬ (1 ≤ o.kind ∧ o.kind ≤ 4) := fun h => hfour (by unfold Dop.fourB; simpa using h)
        rcases Int.lt_or_le o.kind 1 with hk1 | hk1
        case' inl => have hk2 : ¬ (1 ≤ o.kind) := by omega
        case' inr => have hk2 : 4 < o.kind := by omega
        all_goals
          clear hk hfour
          go_upto_region 15 with (fail)
          refine Code.seen (fun W => DW wr.heap.size 0 o (.slice Av o.data.length cv) (.slice Ax o.sa.length cx) (.slice Ay o.sb.length cy) (.slice Az o.ch.length cz) W ∧ Below wr.heap.size wr W) ⟨dw_new _ _ _ _ _ _, (Below.refl _ _).alloc (Nat.le_refl _) _⟩ fun w1 Z1 => ?_
          have HD1 := hid (HD.out.below Z1.out.2)
          obtain ⟨e0, -, -, -, -, -, -, -, -⟩ := Z1.out.1
          clear d0 d1 d2 d3 d4 d5 d6 d7 d8 Z1
          go_wp2
          go_roundw
          case rel => exact ⟨acts, j + 1, dead, by omega, rfl, rfl, by go_num, A, D, HR.out, mild_more HMA.out HBT2.out, mild_more HMD.out HBT2.out, HNM.out, by omega, HD1.out⟩
          case measure => simp [intOf]; omega
    · obtain rfl : j = ops.length := by omega
      have hqq : ((acts : Int) != (acts : Int)) = false := by simp
      have hqq2 : (acts != acts) = false := by simp
      obtain ⟨pn, hpn⟩ : ∃ pn, D.pending = pn := ⟨_, rfl⟩
      have HPN := hid hpn
      have hpp : ((pn : Int) != (pn : Int)) = false := by simp
      have hpp2 : (pn != pn) = false := by simp
      have HPA : Hid (A.pending = pn) := hid (HR.out.t.pending.trans hpn)
      have hf := (HFD.out 0 (by omega)).acts
      have HPB : Hid (D.pending ≤ 1099511627776) := hid (by show D.s0.acts.length + D.s1.acts.length ≤ _; omega)
      have HCR := crashed_room D cs
      have hfr := (HFD.out 0 (by omega)).room
      have HRC : Hid ((D.crashed cs).s0.room + (D.crashed cs).s1.room ≤ 140737488355328) := hid (by omega)
      have HRA : Hid (A.s0.room + A.s1.room ≤ 140737488355328) := hid (by have := (HFA.out 0 (by omega)).room; omega)
      clear hpn hf HCR hfr hlt
      go_wp2_with fail
      refine (Acts_duo HD.out).mono ?_
      rw [HR.out.ad]
      rintro e w' ⟨rfl, hw⟩
      replace hw := hw.symm
      subst hw
      go_wp2_with fail
      refine (Acts_duo HD.out.swap).mono ?_
      rw [HR.out.dd]
      rintro e w' ⟨rfl, hw⟩
      replace hw := hw.symm
      subst hw
      go_wp2_with fail
      refine (Pending_duo HD.out (by rw [HPA.out, ← HPN.out]; exact HPB.out)).mono ?_
      rw [HPA.out]
      rintro e w5 ⟨rfl, hb5⟩
      have HD5 := hid (HD.out.below hb5)
      clear hb5
      go_wp2_with fail
      refine (Pending_duo HD5.out.swap HPB.out).mono ?_
      rw [HPN.out]
      rintro e w6 ⟨rfl, hb6⟩
      have HD6 := hid (HD5.out.below hb6)
      clear hb6
      go_wp2_with fail
      refine (Dead_duo HD6.out).mono ?_
      rw [HR.out.a]
      rintro e w' ⟨rfl, hw⟩
      replace hw := hw.symm
      subst hw
      have hdd : (dead != dead) = false := by simp
      cases dead
      case' true =>
        go_upto_region 36 with (fail)
        obtain ⟨SS, TT, k1, k2⟩ := HD6.out
        have K1 := hid k1
        clear k1 k2
        go_wp2_with fail
        refine (Read_any w6 SS a A 0 K1.out HRA.out).mono ?_
        rw [show A.readE 0 = 60 by unfold Dk.readE; rw [if_pos HR.out.a]]
        rintro e w7 ⟨v7, rfl, hv7, hb7⟩
        have HD7 := hid (HD6.out.below hb7)
        obtain ⟨A7, c7, rfl⟩ := hv7.form
        clear hb7 hv7 K1
        go_wp2_with fail
        refine (Stop_duo HD7.out 1 true (by omega)).mono ?_
        rw [if_pos HR.out.a, show A.stop 1 true = A by unfold Dk.stop; rw [if_pos HR.out.a]]
        rintro e w8 ⟨rfl, hd8, -⟩
        have HD8 := hid hd8
        clear hd8
        go_upto_region 39 with (fail)
      case' false =>
        have HD8 := HD6
        go_upto_region 39 with (fail)
      all_goals
        go_wp2_with fail
        refine (Crash_duo HD8.out rfl (.slice Cv cs.length pc) cs (HFA.out 0 (by omega)) HC.out).mono ?_
        rintro e w9 ⟨fd, rfl, -, h9, -⟩
        have H9 := hid h9
        clear h9
        go_wp2_with fail
        refine (Crash_duo H9.out rfl (.slice Cv cs.length pc) cs (HFD.out 0 (by omega)) HC.out).mono ?_
        rintro e wq ⟨gd, rfl, -, hq, -⟩
        rw [HR.out.t.crashed cs] at hq
        have HQ := hid hq
        clear hq
        go_wp2_with fail
        refine (alike_duo HQ.out HRC.out HRC.out rfl rfl rfl).mono ?_
        rintro e wz ⟨rfl, hbz⟩
        have HBZ := hid ((HQ.out.below hbz).base)
        clear hbz
        go_wp2
        go_ret
        exact ⟨rfl, HBZ.out⟩
end Go.Proofs.Ytcadacljacbipaa
