/- The walk of the law DiskTears. -/
import Derived.Test.YtcadacljacbipaaDiskLastsW
import Derived.Test.YtcadacljacbipaaTearsM
namespace Go.Proofs.Ytcadacljacbipaa
open Go.RowKit
theorem infoI : (Try.prog.info? 3).map (fun i => (i.zero, i.size, i.bytes)) = some (some (.int .i64 0), 1, 8) := by kernel_rfl
def lensV (qs : List (List UInt8)) : List Value := qs.map fun d => Value.int .i64 (d.length : Int)
/-- a list of lengths in a block of the call's own -/
def OwnI (w : World) (base : Nat) (v : Value) (l : List Nat) : Prop := w.ownsRow base 3 1 v l.length (l.map fun n : Nat => Value.int .i64 (n : Int))
/-- the disk, the full bytes, the lengths: apart from one another -/
structure TS (B : Nat) (W : World) (S : Nat → Prop) (d : Nat) (D : Dk) (fv lv : Value) (full : List UInt8) (lens : List Nat) : Prop where
  s : ∀ k, S k → B ≤ k
  d : DAt W S d D
  f : OwnB W B fv full
  l : OwnI W B lv lens
  fs : ∀ k, fv.ownBlock = some k → ¬ S k
  ls : ∀ k, lv.ownBlock = some k → ¬ S k
  fl : ∀ k, fv.ownBlock = some k → lv.ownBlock ≠ some k
section
variable {B : Nat} {W W' : World} {S : Nat → Prop} {d : Nat} {D D' : Dk} {fv lv fv' lv' : Value} {full full' : List UInt8} {lens lens' : List Nat}
theorem TS.below (h : TS B W S d D fv lv full lens) (hb : Below W.heap.size W W') : TS B W' S d D fv lv full lens :=
  ⟨h.s, h.d.below hb, h.f.below hb, own_block h.l fun k hk => hb.block k (World.ownsRow.lt h.l k hk).2, h.fs, h.ls, h.fl⟩
theorem TS.did (hB : B ≤ W.heap.size) (h : TS B W S d D fv lv full lens) (hd : Dt W W' S d D') : TS B W' (fun k => S k ∨ Nw W W' k) d D' fv lv full lens :=
  ⟨fun k hk => hk.elim (h.s k) (fun g => Nat.le_trans hB g.1), hd.1, h.f.fr hd.2 h.fs, own_fr h.l hd.2 h.ls, fun k hk g => g.elim (h.fs k hk) (fun g => by have := (World.ownsRow.lt h.f k hk).2; have := g.1; omega), fun k hk g => g.elim (h.ls k hk) (fun g => by have := (World.ownsRow.lt h.l k hk).2; have := g.1; omega), h.fl⟩
theorem TS.full_ (h : TS B W S d D fv lv full lens) (hg : W.grownBy W' fv.ownBlock) (ho : OwnB W' B fv' full') (hk : ∀ k, fv'.ownBlock = some k → fv.ownBlock = some k ∨ W.heap.size ≤ k) : TS B W' S d D fv' lv full' lens := by
  have hf := Fr.of_grown hg
  refine ⟨h.s, h.d.fr hf (fun k hs e => h.fs k e hs) (fun _ h => h) (fun k hs => Nat.lt_of_lt_of_le (h.d.lt k hs) hg.size), ho, own_fr h.l hf (fun k hl e => h.fl k e hl), fun k hk' hs => ?_, h.ls, fun k hk' hl => ?_⟩
  · rcases hk k hk' with g | g
    · exact h.fs k g hs
    · have := h.d.lt k hs; omega
  · rcases hk k hk' with g | g
    · exact h.fl k g hl
    · have := (World.ownsRow.lt h.l k hl).2; omega
theorem TS.lens_ (h : TS B W S d D fv lv full lens) (hg : W.grownBy W' lv.ownBlock) (ho : OwnI W' B lv' lens') (hk : ∀ k, lv'.ownBlock = some k → lv.ownBlock = some k ∨ W.heap.size ≤ k) : TS B W' S d D fv lv' full lens' := by
  have hf := Fr.of_grown hg
  refine ⟨h.s, h.d.fr hf (fun k hs e => h.ls k e hs) (fun _ h => h) (fun k hs => Nat.lt_of_lt_of_le (h.d.lt k hs) hg.size), h.f.fr hf (fun k hl e => h.fl k hl e), ho, h.fs, fun k hk' hs => ?_, fun k hk' hl => ?_⟩
  · rcases hk k hk' with g | g
    · exact h.ls k g hs
    · have := h.d.lt k hs; omega
  · rcases hk k hl with g | g
    · exact h.fl k hk' g
    · have := (World.ownsRow.lt h.f k hk').2; omega
end
theorem TS.block {B : Nat} {W W' : World} {S : Nat → Prop} {d : Nat} {D D' : Dk} {fv lv : Value} {full : List UInt8} {lens : List Nat} (h : TS B W S d D fv lv full lens) (hf : Fr (fun k => k = d) W W') (hd : DAt W' S d D') : TS B W' S d D' fv lv full lens :=
  have hs : S d := h.d.sd
  ⟨h.s, hd, h.f.fr hf (fun k hk e => h.fs k hk (e ▸ hs)), own_fr h.l hf (fun k hk e => h.ls k hk (e ▸ hs)), h.fs, h.ls, h.fl⟩
def tearX (l : List UInt8) (ps : List (List UInt8)) : Dk := { tearD l ps with dead := true }
theorem slb_cap {w : World} {A : Option Addr} {n c : Nat} {l : List UInt8} (h : SlB w (.slice A n c) l) : l.length ≤ c := by
  obtain ⟨A', c', e, h1, _⟩ := h
  injection e with e1 e2 e3
  omega
theorem bb_at {w : World} {A : Option Addr} {n c : Nat} {ps : List (List UInt8)} (h : SlBB w (.slice A n c) ps) (j : Nat) (hj : j < ps.length) : ∃ b off pv p, A = some ⟨b, off, none⟩ ∧ ps[j]? = some p ∧ (∀ W, Below w.heap.size w W → W.cell? ⟨b, off + j, none⟩ = some pv) ∧ SlB w pv p := by
  obtain ⟨f, ⟨A', c', e, h1, h2, h3⟩, h4⟩ := h
  injection e with e1 e2 e3
  subst e1
  obtain ⟨b, off, rfl, hc⟩ := h3 (by omega)
  have h5 := h4 j hj
  refine ⟨b, off, f j, ps[j], rfl, List.getElem?_eq_getElem hj, fun W hb => (hb.cell (World.block_lt_of_cell? w _ (hc j hj))).trans (hc j hj), ?_⟩
  have e : ps.getD j [] = ps[j] := by simp [hj]
  rw [e] at h5
  exact h5
/-- the lengths as they lie -/
theorem ints_at {w : World} {B n c : Nat} {A : Option Addr} {qs : List (List UInt8)} (h : OwnI w B (.slice A n c) (qs.map List.length)) (j : Nat) (d : List UInt8) (hj : qs[j]? = some d) : ∃ b off, A = some ⟨b, off, none⟩ ∧ w.cell? ⟨b, off + j, none⟩ = some (.int .i64 (d.length : Int)) := by
  obtain ⟨hl, rfl⟩ := List.getElem?_eq_some_iff.1 hj
  have h2 : Sl w (.slice A n c) (qs.map List.length).length (fun i => .int .i64 (((qs.map List.length).getD i 0 : Nat) : Int)) := by
    apply own_sl (base := B) (e := 3)
    have e : (List.range (qs.map List.length).length).map (fun i => Value.int .i64 (((qs.map List.length).getD i 0 : Nat) : Int)) = (qs.map List.length).map fun n : Nat => Value.int .i64 (n : Int) := by
      apply List.ext_getElem
      · simp
      · intro i h1 h2
        simp at h1
        simp [h1]
    rw [e]
    exact h
  obtain ⟨A', c', e, h1, h2, h3⟩ := h2
  injection e with e1 e2 e3
  subst e1
  obtain ⟨b, off, rfl, hc⟩ := h3 (by simp; omega)
  refine ⟨b, off, rfl, ?_⟩
  rw [hc j (by simpa using hl)]
  simp [hl]
theorem mod_at {nv : Int} (k : Int) (n : Nat) (h0 : -9223372036854775808 ≤ k) (h1 : k ≤ 9223372036854775807) (hn : 0 < n) (hn2 : n ≤ 1125899906842624) (he : nv = (n : Int)) (w : World) :
    Calls Try.prog 16 #[.int .i64 k, .int .i64 nv] w fun e w' => e = .returned (.int .i64 (cmod k n : Int)) ∧ w' = w := by
  subst he; exact mod_any k n h0 h1 hn hn2 w
theorem tear_fits (l : List UInt8) (ps : List (List UInt8)) (m : Nat) (h1 : l.length + ps.flatten.length + l.length + m ≤ 4194304) (h2 : ps.length ≤ 1048576) : (tearD l ps).fits m := by
  have e : (ne ps).length ≤ ps.length := List.length_filter_le _ _
  have r0 : (tearD l ps).s0.room = l.length + ps.flatten.length := by
    show l.length + sizes ((ne ps).map .app) = _
    rw [sizes_app, ne_flatten]
  have r1 : (tearD l ps).s1.room = l.length := rfl
  have a0 : (tearD l ps).s0.acts.length = (ne ps).length := by show ((ne ps).map DAct.app).length = _; simp
  have a1 : (tearD l ps).s1.acts.length = 0 := rfl
  exact ⟨by rw [r0, r1]; omega, by rw [a0, a1]; omega, by show ps.length + 1 ≤ _; omega, by show 0 ≤ _; omega⟩
theorem one_int (w : World) (n : Int) {fr : Nat × Nat} : Sl (w.alloc (.cells #[.int .i64 n] 3 fr)) (.slice (some ⟨w.heap.size, 0, none⟩) 1 1) 1 (fun _ => .int .i64 n) := by
  refine ⟨_, _, rfl, Nat.le_refl _, (fun h => by cases h), fun _ => ⟨w.heap.size, 0, rfl, fun i hi => ?_⟩⟩
  obtain rfl : i = 0 := by omega
  rw [cell_of_row _ _ _ _ _ _ (heap_alloc_new _ _)]; rfl
set_option maxRecDepth 100000 in
set_option maxHeartbeats 16000000 in
theorem DiskTears_walk (vl vp vc : Value) (lasts : List UInt8) (ps : List (List UInt8)) (size : Int) (cs : List Int) (w : World) (n0 : -9223372036854775808 ≤ size) (n1 : size ≤ 9223372036854775807) (hl : SlB w vl lasts) (hp : SlBB w vp ps) (hc : SlZ w vc cs) (hM : lasts.length + ps.flatten.length + ps.length ≤ 1048576) :
    Calls Try.prog 3 #[.agg #[vl, vp, .int .i64 size, vc]] w fun e w' => e = .returned (.bool true) ∧ Below w.heap.size w w' := by
  have HL := hid hl
  have HP := hid hp
  have HC := hid hc
  obtain ⟨Al, pl, rfl⟩ := hl.form
  obtain ⟨Ac, pc, rfl⟩ := hc.form
  obtain ⟨Ap, pp, rfl, hpp⟩ : ∃ A c, vp = .slice A ps.length c ∧ ps.length ≤ c := by obtain ⟨f, ⟨A, c, e, h, _⟩, _⟩ := hp; exact ⟨A, c, e, h⟩
  clear hl hp hc
  go_enter Try.func3, Try.ntmps3
  go_upto_region 1 with (fail)
  refine Code.seen (fun W => W.heap[w.heap.size]? = some (.cells #[.slice Al lasts.length pl, .slice Ap ps.length pp, .int .i64 size, .slice Ac cs.length pc] 26 (0, 0)) ∧ Below w.heap.size w W) ⟨heap_alloc_new _ _, (Below.refl _ _).alloc (Nat.le_refl _) _⟩ fun w1 H1 => ?_
  have x0 : w1.cell? ⟨w.heap.size, 0, none⟩ = some (.slice Al lasts.length pl) := by rw [blk_cell H1.out.1]; rfl
  have x1 : w1.cell? ⟨w.heap.size, 1, none⟩ = some (.slice Ap ps.length pp) := by rw [blk_cell H1.out.1]; rfl
  have x2 : w1.cell? ⟨w.heap.size, 2, none⟩ = some (.int .i64 size) := by rw [blk_cell H1.out.1]; rfl
  have x3 : w1.cell? ⟨w.heap.size, 3, none⟩ = some (.slice Ac cs.length pc) := by rw [blk_cell H1.out.1]; rfl
  go_wp2
  go_quiet (fail)
  have HB1 : Hid (Below w.heap.size w (w1.drewN nq)) := hid (below_drewN H1.out.2 _)
  clear x0 x1 x2 x3 H1
  generalize w1.drewN nq = w2 at *
  go_wp2_with fail
  refine (wide_any _ lasts w2 (HL.out.below HB1.out) (by omega)).mono ?_
  rintro e w3 ⟨g1, c1, rfl, ho1, -, hb3⟩
  have HB3 := hid (below_then HB1.out hb3)
  have HO1 := hid (wide_sl ho1)
  clear ho1 hb3
  go_wp2_with fail
  refine (wide_any _ lasts w3 (HL.out.below HB3.out) (by omega)).mono ?_
  rintro e w4 ⟨g2, c2, rfl, ho2, -, hb4⟩
  have HB4 := hid (below_then HB3.out hb4)
  have HO2 := hid (wide_sl ho2)
  have HO1' := hid (HO1.out.below hb4)
  clear ho2 hb4
  go_wp2_with fail
  refine (Load_any w4 0 (.inl rfl) _ _ lasts lasts HO1'.out HO2.out (by omega) (by omega)).mono ?_
  rintro e w5 ⟨d, rfl, hb5, hd5⟩
  have HB5 := hid (below_then HB4.out hb5)
  have HD5 : Hid (DAt w5 (fun k => Nw w4 w5 k) d (tearD lasts [])) := hid hd5
  clear hb5 hd5 HO1 HO1' HO2
  go_wp2_with fail
  refine (head_any w5).mono ?_
  rintro e w6 ⟨rfl, hb6⟩
  have HB6 := hid (below_then HB5.out hb6)
  have HD6 := hid (HD5.out.below hb6)
  clear hb6
  go_wp2_with (at_builtin; refine wpList_appBX rfl (.tmp 45) (.tmp 46) rfl w.heap.size (.slice none 0 0) (.slice Al lasts.length pl) [] lasts rfl rfl (OwnB.nil _ _) (HL.out.below HB6.out) (by simp only [List.length_nil]; omega) HB6.out.size ?_; intro fv w7 hof hgf hkf; rw [List.nil_append] at hof; have hb7 := hid (OwnB.grown HB6.out (OwnB.nil w6 w.heap.size) (Nat.le_refl _) HB6.out.size hgf); obtain ⟨Af, pf, rfl⟩ := hof.form; have HT0 : Hid (TS w.heap.size w6 (fun k => Nw w4 w5 k) d (tearD lasts []) (.slice none 0 0) (.slice none 0 0) [] []) := hid ⟨fun k hk => Nat.le_trans HB4.out.size hk.1, HD6.out, OwnB.nil _ _, World.ownsRow_nil _ _ _ _, fun k hk => by simp [Value.ownBlock] at hk, fun k hk => by simp [Value.ownBlock] at hk, fun k hk => by simp [Value.ownBlock] at hk⟩; have HT7 := hid (HT0.out.full_ hgf hof hkf); clear hof hgf hkf)
  go_wp2
  go_loopw [9, 10, 11] (fun fv lv i wr => ∃ (j : Nat) (S : Nat → Prop), j ≤ ps.length ∧ i = .int .i64 j ∧ TS w.heap.size wr S d (tearD lasts (ps.take j)) fv lv (lasts ++ (ps.take j).flatten) ((ne (ps.take j)).map List.length) ∧ Below w.heap.size w wr) (fun _ _ i _ => ps.length - (intOf i).toNat)
  case atStart => exact ⟨0, _, Nat.zero_le _, rfl, by simpa [ne] using HT7.out, hb7.out⟩
  case round =>
    clear HT7 hb7 HT0 HD6 HB6 HD5 HB5 HB4 HB3 HB1
    obtain ⟨j, S, hj, rfl, hT, hB⟩ := hrel
    obtain ⟨wh, hwh⟩ : ∃ wh, lasts ++ (ps.take j).flatten = wh := ⟨_, rfl⟩
    obtain ⟨qs, hqs⟩ : ∃ qs, ne (ps.take j) = qs := ⟨_, rfl⟩
    have hwl : wh.length ≤ 1048576 := by have := take_flat_le ps j; rw [← hwh, List.length_append]; omega
    have hql : qs.length ≤ 1048576 := by have := ne_le (ps.take j); rw [hqs] at this; simp at this; omega
    rw [hwh, hqs] at hT
    obtain ⟨Af, pf, rfl⟩ := hT.f.form
    have hlv := own_form hT.l
    rw [List.length_map] at hlv
    obtain ⟨Al2, pl2, rfl⟩ := hlv
    have HT := hid hT
    have HB := hid hB
    have HWH := hid hwh
    have HQS := hid hqs
    clear hT hB hwh hqs
    by_cases hlt : j < ps.length
    · obtain ⟨b, off, pv, p, rfl, hp, hcell, hpv⟩ := bb_at HP.out j hlt
      obtain ⟨A1, c1, rfl⟩ := hpv.form
      have HPV := hid hpv
      have HCL := hid hcell
      have HPE := hid hp
      have HSP : Hid (lasts.length + (ps.take j).flatten.length + p.length ≤ 1048576) := hid (by have h1 := take_succ_len ps j p hp; have h2 := take_flat_le ps (j + 1); omega)
      have hpl : p.length ≤ 1048576 := by have := HSP.out; omega
      have hx := hcell wr HB.out
      clear hpv hcell hp
      go_wp2_with fail
      refine (wide_any _ p wr (HPV.out.below HB.out) (by omega)).mono ?_
      rintro e w8 ⟨g3, c3, rfl, ho, -, hb⟩
      have HO8 := hid (wide_sl ho)
      have HT8 := hid (HT.out.below hb)
      have HB8 := hid (below_then HB.out hb)
      clear ho hb hx HT HB
      go_wp2_with fail
      refine (Append_any w8 S d _ 0 _ p HT8.out.d (tear_fits lasts (ps.take j) p.length (by have := HSP.out; omega) (by simp; omega)) HO8.out).mono ?_
      rw [tearD_err, tearD_step, ← take_one ps j p HPE.out]
      rintro e w9 ⟨rfl, hd9⟩
      have HT9 := hid (HT8.out.did HB8.out.size hd9)
      have HB9 : Hid (Below w.heap.size w w9) := hid (HB8.out.trans (hd9.2.to_below (fun k hk g => by have := HT8.out.s k g; omega) HB8.out.size))
      have hx9 := HCL.out w9 HB9.out
      clear hd9 HT8 HB8 HO8
      by_cases hp0 : 0 < p.length
      · go_upto_region 15 with (at_builtin; refine wpList_appBX rfl (.tmp 62) (.tmp 66) rfl w.heap.size _ _ wh p rfl rfl HT9.out.f (HPV.out.below HB9.out) (by omega) HB9.out.size ?_; intro fv2 w10 hof hgf hkf; obtain ⟨wh2, hwh2⟩ : ∃ x, wh ++ p = x := ⟨_, rfl⟩; rw [hwh2] at hof; have HW2 := hid hwh2; clear hwh2; obtain ⟨Af2, pf2, rfl⟩ := hof.form; have HT10 := hid (HT9.out.full_ hgf hof hkf); have HB10 := hid (OwnB.grown HB9.out HT9.out.f (Nat.le_refl _) HB9.out.size hgf); have hx10 := HCL.out w10 HB10.out; clear hof hgf hkf hx9)
        have HOL : Hid ((w10.alloc (.cells #[.int .i64 (p.length : Int)] 3)).ownsRow w.heap.size 3 1 (.slice Al2 qs.length pl2) qs.length (lensV qs)) := hid (by have := own_fr HT10.out.l (Fr.alloc (fun _ => False) w10 (.cells #[.int .i64 (p.length : Int)] 3)) (fun _ _ h => h); simpa [OwnI, lensV, Function.comp_def] using this)
        go_wp2_with (at_builtin; go_loud (refine wpList_appX rfl (.tmp 74) (.tmp 80) rfl Try.underlying24 infoI rfl w.heap.size (.slice Al2 qs.length pl2) _ qs.length 1 (lensV qs) (fun _ => .int .i64 p.length) rfl rfl HOL.out (by exact one_int w10 _) (fun _ _ => rfl) (by omega) (by unfold maxLen; omega) (by exact Nat.le_trans HB10.out.size (by simp)) ?_; intro lv2 w11 hol hgl hkl; have HT11 := hid ((HT10.out.below ((Below.refl _ _).alloc (Nat.le_refl _) _)).lens_ hgl (lens' := qs.map List.length ++ [p.length]) (by unfold OwnI; simpa [lensV, Function.comp_def] using hol) hkl); have HB11 : Hid (Below w.heap.size w w11) := hid ((HB10.out.alloc HB10.out.size _).grown hgl (by have := HB10.out.size; simp; omega) (fun k hk => (World.ownsRow.lt HT10.out.l k hk).1)); clear hol hgl hkl))
        go_roundw
        case rel => exact ⟨j + 1, _, by omega, by go_num, by rw [flat_one lasts ps j p HPE.out, lens_one ps j p HPE.out hp0, HWH.out, HQS.out, HW2.out]; exact HT11.out, HB11.out⟩
        case measure => simp [intOf]; omega
      · go_wp2_with (at_builtin; refine wpList_appBX rfl (.tmp 62) (.tmp 66) rfl w.heap.size _ _ wh p rfl rfl HT9.out.f (HPV.out.below HB9.out) (by omega) HB9.out.size ?_; intro fv2 w10 hof hgf hkf; obtain ⟨wh2, hwh2⟩ : ∃ x, wh ++ p = x := ⟨_, rfl⟩; rw [hwh2] at hof; have HW2 := hid hwh2; clear hwh2; obtain ⟨Af2, pf2, rfl⟩ := hof.form; have HT10 := hid (HT9.out.full_ hgf hof hkf); have HB10 := hid (OwnB.grown HB9.out HT9.out.f (Nat.le_refl _) HB9.out.size hgf); have hx10 := HCL.out w10 HB10.out; clear hof hgf hkf hx9)
        go_roundw
        case rel => exact ⟨j + 1, _, by omega, by go_num, by rw [flat_one lasts ps j p HPE.out, lens_none ps j p HPE.out hp0, HWH.out, HQS.out, HW2.out]; exact HT10.out, HB10.out⟩
        case measure => simp [intOf]; omega
    · obtain ⟨hj2, HJ⟩ : ps.length ≤ j ∧ Hid (ps.take j = ps) := ⟨by omega, hid (List.take_of_length_le (by omega))⟩
      rw [HJ.out] at HT HWH HQS
      obtain ⟨F, hF⟩ : ∃ F, ps.flatten.length = F := ⟨_, rfl⟩
      have HWL : Hid (wh.length = lasts.length + F) := hid (by rw [← HWH.out, List.length_append, hF])
      have HFS := hid hF
      have hFM : lasts.length + F + ps.length ≤ 1048576 := by rw [← hF]; omega
      have HFT : Hid ((tearD lasts ps).fits 0) := hid (tear_fits lasts ps 0 (by omega) (by omega))
      have HFT2 : Hid ((tearX lasts ps).fits 0) := hid ⟨HFT.out.room, HFT.out.acts, HFT.out.done, HFT.out.named⟩
      clear hF hM
      go_wp2_with fail
      refine (Pending_any wr S d _ HT.out.d (by rw [tear_pending]; have := ne_le ps; omega)).mono ?_
      rw [tear_pending, HQS.out]
      rintro e w8 ⟨rfl, n8, hw⟩
      have HT8 : Hid (TS w.heap.size w8 S d (tearD lasts ps) (Value.slice Af wh.length pf) (Value.slice Al2 qs.length pl2) wh (List.map List.length qs)) := hid (by rw [hw]; exact HT.out.below (below_drewN (Below.refl _ _) _))
      have HB8 : Hid (Below w.heap.size w w8) := hid (by rw [hw]; exact below_drewN HB.out _)
      clear hw HT HB
      go_wp2_with fail
      refine (Crash_any w8 S d _ _ cs HT8.out.d HFT.out (HC.out.below HB8.out) (fun h0 k hk hs => by have h1 := slz_lt HC.out h0 k hk; have h2 := HT8.out.s k hs; omega)).mono ?_
      rintro e w9 ⟨fd, rfl, hfr, hd9, hc9⟩
      have HT9 : Hid (TS w.heap.size w9 S d (tearX lasts ps) (Value.slice Af wh.length pf) (Value.slice Al2 qs.length pl2) wh (List.map List.length qs)) := hid (HT8.out.block hfr hd9)
      have HB9 : Hid (Below w.heap.size w w9) := hid (HB8.out.trans (hfr.to_below (fun k hk e => by have := HT8.out.s _ HT8.out.d.sd; omega) HB8.out.size))
      have HC9 := hid hc9
      clear hfr hd9 hc9 HT8 HB8
      obtain ⟨r0, r1, r2, r3⟩ := tear_read0 lasts ps cs (tearD lasts ps) rfl rfl
      have hpre := crash_prefix lasts (ne ps) cs
      rw [ne_flatten, HWH.out] at hpre
      generalize (Dslot.crash ⟨lasts, (ne ps).map .app⟩ cs).1 = bs at r0 hpre
      obtain ⟨hp1, hp2⟩ := hpre
      have hp3 : bs.length ≤ wh.length := hp1.length_le
      have HP1 := hid (List.prefix_iff_eq_take.1 hp1)
      have R2 := hid r2
      have R3 := hid r3
      have HRM : Hid (((tearD lasts ps).crashed cs).s0.room + ((tearD lasts ps).crashed cs).s1.room ≤ 140737488355328) := hid (by have h1 := crashed_room (tearD lasts ps) cs; have h2 := HFT.out.room; omega)
      clear hp1 r2 r3
      go_wp2_with fail
      refine (Read_any w9 _ fd _ 0 HC9.out HRM.out).mono ?_
      rw [r0, r1]
      clear r0 r1
      rintro e w10 ⟨v10, rfl, hv10, hb10⟩
      obtain ⟨Ab, cb, rfl⟩ := hv10.form
      have HV10 := hid hv10.sl
      have HT10 := hid (HT9.out.below hb10)
      have HB10 := hid (below_then HB9.out hb10)
      have HC10 := hid (HC9.out.below hb10)
      clear hv10 hb10 HT9 HB9 HC9
      have hcap := slb_cap HT10.out.f.sl
      have hcb : bs.length ≤ pf := by omega
      have k1 : ∀ n, (convert 22 9 (.slice Ab bs.length cb)).run Try.prog (w10.drewN n) = .ok (.string (str bs)) (w10.drewN n) := fun n => conv_str (HV10.out.below (below_drewN (Below.refl _ _) n))
      have k2 : ∀ n, (convert 22 9 (.slice Af bs.length pf)).run Try.prog (w10.drewN n) = .ok (.string (str bs)) (w10.drewN n) := fun n => conv_str (by have := (HT10.out.f.sl.below (below_drewN (Below.refl _ _) n)).take_ bs.length hp3 (by omega); rw [← HP1.out] at this; exact this)
      go_upto_region 20 with (fail)
      go_quiet (fail)
      have HT11 := hid (HT10.out.below (below_drewN (Below.refl _ _) nq))
      have HB11 := hid (below_drewN HB10.out nq)
      have HC11 := hid (HC10.out.below (below_drewN (Below.refl _ _) nq))
      clear k1 k2 HT10 HB10 HC10 HV10
      generalize w10.drewN nq = w11 at *
      go_wp2_with fail
      refine (Read_any w11 _ fd _ 1 HC11.out HRM.out).mono ?_
      rw [R2.out, R3.out]
      rintro e w12 ⟨v12, rfl, hv12, hb12⟩
      obtain ⟨Ac12, c12, rfl⟩ := hv12.form
      have HT12 := hid (HT11.out.below hb12)
      have HB12 := hid (below_then HB11.out hb12)
      have k1 := conv_str hv12.sl
      have k2 := conv_str (HL.out.below HB12.out)
      clear hv12 hb12 HT11 HB11 HC11
      go_wp2_with fail
      refine (mod_at size (F + 1) n0 n1 (by omega) (by omega) (by have := HWL.out; omega) w12).mono ?_
      rintro e w' ⟨rfl, hw⟩
      replace hw := hw.symm
      subst hw
      obtain ⟨left, hleft⟩ : ∃ left, cmod size (F + 1) = left := ⟨_, rfl⟩
      have hll : left ≤ F := by have := cmod_lt size (show 0 < F + 1 by omega); omega
      rw [hleft]
      clear hleft k1 k2
      go_wp2
      go_loopw [16, 17] (fun iw ir wr => ∃ whole rest : Nat, whole ≤ qs.length ∧ iw = .int .i64 whole ∧ ir = .int .i64 rest ∧ (qs.take whole).flatten.length + rest = left ∧ TS w.heap.size wr S d (tearX lasts ps) (.slice Af wh.length pf) (.slice Al2 qs.length pl2) wh (qs.map List.length) ∧ Below w.heap.size w wr) (fun iw _ _ => qs.length - (intOf iw).toNat)
      case atStart => exact ⟨0, left, Nat.zero_le _, rfl, rfl, by simp, HT12.out, HB12.out⟩
      case round =>
        clear HT12 HB12
        obtain ⟨whole, rest, hwle, rfl, rfl, hsum, hT, hB⟩ := hrel
        have HT := hid hT
        have HB := hid hB
        have HSUM := hid hsum
        have hrl : rest ≤ 1048576 := by omega
        have hIA := fun D => ints_at hT.l whole D
        have HIA := hid hIA
        clear hT hB hsum hIA
        by_cases hgo : ∃ D, qs[whole]? = some D ∧ D.length ≤ rest
        · obtain ⟨D, hD, hDr⟩ := hgo
          have hwl2 := (List.getElem?_eq_some_iff.1 hD).1
          obtain ⟨b2, o2, rfl, hx2⟩ := HIA.out D hD
          have HD := hid hD
          clear hD
          go_wp2
          go_roundw
          case rel => exact ⟨whole + 1, rest - D.length, by omega, by go_num, by go_num, by have h1 := take_succ_len qs whole D HD.out; have h2 := HSUM.out; omega, HT.out, HB.out⟩
          case measure => simp [intOf]; omega
        · have HSTOP : Hid (∀ D, qs[whole]? = some D → rest < D.length) := hid (fun D hD => by rcases Nat.lt_or_ge rest D.length with h | h; (exact h); (exact absurd ⟨D, hD, h⟩ hgo))
          clear hgo
          by_cases hlt2 : whole < qs.length
          · obtain ⟨b2, o2, rfl, hx2⟩ := HIA.out _ (List.getElem?_eq_getElem hlt2)
            have hst := HSTOP.out _ (List.getElem?_eq_getElem hlt2)
            generalize (qs[whole]).length = ql at hx2 hst
            have HSL := hid HT.out.d.lt
            go_wp2_with fail
            refine Calls.seen (fun W => SlZ W (.slice (some ⟨wr.heap.size, 0, none⟩) 2 2) [(whole : Int), (rest : Int)] ∧ TS w.heap.size W S d (tearX lasts ps) (.slice Af wh.length pf) (.slice (some ⟨b2, o2, none⟩) qs.length pl2) wh (qs.map List.length) ∧ Below w.heap.size w W) ⟨litZ wr [(whole : Int), (rest : Int)] (by intro n hn; simp at hn; omega), HT.out.below ((Below.refl _ _).alloc (Nat.le_refl _) _), HB.out.alloc HB.out.size _⟩ fun w13 H13 => ?_
            refine (Crash_any w13 S d _ _ [(whole : Int), (rest : Int)] H13.out.2.1.d HFT2.out H13.out.1 (fun _ k hk hs => by injection hk with hk; have hk : wr.heap.size = k := hk; have := HSL.out k hs; omega)).mono ?_
            rintro e w14 ⟨fd2, rfl, hfr, hd14, hc14⟩
            have HT14 := hid (H13.out.2.1.block hfr hd14)
            have HB14 : Hid (Below w.heap.size w w14) := hid (H13.out.2.2.trans (hfr.to_below (fun k hk e => by have := H13.out.2.1.s _ H13.out.2.1.d.sd; omega) H13.out.2.2.size))
            have HC14 := hid hc14
            clear hfr hd14 hc14 H13 HT HB
            obtain ⟨r0, r1, -, -⟩ := tear_read0 lasts ps [(whole : Int), (rest : Int)] (tearX lasts ps) rfl rfl
            have hnm := crash_named lasts (ne ps) whole rest left (by rw [HQS.out]; exact hwle) (by rw [HQS.out]; exact HSUM.out) (by rw [ne_flatten, HFS.out]; exact hll) (by rw [HQS.out]; exact HSTOP.out)
            rw [ne_flatten, HWH.out] at hnm
            rw [hnm] at r0
            obtain ⟨m, hm⟩ : ∃ m, lasts.length + left = m := ⟨_, rfl⟩
            rw [hm] at r0
            obtain ⟨zs, hzs⟩ : ∃ zs, wh.take m = zs := ⟨_, rfl⟩
            rw [hzs] at r0
            have hmw : IntKind.i64.wrap ((lasts.length : Int) + (left : Int)) = (m : Int) := by rw [IntKind.wrap_i64]; omega
            have hmh : m ≤ wh.length := by have := HWL.out; omega
            have hmp : m ≤ pf := by omega
            have HZS := hid hzs
            have HRM2 : Hid (((tearX lasts ps).crashed [(whole : Int), (rest : Int)]).s0.room + ((tearX lasts ps).crashed [(whole : Int), (rest : Int)]).s1.room ≤ 140737488355328) := hid (by have h1 : ((tearX lasts ps).crashed [(whole : Int), (rest : Int)]).s0.room + ((tearX lasts ps).crashed [(whole : Int), (rest : Int)]).s1.room ≤ (tearD lasts ps).s0.room + (tearD lasts ps).s1.room := crashed_room (tearX lasts ps) _; have h2 := HFT.out.room; omega)
            clear hnm hm hzs
            go_wp2_with fail
            refine (Read_any w14 _ fd2 _ 0 HC14.out HRM2.out).mono ?_
            rw [r0, r1]
            clear r0 r1
            rintro e w15 ⟨v15, rfl, hv15, hb15⟩
            obtain ⟨Az, cz, rfl⟩ := hv15.form
            have HV15 := hid hv15.sl
            have HT15 := hid (HT14.out.below hb15)
            have HB15 := hid (below_then HB14.out hb15)
            clear hv15 hb15 HT14 HB14 HC14
            have k1 : ∀ n, (convert 22 9 (.slice Az zs.length cz)).run Try.prog (w15.drewN n) = .ok (.string (str zs)) (w15.drewN n) := fun n => conv_str (HV15.out.below (below_drewN (Below.refl _ _) n))
            have k2 : ∀ n, (convert 22 9 (.slice Af m pf)).run Try.prog (w15.drewN n) = .ok (.string (str zs)) (w15.drewN n) := fun n => conv_str (by have := (HT15.out.f.sl.below (below_drewN (Below.refl _ _) n)).take_ m hmh hmp; rw [HZS.out] at this; exact this)
            go_upto_region 33 with (fail)
            go_quiet (fail)
            go_wp2_with fail
            go_ret
            exact ⟨rfl, below_drewN HB15.out _⟩
          · clear HIA
            have HSL := hid HT.out.d.lt
            go_wp2_with fail
            refine Calls.seen (fun W => SlZ W (.slice (some ⟨wr.heap.size, 0, none⟩) 2 2) [(whole : Int), (rest : Int)] ∧ TS w.heap.size W S d (tearX lasts ps) (.slice Af wh.length pf) (.slice Al2 qs.length pl2) wh (qs.map List.length) ∧ Below w.heap.size w W) ⟨litZ wr [(whole : Int), (rest : Int)] (by intro n hn; simp at hn; omega), HT.out.below ((Below.refl _ _).alloc (Nat.le_refl _) _), HB.out.alloc HB.out.size _⟩ fun w13 H13 => ?_
            refine (Crash_any w13 S d _ _ [(whole : Int), (rest : Int)] H13.out.2.1.d HFT2.out H13.out.1 (fun _ k hk hs => by injection hk with hk; have hk : wr.heap.size = k := hk; have := HSL.out k hs; omega)).mono ?_
            rintro e w14 ⟨fd2, rfl, hfr, hd14, hc14⟩
            have HT14 := hid (H13.out.2.1.block hfr hd14)
            have HB14 : Hid (Below w.heap.size w w14) := hid (H13.out.2.2.trans (hfr.to_below (fun k hk e => by have := H13.out.2.1.s _ H13.out.2.1.d.sd; omega) H13.out.2.2.size))
            have HC14 := hid hc14
            clear hfr hd14 hc14 H13 HT HB
            obtain ⟨r0, r1, -, -⟩ := tear_read0 lasts ps [(whole : Int), (rest : Int)] (tearX lasts ps) rfl rfl
            have hnm := crash_named lasts (ne ps) whole rest left (by rw [HQS.out]; exact hwle) (by rw [HQS.out]; exact HSUM.out) (by rw [ne_flatten, HFS.out]; exact hll) (by rw [HQS.out]; exact HSTOP.out)
            rw [ne_flatten, HWH.out] at hnm
            rw [hnm] at r0
            obtain ⟨m, hm⟩ : ∃ m, lasts.length + left = m := ⟨_, rfl⟩
            rw [hm] at r0
            obtain ⟨zs, hzs⟩ : ∃ zs, wh.take m = zs := ⟨_, rfl⟩
            rw [hzs] at r0
            have hmw : IntKind.i64.wrap ((lasts.length : Int) + (left : Int)) = (m : Int) := by rw [IntKind.wrap_i64]; omega
            have hmh : m ≤ wh.length := by have := HWL.out; omega
            have hmp : m ≤ pf := by omega
            have HZS := hid hzs
            have HRM2 : Hid (((tearX lasts ps).crashed [(whole : Int), (rest : Int)]).s0.room + ((tearX lasts ps).crashed [(whole : Int), (rest : Int)]).s1.room ≤ 140737488355328) := hid (by have h1 : ((tearX lasts ps).crashed [(whole : Int), (rest : Int)]).s0.room + ((tearX lasts ps).crashed [(whole : Int), (rest : Int)]).s1.room ≤ (tearD lasts ps).s0.room + (tearD lasts ps).s1.room := crashed_room (tearX lasts ps) _; have h2 := HFT.out.room; omega)
            clear hnm hm hzs
            go_wp2_with fail
            refine (Read_any w14 _ fd2 _ 0 HC14.out HRM2.out).mono ?_
            rw [r0, r1]
            clear r0 r1
            rintro e w15 ⟨v15, rfl, hv15, hb15⟩
            obtain ⟨Az, cz, rfl⟩ := hv15.form
            have HV15 := hid hv15.sl
            have HT15 := hid (HT14.out.below hb15)
            have HB15 := hid (below_then HB14.out hb15)
            clear hv15 hb15 HT14 HB14 HC14
            have k1 : ∀ n, (convert 22 9 (.slice Az zs.length cz)).run Try.prog (w15.drewN n) = .ok (.string (str zs)) (w15.drewN n) := fun n => conv_str (HV15.out.below (below_drewN (Below.refl _ _) n))
            have k2 : ∀ n, (convert 22 9 (.slice Af m pf)).run Try.prog (w15.drewN n) = .ok (.string (str zs)) (w15.drewN n) := fun n => conv_str (by have := (HT15.out.f.sl.below (below_drewN (Below.refl _ _) n)).take_ m hmh hmp; rw [HZS.out] at this; exact this)
            go_upto_region 33 with (fail)
            go_quiet (fail)
            go_wp2_with fail
            go_ret
            exact ⟨rfl, below_drewN HB15.out _⟩
end Go.Proofs.Ytcadacljacbipaa
