/- The document's Crash. -/
import Derived.Test.YtcadacljacbipaaAll19
import Derived.Test.YtcadacljacbipaaAll17
import Derived.StillTailTactics
namespace Go.Proofs.Ytcadacljacbipaa
open Go.RowKit
/-- behind slot k, a choices taken -/
def CrQ (D : Dk) (cs : List Int) (k a : Nat) (x y : List UInt8) : Prop := (k = 0 → a = 0) ∧ (1 ≤ k → x = (D.s0.crash cs).1) ∧ (k = 1 → cs.drop a = (D.s0.crash cs).2) ∧ (2 ≤ k → y = (D.s1.crash (D.s0.crash cs).2).1)
theorem CrQ.next {D : Dk} {cs : List Int} {k a a' : Nat} {x y b : List UInt8} (h : CrQ D cs k a x y) (hc : (D.slot k).crash (cs.drop a) = (b, cs.drop a')) : (k = 0 → CrQ D cs (k + 1) a' b y) ∧ (k = 1 → CrQ D cs (k + 1) a' x b) := by
  obtain ⟨h1, h2, h3, h4⟩ := h
  refine ⟨?_, ?_⟩
  · rintro rfl
    have := h1 rfl
    subst this
    have e : D.s0.crash cs = (b, cs.drop a') := hc
    exact ⟨fun h => absurd h (by decide), fun _ => by rw [e], fun _ => by rw [e], fun h => absurd h (by decide)⟩
  · rintro rfl
    rw [h3 rfl] at hc
    have e : D.s1.crash (D.s0.crash cs).2 = (b, cs.drop a') := hc
    exact ⟨fun h => absurd h (by decide), fun _ => h2 (Nat.le_refl _), fun h => absurd h (by decide), fun _ => by rw [e]⟩
theorem LsAt.ok {w : World} {I : Nat → Prop} {av : Value} {al : List DAct} (h : LsAt w I av al) : ∀ (i : Nat) (hi : i < al.length), (al[i]).ok := by
  obtain ⟨vs, h1, h2, h3⟩ := h
  intro i hi
  exact (h3 i (vs[i]'(by omega)) al[i] (List.getElem?_eq_getElem _) (List.getElem?_eq_getElem _)).2
theorem SlZ.range {w : World} {v : Value} {l : List Int} (h : SlZ w v l) (a : Nat) : -9223372036854775808 ≤ l.getD a 0 ∧ l.getD a 0 ≤ 9223372036854775807 := by
  rw [List.getD_eq_getElem?_getD]
  cases e : l[a]? with
  | none => decide
  | some x => exact h.r x (List.mem_of_getElem? e)
theorem SlZ.at_ {w : World} {A : Option Addr} {n c : Nat} {l : List Int} (h : SlZ w (.slice A n c) l) (a : Nat) (ha : a < l.length) : ∃ b o, A = some ⟨b, o, none⟩ ∧ w.cell? ⟨b, o + a, none⟩ = some (.int .i64 (l.getD a 0)) := by
  obtain ⟨⟨A', c', e, h1, h2, h3⟩, hr⟩ := h
  injection e with e1 e2 e3
  subst e1
  obtain ⟨g, o, e4, hc⟩ := h3 (by omega)
  exact ⟨g, o, e4, hc a ha⟩
theorem SlZ.at2 {w : World} {b o n c : Nat} {l : List Int} (h : SlZ w (.slice (some ⟨b, o, none⟩) n c) l) (a : Nat) (ha : a < l.length) : w.cell? ⟨b, o + a, none⟩ = some (.int .i64 (l.getD a 0)) := by
  obtain ⟨b', o', e, hc⟩ := h.at_ a ha
  injection e with e
  injection e with e1 e2
  subst e1 e2
  exact hc
/-- a choice taken: modulo of it -/
theorem taken_mod {w : World} {v : Value} {cs : List Int} (h : SlZ w v cs) (a n : Nat) (x q : Int) (m : Int) (hx : cs.getD a 0 = x) (hm : m = (n : Int)) (hn : 0 < n) (hn2 : n ≤ 1125899906842624) (hq : (pick1 (cs.drop a) n : Int) = q) (W : World) :
    Calls Try.prog 62 #[.int .i64 x, .int .i64 m] W fun e w' => e = .returned (.int .i64 q) ∧ w' = W := by
  subst hx hm hq
  have := h.range a
  rw [pick1_at]
  exact rMod_any _ n this.1 this.2 hn hn2 W
set_option maxRecDepth 100000 in
set_option maxHeartbeats 8000000 in
theorem rCrash_any (w : World) (S : Nat → Prop) (d : Nat) (D : Dk) (v : Value) (cs : List Int) (h : RAt w S d D) (hf : D.fits 0) (hv : SlZ w v cs) (hvS : 0 < cs.length → ∀ k, v.ownBlock = some k → ¬ S k) :
    Calls Try.prog 44 #[.pointer (some ⟨d, 0, none⟩), v] w fun e w' => ∃ fd, e = .returned (.pointer (some ⟨fd, 0, none⟩)) ∧ Fr (fun k => k = d) w w' ∧ RAt w' S d { D with dead := true } ∧ RAt w' (fun k => Nw w w' k) fd (D.crashed cs) := by
  obtain ⟨A, cp, rfl⟩ := hv.form
  obtain ⟨I, l0, l1, a0, a1, hV⟩ := h
  have H0 : Hid (RV (w.setCell ⟨d, 8, none⟩ (.bool true)) S I d l0 l1 a0 a1 { D with dead := true } ∧ Fr (fun k => k = d) w (w.setCell ⟨d, 8, none⟩ (.bool true)) ∧ SlZ (w.setCell ⟨d, 8, none⟩ (.bool true)) (.slice A cs.length cp) cs ∧ (w.setCell ⟨d, 8, none⟩ (.bool true)).heap.size = w.heap.size) := hid ⟨hV.turn 8 _ rfl rfl rfl hV.cur, Fr.set_ _ _, hv.fr (Fr.set_ 8 _) (fun h0 k hk e => hvS h0 k hk (e ▸ hV.sd)), by simp⟩
  obtain ⟨_, _, _, _, c4, _, _, _, c8⟩ := hV.cells
  have f8 := hV.frozen 8
  have HF := hid hf
  have HC := hid hV.cur
  clear hv hvS hV hf
  go_enter Try.func44, Try.ntmps44
  go_upto_region 4 with (fail)
  refine Code.seen (fun W => RV W S I d l0 l1 a0 a1 { D with dead := true } ∧ Fr (fun k => k = d) w W ∧ SlZ W (.slice A cs.length cp) cs ∧ W.heap.size = w.heap.size) H0.out fun w1 H1 => ?_
  clear c4 c8 f8
  obtain ⟨_, _, _, _, c4, _, _, _, _⟩ := H1.out.1.cells
  go_upto_region 5 with (fail)
  refine Code.seen (fun W => RMk w1 W w1.heap.size D.cur (CrQ D cs 0 0)) (RMk.start rfl ⟨fun _ => rfl, fun h => absurd h (by decide), fun h => absurd h (by decide), fun h => absurd h (by decide)⟩) fun w2 H2 => ?_
  clear c4
  go_wp2
  go_loopw [6, 7] (fun t i wr => ∃ k a : Nat, k ≤ 2 ∧ a ≤ 2 * k ∧ t = .int .i64 a ∧ i = .int .i64 k ∧ RMk w1 wr w1.heap.size D.cur (CrQ D cs k a)) (fun _ i _ => 2 - (intOf i).toNat)
  case atStart => exact ⟨0, 0, by decide, by decide, rfl, rfl, H2.out⟩
  case round =>
    clear H2
    obtain ⟨wo, rfl⟩ : ∃ wo : World, wo = wr := ⟨_, rfl⟩
    obtain ⟨k, a, hk, hak, rfl, rfl, hm⟩ := hrel
    have HM := hid hm
    clear hm
    by_cases hlt : k < 2
    · have hbw := HM.out.below
      have hVr := H1.out.1.fr (Fr.of_below hbw) (fun _ _ h => h) (fun _ h => h) (fun k hk => Nat.lt_of_lt_of_le (H1.out.1.lt k hk) hbw.size)
      have hz := H1.out.2.2.1.fr (Fr.of_below hbw) (fun _ _ _ h => h)
      obtain ⟨lv, av, x0, x1, hL, hA⟩ := hVr.slot k hlt
      obtain ⟨s, hs⟩ : ∃ s, D.slot k = s := ⟨_, rfl⟩
      replace hL : SlI wo I lv s.lasts := by rw [← hs]; exact hL
      replace hA : LsAt wo I av s.acts := by rw [← hs]; exact hA
      have hroom : s.room ≤ 70368744177664 ∧ s.acts.length + 1 ≤ 1099511627776 := by
        have h1 := HF.out.room
        have h2 := HF.out.acts
        rw [← hs]
        unfold Dk.slot
        split <;> omega
      obtain ⟨Aa, ca, rfl, hact⟩ := hA.at_
      obtain ⟨Al, cl, rfl⟩ := hL.sl.form
      have HS := hid hs
      have HOK := hid hA.ok
      have HL := hid hL
      have HACT := hid hact
      have HON := hid (on_room s)
      have HZ := hid hz
      have HRO := hid hroom.1
      have hal := hroom.2
      obtain ⟨x, hx⟩ : ∃ x, cs.getD a 0 = x := ⟨_, rfl⟩
      obtain ⟨q, hq⟩ : ∃ q, pick1 (cs.drop a) (s.acts.length + 1) = q := ⟨_, rfl⟩
      have hqL : q ≤ s.acts.length := by have := pick1_lt (cs.drop a) (n := s.acts.length + 1) (by omega); omega
      have HMOD := hid (taken_mod hz a (s.acts.length + 1) x q ((s.acts.length : Int) + 1) hx (by omega) (by omega) (by omega) (by rw [hq]))
      have HQ := hid hq
      have hol := HM.out.lt
      have j0 : (0 : Int) ≤ (k : Int) := by omega
      have j1 : (k : Int) < 2 := by omega
      have j2 : (a : Int) ≤ 2 := by omega
      have j3 : (0 : Int) ≤ (a : Int) := by omega
      rcases Nat.lt_or_ge a cs.length with ha | ha
      case' inl =>
        obtain ⟨zb, zo, rfl, cz⟩ := hz.at_ a ha
        rw [hx] at cz
        have j4 : (a : Int) < (cs.length : Int) := by omega
      case' inr =>
        have hx0 := getD_over cs a (by omega)
        rw [hx] at hx0
        subst hx0
        have j4 : ¬ (a : Int) < (cs.length : Int) := by omega
      all_goals
        clear hx hq hz hbw hVr hL hA hact hs hroom
        go_upto_region 15 with (go_at_call 62; refine (HMOD.out _).mono ?_; rintro e wq ⟨rfl, hwq⟩; have hwq := hwq.symm; subst hwq)
        go_upto_region 17 with (at_builtin; refine wpList_appB rfl (.tmp 49) (.tmp 55) rfl wo.heap.size (.slice none 0 0) _ [] s.lasts rfl rfl (OwnB.nil _ _) HL.out.sl (by have h1 := HRO.out; unfold Dslot.room at h1; simp only [List.length_nil]; omega) (Nat.le_refl _) ?_; intro v1 w2 ho1 hg1; rw [List.nil_append] at ho1; have HB2 := hid (OwnB.grown (Below.refl wo.heap.size wo) (OwnB.nil wo wo.heap.size) (Nat.le_refl _) (Nat.le_refl _) hg1); have HO := hid ho1; clear ho1 hg1)
        clear x0 x1
        go_wp2
        go_loopw [11, 12] (fun v x wr => ∃ i : Nat, i ≤ q ∧ x = .int .i64 i ∧ OwnB wr wo.heap.size v (doAll (s.acts.take i) s.lasts) ∧ Below wo.heap.size wo wr) (fun _ x _ => q - (intOf x).toNat)
        case atStart => exact ⟨0, Nat.zero_le _, rfl, HO.out, HB2.out⟩
        case round =>
          clear HO HB2
          obtain ⟨i, hi, rfl, ho, hb⟩ := hrel
          have HO := hid ho
          have HB := hid hb
          by_cases hiq : i < q
          · have hiL : i < s.acts.length := by omega
            obtain ⟨b, v, rfl, y0, y1, hd⟩ := HACT.out i hiL
            have y0 : wr.cell? ⟨b, i * 2, none⟩ = some (.bool (isW s.acts[i])) := (hb.cell (World.block_lt_of_cell? wo _ y0)).trans y0
            have y1 : wr.cell? ⟨b, i * 2 + 1, none⟩ = some v := (hb.cell (World.block_lt_of_cell? wo _ y1)).trans y1
            have HD := hid (hd.sl.below hb)
            have i0 : (0 : Int) ≤ (i : Int) := by omega
            have i1 : (i : Int) < (q : Int) := by omega
            have i2 : (i : Int) < (s.acts.length : Int) := by omega
            have HC := hid (laid_any _ v _ s.acts[i] wr HO.out.sl HD.out (by have h1 := HON.out i hiL; have h2 := HRO.out; omega))
            clear ho hb hd
            go_wp2_with fail
            refine HC.out.mono ?_
            rintro e w3 ⟨v3, rfl, ho3, hb3⟩
            have HO3 := hid ho3
            have HB3 := hid hb3
            clear ho3 hb3 y0 y1 HC
            go_wp2
            go_roundw
            case rel => exact ⟨i + 1, by omega, by go_num, by rw [doAll_take _ _ hiL]; exact own_base HO3.out HB.out.size, HB.out.trans (HB3.out.mono HB.out.size)⟩
            case measure => simp [intOf]; omega
          · have HI : Hid (OwnB wr wo.heap.size _ (doAll (s.acts.take q) s.lasts)) := hid (by have := HO.out; rwa [show i = q by omega] at this)
            obtain ⟨Ab, cb, rfl⟩ := HI.out.form
            clear ho HO
            have hsz := hb.size
            obtain ⟨u0, z0⟩ := HM.out.has k hlt
            have hz0 := hid z0
            have he0 := hid (HM.out.cell k)
            replace z0 : wr.cell? ⟨w1.heap.size, k, none⟩ = some u0 := (hb.cell (p := ⟨w1.heap.size, k, none⟩) hol).trans z0
            have e0 : wr.frozen? ⟨w1.heap.size, k, none⟩ = false := (hb.frozen (p := ⟨w1.heap.size, k, none⟩) hol).trans (HM.out.cell k)
            have i0 : (0 : Int) ≤ (q : Int) := by omega
            by_cases hqlt : q < s.acts.length
            · have i2 : (q : Int) < (s.acts.length : Int) := by omega
              obtain ⟨b, v, rfl, y0, y1, hd⟩ := HACT.out q hqlt
              have y0 : wr.cell? ⟨b, q * 2, none⟩ = some (.bool (isW s.acts[q])) := (hb.cell (World.block_lt_of_cell? wo _ y0)).trans y0
              have y1 : wr.cell? ⟨b, q * 2 + 1, none⟩ = some v := (hb.cell (World.block_lt_of_cell? wo _ y1)).trans y1
              have HD := hid (hd.sl.below hb)
              have HOKq := hid (HOK.out q hqlt)
              have HONq := hid (HON.out q hqlt)
              have hget := List.getElem?_eq_getElem hqlt
              obtain ⟨ac, hac⟩ : ∃ ac, s.acts[q] = ac := ⟨_, rfl⟩
              rw [hac] at y0 HD HOKq HONq hget
              have HGET := hid hget
              clear hd hac hget
              cases ac with
              | wipe =>
                have R := hid (HM.out.step hlt HB.out (own_base HI.out (by omega)) (fun x y hq => hq.next (by rw [HS.out]; exact crash_none s cs a q HQ.out (by rw [HGET.out]; intro d h; cases h))))
                clear hb
                unfold isW at y0
                go_wp2
                go_roundw
                case rel => exact ⟨k + 1, a + 1, by omega, by omega, by go_num, by go_num, R.out⟩
                case measure => simp [intOf]; omega
              | app dd =>
                unfold isW at y0
                have hdl : 0 < dd.length := HOKq.out
                have HDD : Hid (SlB wr v dd) := hid HD.out
                have hroom2 : (doAll (s.acts.take q) s.lasts).length + dd.length ≤ 70368744177664 := by have h1 := HONq.out; have h2 := HRO.out; unfold DAct.size at h1; simp only at h1; omega
                have HR2 := hid hroom2
                have hdl2 : dd.length ≤ 70368744177664 := by omega
                obtain ⟨Ad, cd, rfl⟩ := HDD.out.form
                have hz2 := HZ.out.fr (Fr.of_below hb) (fun _ _ _ h => h)
                obtain ⟨x2, hx2⟩ : ∃ x, cs.getD (a + 1) 0 = x := ⟨_, rfl⟩
                obtain ⟨p, hp⟩ : ∃ p, pick1 (cs.drop (a + 1)) dd.length = p := ⟨_, rfl⟩
                have hpl : p < dd.length := by have := pick1_lt (cs.drop (a + 1)) (n := dd.length) hdl; omega
                have HMOD2 := hid (taken_mod hz2 (a + 1) dd.length x2 p (dd.length : Int) hx2 rfl hdl (by omega) (by rw [hp]))
                have hdc : dd.length ≤ cd := by obtain ⟨A', c', e, h1, _⟩ := HDD.out; injection e with _ _ e3; omega
                have hpc : (p : Int) ≤ (cd : Int) := by omega
                have hpc2 : p ≤ cd := by omega
                have HDW := hid ((HDD.out.take_ p (by omega) (by omega)).below (drew_below wr))
                have HP := hid hp
                have HOD := hid (HI.out.drew)
                have HBD := hid (below_then HB.out (drew_below wr))
                have j5 : (a : Int) + 1 ≤ 3 := by omega
                obtain ⟨res, hres⟩ : ∃ res, doAll (s.acts.take q) s.lasts ++ dd.take p = res := ⟨_, rfl⟩
                have HRES := hid hres
                have HCS := hid (fun x y (hq : CrQ D cs k a x y) => hq.next (b := res) (a' := a + 1 + 1) (by rw [HS.out, crash_some s cs a q dd HQ.out HGET.out, HP.out, HRES.out]))
                clear hroom2 hp hb hdc hres
                rcases (Nat.lt_or_ge (a + 1) cs.length).symm with ha2 | ha2
                · have hx0 := getD_over cs (a + 1) (by omega)
                  rw [hx2] at hx0
                  subst hx0
                  have j6 : ¬ (a : Int) + 1 < (cs.length : Int) := by omega
                  clear hx2 hz2
                  go_upto_region 26 with (fail)
                  go_still_tail 15, (by kernel_rfl)
                  still_call (HMOD2.out _)
                  repeat still_step
                  refine wpStill_nil ?_
                  change wpList _ _ _ _ _ wr.drew
                  generalize wr.drew = w5 at *
                  go_wp2_with (at_builtin; refine wpList_appB rfl (.tmp 90) (.tmp 104) rfl wo.heap.size _ _ (doAll (s.acts.take q) s.lasts) (dd.take p) rfl rfl HOD.out HDW.out (by have h1 := HR2.out; rw [List.length_take]; omega) HBD.out.size ?_; intro v4 w4 ho4 hg4; rw [HRES.out] at ho4; have HB4 := hid (OwnB.grown HBD.out HOD.out (Nat.le_refl _) HBD.out.size hg4); obtain ⟨A4, c4, rfl⟩ := ho4.form; have HO4 := hid ho4; have z0 : w4.cell? ⟨w1.heap.size, k, none⟩ = some u0 := (HB4.out.cell (p := ⟨w1.heap.size, k, none⟩) hol).trans hz0.out; have e0 : w4.frozen? ⟨w1.heap.size, k, none⟩ = false := (HB4.out.frozen (p := ⟨w1.heap.size, k, none⟩) hol).trans he0.out; clear ho4 hg4)
                  have R := hid (HM.out.step hlt HB4.out (own_base HO4.out (by omega)) HCS.out)
                  go_wp2
                  go_roundw
                  case rel => exact ⟨k + 1, a + 1 + 1, by omega, by omega, by go_num, by go_num, R.out⟩
                  case measure => simp [intOf]; omega
                all_goals first | (exfalso; omega) | skip
                all_goals
                  have cz2 := SlZ.at2 hz2 (a + 1) ha2
                  rw [hx2] at cz2
                  have j6 : (a : Int) + 1 < (cs.length : Int) := by omega
                  clear hx2 hz2
                  go_upto_region 26 with (fail)
                  go_still_tail 15, (by kernel_rfl)
                  still_call (HMOD2.out _)
                  repeat still_step
                  refine wpStill_nil ?_
                  change wpList _ _ _ _ _ wr.drew
                  generalize wr.drew = w5 at *
                  go_wp2_with (at_builtin; refine wpList_appB rfl (.tmp 90) (.tmp 104) rfl wo.heap.size _ _ (doAll (s.acts.take q) s.lasts) (dd.take p) rfl rfl HOD.out HDW.out (by have h1 := HR2.out; rw [List.length_take]; omega) HBD.out.size ?_; intro v4 w4 ho4 hg4; rw [HRES.out] at ho4; have HB4 := hid (OwnB.grown HBD.out HOD.out (Nat.le_refl _) HBD.out.size hg4); obtain ⟨A4, c4, rfl⟩ := ho4.form; have HO4 := hid ho4; have z0 : w4.cell? ⟨w1.heap.size, k, none⟩ = some u0 := (HB4.out.cell (p := ⟨w1.heap.size, k, none⟩) hol).trans hz0.out; have e0 : w4.frozen? ⟨w1.heap.size, k, none⟩ = false := (HB4.out.frozen (p := ⟨w1.heap.size, k, none⟩) hol).trans he0.out; clear ho4 hg4)
                  have R := hid (HM.out.step hlt HB4.out (own_base HO4.out (by omega)) HCS.out)
                  go_wp2
                  go_roundw
                  case rel => exact ⟨k + 1, a + 1 + 1, by omega, by omega, by go_num, by go_num, R.out⟩
                  case measure => simp [intOf]; omega
            · have i2 : (s.acts.length : Int) ≤ (q : Int) := by omega
              have R := hid (HM.out.step hlt HB.out (own_base HI.out (by omega)) (fun x y hq => hq.next (by rw [HS.out]; exact crash_none s cs a q HQ.out (by rw [List.getElem?_eq_none (by omega)]; intro d h; cases h))))
              clear hb
              go_wp2
              go_roundw
              case rel => exact ⟨k + 1, a + 1, by omega, by omega, by go_num, by go_num, R.out⟩
              case measure => simp [intOf]; omega
    · have HM2 : Hid (RMk w1 wo w1.heap.size D.cur (CrQ D cs 2 a)) := hid (by have := HM.out; rwa [show k = 2 by omega] at this)
      have R := hid (HM2.out.done (E := D.crashed cs) rfl HC.out (fun x y h => by unfold Dk.crashed; rw [h.2.1 (by decide), h.2.2.2 (by decide)]))
      clear HM2 HM
      go_wp2
      go_ret
      refine ⟨_, rfl, H1.out.2.1.trans ((Fr.of_below R.out.1).mono fun _ _ h => h.elim), ⟨I, l0, l1, a0, a1, H1.out.1.fr (Fr.of_below R.out.1) (fun _ _ h => h) (fun _ h => h) (fun k hk => Nat.lt_of_lt_of_le (H1.out.1.lt k hk) R.out.1.size)⟩, R.out.2.wide fun k hk => ⟨by have := H1.out.2.2.2; have := hk.1; omega, hk.2⟩⟩
end Go.Proofs.Ytcadacljacbipaa
