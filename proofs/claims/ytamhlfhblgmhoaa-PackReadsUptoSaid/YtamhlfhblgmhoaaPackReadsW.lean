/- The walk of the law PackReads. -/
import Derived.Test.YtamhlfhblgmhoaaPackReadsP
import Derived.Test.YtamhlfhblgmhoaaPackWritesW
namespace Go.Proofs.Ytamhlfhblgmhoaa
open Go.RowKit
theorem take_op (K : Nat → Prop) (w0 W : World) (gr gq gb n : Nat) (e : Int) (d : List UInt8) (k : Nat) (o : POp) (ov : Value) (hd : d.length ≤ 1048576) (hn : n ≤ 1048576) (h : RS K w0 W gr gq gb n e d k) :
    Calls Try.prog 27 #[.pointer (some ⟨gr, 0, none⟩), .pointer (some ⟨gq, 0, none⟩), .agg #[.int .i64 o.kind, .int .i64 o.n, B o.b, ov, .string o.s], .pointer (some ⟨gb, 0, none⟩)] W (TPost K w0 gr gq gb n d) := by
  obtain ⟨kd, m, b, ol, s⟩ := o
  simp only at *
  by_cases q1 : kd = 1
  · subst q1; exact take_uint K w0 W gr gq gb n e d k m b ol s ov h
  by_cases q2 : kd = 2
  · subst q2; exact take_byte K w0 W gr gq gb n e d k m b ol s ov h
  by_cases q3 : kd = 3
  · subst q3; exact take_bool K w0 W gr gq gb n e d k m b ol s ov h
  by_cases q4 : kd = 4
  · subst q4; exact take_bytes K w0 W gr gq gb n e d k m b ol s ov hd hn h
  by_cases q5 : kd = 5
  · subst q5; exact take_text K w0 W gr gq gb n e d k m b ol s ov h
  by_cases q6 : kd = 6
  · subst q6; exact take_end K w0 W gr gq gb n e d k m b ol s ov h
  exact take_none K w0 W gr gq gb n e d k m b ol s ov kd (by rw [beq_eq_false_iff_ne]; exact q1) (by rw [beq_eq_false_iff_ne]; exact q2) (by rw [beq_eq_false_iff_ne]; exact q3) (by rw [beq_eq_false_iff_ne]; exact q4) (by rw [beq_eq_false_iff_ne]; exact q5) (by rw [beq_eq_false_iff_ne]; exact q6) h
theorem RS.init (W : World) (s0 s1 s2 s3 gr gq g1 : Nat) (d : List UInt8) (ur uq : Value) (hr : RAt W gr 0 ur d 0) (hq : QAt W gq 0 uq d 0) (h1 : s0 ≤ g1 ∧ g1 < s1) (h2 : s1 ≤ gr ∧ gr < s2) (h2u : ∀ b, ur.ownBlock = some b → s1 ≤ b ∧ b < s2) (h3 : s2 ≤ gq ∧ gq < s3) (h3u : ∀ b, uq.ownBlock = some b → s2 ≤ b ∧ b < s3) (h4 : s3 ≤ W.heap.size) :
    RS (fun k => k < s0 ∨ k = g1) (W.alloc (.cells #[.slice none 0 0, .slice none 0 0] 38)) (W.alloc (.cells #[.slice none 0 0, .slice none 0 0] 38)) gr gq W.heap.size 0 0 d 0 := by
  have b3 : Below W.heap.size W (W.alloc (.cells #[.slice none 0 0, .slice none 0 0] 38)) := (Below.refl _ _).alloc (Nat.le_refl _) _
  have s3' : (W.alloc (.cells #[.slice none 0 0, .slice none 0 0] 38)).heap.size = W.heap.size + 1 := by simp
  classical
  refine ⟨fun k => if k < s0 ∨ k = g1 then 9 else if k = gr then 4 else if ur.ownBlock = some k then 5 else if k = gq then 6 else if uq.ownBlock = some k then 7 else if k = W.heap.size then 1 else 8, .slice none 0 0, .slice none 0 0, [], [], ⟨⟨heap_alloc_new _ _, World.ownsRow_nil _ _ _ _, World.ownsRow_nil _ _ _ _, rfl, fun i u hu => by simp at hu, fun i u hu => by simp at hu, ?_, fun k hk => by simp [Value.ownBlock] at hk, fun k hk => by simp [Value.ownBlock] at hk⟩, ⟨_, hr.below b3, ?_, fun k hk => ?_⟩, ⟨_, hq.below b3, ?_, fun k hk => ?_⟩, Fr.refl _ _, fun k hk => ⟨if_pos hk, by omega⟩, fun k hk => ?_⟩, rfl⟩
  · rw [if_neg (by omega), if_neg (by omega), if_neg (fun e => by have := h2u _ e; omega), if_neg (by omega), if_neg (fun e => by have := h3u _ e; omega), if_pos rfl]
  · dsimp only; rw [if_neg (by omega), if_pos rfl]
  · have := h2u k hk
    dsimp only; rw [if_neg (by omega), if_neg (fun e => by subst e; exact hr.ne hk), if_pos hk]
  · dsimp only; rw [if_neg (by omega), if_neg (by omega), if_neg (fun e => by have := h2u _ e; omega), if_pos rfl]
  · have := h3u k hk
    dsimp only; rw [if_neg (by omega), if_neg (by omega), if_neg (fun e => by have := h2u _ e; omega), if_neg (fun e => by subst e; exact hq.ne hk), if_pos hk]
  · rw [s3'] at hk
    rw [if_neg (by omega), if_neg (by omega), if_neg (fun e => by have := h2u _ e; omega), if_neg (by omega), if_neg (fun e => by have := h3u _ e; omega), if_neg (by omega)]
set_option maxRecDepth 100000 in
set_option maxHeartbeats 8000000 in
theorem PackReads_walk (dv sv : Value) (D : List UInt8) (ops : List POp) (w : World) (hD : SlB w dv D) (hDl : D.length ≤ 1048576) (hS : SlR POp.R 5 w sv ops) (hlen : ops.length ≤ 1048574) :
    Calls Try.prog 6 #[dv, sv] w fun e w' => e = .returned (.bool true) ∧ Below w.heap.size w w' := by
  have HS := hid hS
  have HD := hid hD
  obtain ⟨A, c, rfl, hlc⟩ : ∃ A c, sv = .slice A ops.length c ∧ ops.length ≤ c := by obtain ⟨A, c, _, e, h, _⟩ := hS; exact ⟨A, c, e, h⟩
  obtain ⟨Ad, cd, rfl⟩ := hD.form
  clear hS hD
  have HSZ := hid op_size
  go_enter Try.func6, Try.ntmps6
  go_wp2_with fail
  refine (lent_any _ D w HD.out (by omega)).mono ?_
  rintro r w1 ⟨g1, c1, rfl, ho1, hc1, hb1⟩
  have HO1 := hid ho1
  have HB1 := hid hb1
  have hg1 := World.ownsRow.lt ho1 g1 rfl
  have HG1 := hid hg1
  have HU1 : Hid (OwnB w1 0 (.slice (some ⟨g1, 0, none⟩) D.length c1) D) := hid (by
    have h := OwnB.prefix_ (own_base ho1 (Nat.zero_le _)) D.length (by simp)
    rwa [List.take_left] at h)
  have i1 : D.length ≤ c1 := by omega
  clear ho1 hc1 hb1 hg1
  go_wp2_with fail
  refine (NewReader_any _ D w1 HU1.out.sl (by omega)).mono ?_
  rintro r w2 ⟨gr, ur, rfl, hr, hr1, hr2, hb2, hr3⟩
  have HR := hid hr
  have HRU := hid hr2
  have HRG := hid (And.intro hr1 hr3)
  have HB2 := hid hb2
  clear hr hr1 hr2 hb2 hr3
  go_wp2_with fail
  refine (QNew_any _ D w2 ((HD.out.below HB1.out).below (HB2.out)) (by omega)).mono ?_
  rintro r w3 ⟨gq, uq, rfl, hr, hr1, hr2, hb3, hr3⟩
  have HQ := hid hr
  have HQU := hid hr2
  have HQG := hid (And.intro hr1 hr3)
  have HB3 := hid hb3
  clear hr hr1 hr2 hb3 hr3
  go_wp2_with fail
  refine (lent_any _ D w3 (((HD.out.below HB1.out).below HB2.out).below HB3.out) (by omega)).mono ?_
  rintro r w4 ⟨g4, c4, rfl, ho4, hc4, hb4⟩
  have HO4 := hid ho4
  have HB4 := hid hb4
  have HB14 := hid (below_then HB2.out (below_then HB3.out hb4))
  have HO14 := hid (OwnB.below HO1.out HB14.out)
  have HU4 := hid (OwnB.below HU1.out HB14.out)
  clear ho4 hb4 hc4
  go_wp2_with fail
  refine (same_any _ _ _ _ w4 HO14.out.sl HO4.out.sl).mono ?_
  rintro r w' ⟨rfl, hw⟩
  replace hw := hw.symm
  subst hw
  simp only [decide_true]
  have hp := RS.init w4 w.heap.size w1.heap.size w2.heap.size w3.heap.size gr gq g1 D ur uq (HR.out.below (below_then HB3.out HB4.out)) (HQ.out.below HB4.out) HG1.out HRG.out (fun b hb => ⟨HRU.out b hb, HR.out.lt b hb⟩) HQG.out (fun b hb => ⟨HQU.out b hb, HQ.out.lt b hb⟩) HB4.out.size
  have HP := hid hp
  have hz : w.heap.size ≤ w4.heap.size := Nat.le_trans HB1.out.size HB14.out.size
  have HZ := hid hz
  have HB5 : Hid (Below w.heap.size w (w4.alloc (.cells #[.slice none 0 0, .slice none 0 0] 38))) := hid (below_then (below_then HB1.out HB14.out) ((Below.refl _ _).alloc (Nat.le_refl _) _))
  have HU5 := hid (OwnB.below HU4.out ((Below.refl w4.heap.size w4).alloc (Nat.le_refl _) (.cells #[.slice none 0 0, .slice none 0 0] 38)))
  clear hp hz
  go_wp2_with fail
  refine (PWs.hold HP.out (AR.stab _ _ _ _) (AQ.stab _ _ _ _) (.slice (some ⟨g1, 0, none⟩) D.length c1) D HU5.out (fun k hk => .inr (by injection hk with hk; exact hk.symm)) (by omega) (by omega)).mono ?_
  rintro r w6 ⟨rfl, h6⟩
  obtain ⟨gb, hgb⟩ : ∃ x, x = w4.heap.size := ⟨_, rfl⟩
  have HS6 : Hid (RS (fun k => k < w.heap.size) w w6 gr gq gb 1 0 D 0) := hid (by
    rw [hgb]
    refine PWs.drop h6 (fun k hk => ⟨.inl hk, fun e => ?_⟩) (fun k hk => hk) ⟨HB5.out.os, HB5.out.tape, HB5.out.output, HB5.out.size, fun k hk _ => HB5.out.block k hk⟩
    injection e with e
    have h1 := HG1.out.1
    have e2 : g1 = k := e
    omega)
  simp only [← hgb]
  clear hgb h6 HP HB5 HU5
  go_wp2
  go_loopw [9] (fun i wr => ∃ (j n : Nat) (e : Int) (k : Nat), j ≤ ops.length ∧ i = .int .i64 j ∧ RS (fun k => k < w.heap.size) w wr gr gq gb n e D k ∧ n ≤ j + 1) (fun i _ => ops.length - (intOf i).toNat)
  case atStart => exact ⟨0, 1, 0, 0, Nat.zero_le _, rfl, HS6.out, by omega⟩
  case round =>
    clear HS6
    obtain ⟨j, n, e, k, hj, rfl, hp, hn⟩ := hrel
    have HP := hid hp
    clear hp
    by_cases hlt : j < ops.length
    · obtain ⟨o, ho⟩ : ∃ o, ops[j]? = some o := ⟨_, List.getElem?_eq_getElem hlt⟩
      obtain ⟨b, off, rfl⟩ : ∃ b off, A = some ⟨b, off, none⟩ := by
        obtain ⟨A', c', ys, e1, _, _, _, h4⟩ := HS.out
        injection e1 with e1
        obtain ⟨b, off, eA, _⟩ := h4 (by omega)
        exact ⟨b, off, e1.trans eA⟩
      obtain ⟨ov, hr, hov⟩ := op_at HS.out j o ho
      have HB : Hid (Below w.heap.size w wr) := hid (HP.out.fr.to_below (fun k hk hh => hh hk) (Nat.le_refl _))
      have HRW := hid (cells_at hr)
      have x0 := (HRW.out wr HB.out).1
      have x1 := (HRW.out wr HB.out).2.1
      have x2 := (HRW.out wr HB.out).2.2.1
      have x3 := (HRW.out wr HB.out).2.2.2.1
      have x4 := (HRW.out wr HB.out).2.2.2.2
      clear hov ho hr
      go_wp2_with (fail)
      refine (take_op _ w wr gr gq gb n e D k o ov hDl (by omega) HP.out).mono ?_
      rintro r w7 ⟨rfl, e', k', n', hp', hn'⟩
      have HP3 := hid hp'
      clear hp' x0 x1 x2 x3 x4
      go_wp2_with (fail)
      refine (PWs.kept HP3.out (by omega)).mono ?_
      rintro r w' ⟨rfl, hw⟩
      replace hw := hw.symm
      subst hw
      go_wp2
      go_roundw
      case rel => exact ⟨j + 1, n', e', k', by omega, by go_num, HP3.out, by omega⟩
      case measure => simp [intOf]; omega
    · have hge := hlt
      go_wp2_with (fail)
      refine (silent_any wr).mono ?_
      rintro r w7 ⟨rfl, hb⟩
      have HB7 : Hid (Below w.heap.size w w7) := hid (below_then (HP.out.fr.to_below (fun k hk hh => hh hk) (Nat.le_refl _)) hb)
      clear hb
      go_wp2
      go_ret
      exact ⟨rfl, HB7.out⟩
end Go.Proofs.Ytamhlfhblgmhoaa
