/- The walk of one put of the law PackWrites: bytes, and the end. -/
import Derived.Test.YtamhlfhblgmhoaaPackWritesP
namespace Go.Proofs.Ytamhlfhblgmhoaa
open Go.RowKit
set_option maxRecDepth 100000 in
set_option maxHeartbeats 8000000 in
theorem put_bytes (K : Nat → Prop) (w0 W : World) (gw gv gb n : Nat) (e : Int) (l : List UInt8) (k : Int) (b : UInt8) (ol : List UInt8) (s : ByteArray) (ov : Value) (ho : SlB w0 ov ol) (hok : 0 < ol.length → ∀ k, ov.ownBlock = some k → K k) (hol : ol.length ≤ 1048576) (hn : n ≤ 1048576) (hl : l.length ≤ 500000000) (h : PS K w0 W gw gv gb n e l) :
    Calls Try.prog 13 #[.pointer (some ⟨gw, 0, none⟩), .pointer (some ⟨gv, 0, none⟩), .agg #[.int .i64 4, .int .i64 k, B b, ov, .string s], .pointer (some ⟨gb, 0, none⟩)] W (PPost K w0 gw gv gb n l ⟨4, k, b, ol, s⟩) := by
  have HO := hid ho
  have HK := hid hok
  obtain ⟨Ao, co, rfl⟩ := ho.form
  clear ho hok
  have HS0 := hid h
  clear h
  go_enter Try.func13, Try.ntmps13
  go_wp2_with fail
  refine Calls.seen (fun W1 => Front K w0 W1 W.heap.size gw gv gb n e l (⟨4, k, b, ol, s⟩ : POp) (.slice Ao ol.length co)) (Front.mk' HS0.out (⟨4, k, b, ol, s⟩ : POp) (.slice Ao ol.length co)) fun w1 h1 => ?_
  clear HS0
  obtain ⟨gx, hgx⟩ : ∃ gx, gx = W.heap.size := ⟨_, rfl⟩
  simp only [← hgx] at h1 ⊢
  clear hgx
  have HF := hid h1
  have HS1 := hid h1.s
  clear h1
  have HO1 := hid (sl_fr0 HO.out HF.out.fr (fun h0 k hk hh => hh (HK.out h0 k hk)))
  refine (lent_any _ ol w1 HO1.out (by omega)).mono ?_
  rintro r w2 ⟨g1, c1, rfl, ho2, hc2, hb2⟩
  have HO2 := hid ho2
  have HB2 := hid hb2
  have hg1 := World.ownsRow.lt ho2 g1 rfl
  have HG1 := hid hg1
  have h2 := HS1.out.take (AW.stab _ _ _) (AV.stab _ _ _) hb2 (fun k => k = g1) (fun k hk => by subst hk; exact hg1)
  have HS2 := hid h2
  have HU2 : Hid (OwnB w2 0 (.slice (some ⟨g1, 0, none⟩) ol.length c1) ol) := hid (by
    have h := OwnB.prefix_ (own_base ho2 (Nat.zero_le _)) ol.length (by simp)
    rwa [List.take_left] at h)
  have HF2 : Hid (Fr (fun k => ¬ K k) w0 w2) := hid (HF.out.fr.trans ((Fr.of_below hb2).mono fun _ _ h => h.elim))
  have HOV2 := hid (sl_fr0 HO.out HF2.out (fun h0 k hk hh => hh (HK.out h0 k hk)))
  have HOK2 : Hid (0 < ol.length → ∀ k, (Value.slice Ao ol.length co).ownBlock = some k → (K k ∨ k = gx) ∨ k = g1) := hid fun h0 k hk => .inl (.inl (HK.out h0 k hk))
  obtain ⟨x1, x2, x3, x4⟩ := HF.out.cells (K1 := fun k => K k ∨ k = gx) (W := w2) ((Fr.of_below hb2).mono fun _ _ h => h.elim) (.inr rfl)
  have i1 : ol.length ≤ c1 := by omega
  have HBX : Hid (w2.heap[gx]? = some (.cells #[.int .i64 4, .int .i64 k, B b, .slice Ao ol.length co, .string s] 41 (0, 0))) := hid (blk_fr (Fr.of_below hb2) HF.out.box (fun h => h))
  have HLT := hid HF.out.lt
  clear ho2 hc2 hb2 h2 HO1 HS1 hg1
  go_wp2_with fail
  refine (PWs.wcall HS2.out (AV.stab _ _ _) (fun v hv hub => wBytes_any gw e v (.slice (some ⟨g1, 0, none⟩) ol.length c1) l ol w2 hv HU2.out.sl (fun b hb => by injection hb with hb; subst hb; exact hub g1 (.inr rfl)) (by omega))).mono ?_
  rintro r w3 ⟨rfl, h3⟩
  have HS3 := hid h3
  have HBX3 := hid (blk_fr h3.fr HBX.out (fun hh => hh (.inl (.inr rfl))))
  have y3 : w3.cell? ⟨gx, 3, none⟩ = some (.slice Ao ol.length co) := by rw [blk_cell HBX3.out]; rfl
  have HOV3 := hid (sl_fr0 HOV2.out h3.fr (fun h0 k hk hh => hh (HOK2.out h0 k hk)))
  clear h3 x1 x2 x3 x4
  go_wp2_with fail
  refine (PWs.vcall HS3.out (AW.stab _ _ _) (fun v hv hub => vwBytes_any gv e v _ l ol w3 hv HOV3.out (fun h0 b hb => hub b (HOK2.out h0 b hb)) (by omega))).mono ?_
  rintro r w4 ⟨rfl, h4⟩
  have HS4 := hid h4
  have HBX4 := hid (blk_fr h4.fr HBX.out (fun hh => hh (.inl (.inr rfl))))
  have z3 : w4.cell? ⟨gx, 3, none⟩ = some (.slice Ao ol.length co) := by rw [blk_cell HBX4.out]; rfl
  have HOV4 := hid (sl_fr0 HOV2.out h4.fr (fun h0 k hk hh => hh (HOK2.out h0 k hk)))
  have HO4 := hid (own_fr HO2.out h4.fr (fun k hk hh => hh (.inr (by injection hk with hk; exact hk.symm))))
  have HU4 := hid (own_fr HU2.out h4.fr (fun k hk hh => hh (.inr (by injection hk with hk; exact hk.symm))))
  clear h4 y3 HS3 HOV3 HBX3
  go_wp2_with fail
  refine (lent_any _ ol w4 HOV4.out (by omega)).mono ?_
  rintro r w5 ⟨g5, c5, rfl, ho5, hc5, hb5⟩
  have HO5 := hid ho5
  have HS5 := hid (HS4.out.below (AW.stab _ _ _) (AV.stab _ _ _) hb5)
  have HO45 : Hid (SlB w5 (.slice (some ⟨g1, 0, none⟩) (ol.length + 1) c1) (ol ++ [77])) := hid (OwnB.sl (OwnB.below HO4.out hb5))
  have HU5 := hid (OwnB.below HU4.out hb5)
  have HBX5 := hid (blk_fr (Fr.of_below hb5) HBX4.out (fun h => h))
  have z5 : w5.cell? ⟨gx, 3, none⟩ = some (.slice Ao ol.length co) := by rw [blk_cell HBX5.out]; rfl
  clear ho5 hc5 hb5 z3 HS4 HOV4 HBX4 HO4 HU4
  go_wp2_with fail
  refine (same_any _ _ _ _ w5 HO45.out HO5.out.sl).mono ?_
  rintro r w' ⟨rfl, hw⟩
  replace hw := hw.symm
  subst hw
  simp only [decide_true]
  go_wp2_with fail
  refine (PWs.hold HS5.out (AW.stab _ _ _) (AV.stab _ _ _) (.slice (some ⟨g1, 0, none⟩) ol.length c1) ol HU5.out (fun k hk => .inr (by injection hk with hk; exact hk.symm)) hn (by omega)).mono ?_
  rintro r w6 ⟨rfl, h6⟩
  have HS6 := hid h6
  clear h6 HS5 z5
  go_wp2_with fail
  refine (PWs.wErr HS6.out).mono ?_
  rintro r w9 ⟨rfl, rfl⟩
  go_wp2_with fail
  refine (PWs.vErr HS6.out).mono ?_
  rintro r w9 ⟨rfl, rfl⟩
  go_wp2
  go_ret
  have h9 := Pk.form_nine ol.length (by omega)
  have hw := wput_len e l (Pk.form ol.length)
  have hw2 := wput_len e (wput e l (Pk.form ol.length)) ol
  have hz := HF2.out.size
  refine ⟨rfl, _, _, _, PWs.drop HS6.out (fun k hk => ⟨.inl (.inl hk), fun e => ?_⟩) HLT.out HF2.out, by unfold POp.m; simp only; omega, by omega⟩
  injection e with e
  have h1 := HLT.out k hk
  have h2 := HG1.out.1
  have h3 := HF.out.fr.size
  have e2 : g1 = k := e
  omega
set_option maxRecDepth 100000 in
set_option maxHeartbeats 8000000 in
theorem put_end (K : Nat → Prop) (w0 W : World) (gw gv gb n : Nat) (e : Int) (l : List UInt8) (k : Int) (b : UInt8) (ol : List UInt8) (s : ByteArray) (ov : Value) (hn : n + 1 ≤ 1048576) (hl : l.length ≤ 500000000) (h : PS K w0 W gw gv gb n e l) :
    Calls Try.prog 13 #[.pointer (some ⟨gw, 0, none⟩), .pointer (some ⟨gv, 0, none⟩), .agg #[.int .i64 6, .int .i64 k, B b, ov, .string s], .pointer (some ⟨gb, 0, none⟩)] W (PPost K w0 gw gv gb n l ⟨6, k, b, ol, s⟩) := by
  have hd : (dataOf e l).length ≤ 500000000 := by unfold dataOf; split; omega; simp
  have HS0 := hid h
  clear h
  go_enter Try.func13, Try.ntmps13
  go_wp2_with fail
  refine Calls.seen (fun W1 => Front K w0 W1 W.heap.size gw gv gb n e l (⟨6, k, b, ol, s⟩ : POp) ov) (Front.mk' HS0.out (⟨6, k, b, ol, s⟩ : POp) ov) fun w1 h1 => ?_
  clear HS0
  obtain ⟨gx, hgx⟩ : ∃ gx, gx = W.heap.size := ⟨_, rfl⟩
  simp only [← hgx] at h1 ⊢
  clear hgx
  have HF := hid h1
  have HS1 := hid h1.s
  clear h1
  obtain ⟨D, hD⟩ : ∃ D, dataOf e l = D := ⟨_, rfl⟩
  have HD := hid hD
  rw [hD] at hd
  clear hD
  have C1 := PWs.wData HS1.out (by omega)
  rw [HD.out] at C1
  refine C1.mono ?_
  clear C1
  rintro r w2 ⟨A2, c2, rfl, ho2, hb2⟩
  have HO2 := hid ho2
  have hg2 := fun k hk => World.ownsRow.lt ho2 k hk
  have HS2 := hid (HS1.out.take (AW.stab _ _ _) (AV.stab _ _ _) hb2 (fun k => (Value.slice A2 D.length c2).ownBlock = some k) hg2)
  have HF2 : Hid (Fr (fun k => ¬ K k) w0 w2) := hid (HF.out.fr.trans ((Fr.of_below hb2).mono fun _ _ h => h.elim))
  have HG2 := hid hg2
  clear ho2 hb2 hg2 HS1
  go_wp2_with fail
  have C1 := PWs.wData HS2.out (by omega)
  rw [HD.out] at C1
  refine C1.mono ?_
  clear C1
  rintro r w3 ⟨A3, c3, rfl, ho3, hb3⟩
  have HO23 := hid (OwnB.below HO2.out hb3)
  have HO3 := hid ho3
  have hg3 := fun k hk => World.ownsRow.lt ho3 k hk
  have HS3 := hid (HS2.out.take (AW.stab _ _ _) (AV.stab _ _ _) hb3 (fun k => (Value.slice A3 D.length c3).ownBlock = some k) hg3)
  have HF3 : Hid (Fr (fun k => ¬ K k) w0 w3) := hid (HF2.out.trans ((Fr.of_below hb3).mono fun _ _ h => h.elim))
  have HG3 := hid hg3
  clear ho3 hb3 hg3 HS2 HO2
  go_wp2_with fail
  have C1 := PWs.vData HS3.out (by omega)
  rw [HD.out] at C1
  refine C1.mono ?_
  clear C1
  rintro r w4 ⟨u4, rfl, hu4, hb4⟩
  have HU4 := hid hu4
  have HO24 := hid (OwnB.below HO23.out hb4)
  have HO34 := hid (OwnB.below HO3.out hb4)
  have HO33 := hid HO3.out
  have HS4 := hid (HS3.out.below (AW.stab _ _ _) (AV.stab _ _ _) hb4)
  clear hu4 hb4 HS3 HO23 HO3
  go_wp2_with fail
  refine (same_any _ _ _ _ w4 HO24.out.sl HU4.out).mono ?_
  rintro r w' ⟨rfl, hw⟩
  replace hw := hw.symm
  subst hw
  simp only [decide_true]
  go_wp2_with fail
  have C1 := PWs.vData HS4.out (by omega)
  rw [HD.out] at C1
  refine C1.mono ?_
  clear C1
  rintro r w5 ⟨u5, rfl, hu5, hb5⟩
  have HU5 := hid hu5
  have HO25 := hid (OwnB.below HO24.out hb5)
  have HO35 := hid (OwnB.below HO34.out hb5)
  have HS5 := hid (HS4.out.below (AW.stab _ _ _) (AV.stab _ _ _) hb5)
  clear hu5 hb5 HS4 HO24 HO34
  go_wp2_with fail
  refine (same_any _ _ _ _ w5 HO35.out.sl HU5.out).mono ?_
  rintro r w' ⟨rfl, hw⟩
  replace hw := hw.symm
  subst hw
  simp only [decide_true]
  go_wp2_with fail
  refine (PWs.hold HS5.out (AW.stab _ _ _) (AV.stab _ _ _) (.slice A2 D.length c2) D (own_base HO25.out (Nat.zero_le _)) (fun k hk => .inl (.inr hk)) (by omega) (by omega)).mono ?_
  rintro r w6 ⟨rfl, h6⟩
  have HS6 := hid h6
  have HO36 := hid (own_fr HO33.out h6.fr (fun k hk hh => hh ⟨.inr hk, fun e => by have := (HG2.out k e).2; have := (HG3.out k hk).1; omega⟩))
  clear h6 HS5 HO25 HO35
  go_wp2_with fail
  refine (PWs.hold HS6.out (AW.stab _ _ _) (AV.stab _ _ _) (.slice A3 D.length c3) D (own_base HO36.out (Nat.zero_le _)) (fun k hk => ⟨.inr hk, fun e => by have := (HG2.out k e).2; have := (HG3.out k hk).1; omega⟩) (by omega) (by omega)).mono ?_
  rintro r w7 ⟨rfl, h7⟩
  have HS7 := hid h7
  clear h7 HS6 HO36
  go_wp2_with fail
  refine (PWs.wErr HS7.out).mono ?_
  rintro r w9 ⟨rfl, rfl⟩
  go_wp2_with fail
  refine (PWs.vErr HS7.out).mono ?_
  rintro r w9 ⟨rfl, rfl⟩
  go_wp2
  go_ret
  have hz := HF2.out.size
  have hz3 := HF3.out.size
  refine ⟨rfl, _, _, _, PWs.drop HS7.out (fun k hk => ⟨⟨.inl (.inl (.inl hk)), fun e => ?_⟩, fun e => ?_⟩) HF.out.lt HF3.out, by omega, by omega⟩
  · have h1 := HF.out.lt k hk
    have h2 := (HG2.out k e).1
    have h3 := HF.out.fr.size
    omega
  · have h1 := HF.out.lt k hk
    have h2 := (HG3.out k e).1
    omega
end Go.Proofs.Ytamhlfhblgmhoaa
