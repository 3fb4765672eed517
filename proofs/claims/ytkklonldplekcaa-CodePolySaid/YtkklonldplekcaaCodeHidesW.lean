/- The walk of the law CodeHides. -/
import Derived.Test.YtkklonldplekcaaCodeBackW
namespace Go.Proofs.Ytkklonldplekcaa
open Go.RowKit
/-- the parts' rows, the last one with other bytes -/
def Hid2 (E : List (List UInt8)) (f : Nat → Nat) (k s : Nat) (M : List (List UInt8)) : Prop := M.length = k ∧ ∀ i, i < k → (M.getD i []).length = s
section
variable {B : Nat} {w0 w w' : World} {ts : List Thing} {v : Value} {l : List (Nat × Value)} {M : List (List UInt8)}
/-- a byte of a part's row is stored -/
theorem Fam.partByte (h : Fam B w0 w (partsT v l M)) (hl : l.length = M.length) {i g n c : Nat} (hi : i < M.length) (hv : (l.getD i (0, .slice none 0 0)).2 = .slice (some ⟨g, 0, none⟩) n c) (j : Nat) (b : UInt8) : Fam B w0 (w.setCell ⟨g, j, none⟩ (Go.Proofs.Ytkklonldplekcaa.B b)) (partsT v l (M.set i ((M.getD i []).set j b))) := by
  have gi : (partsT v l M)[i + 1]? = some (rowT (.slice (some ⟨g, 0, none⟩) n c) (M.getD i [])) := by rw [parts_at hl hi, hv]
  obtain ⟨S, hS, _, kk⟩ := h.call gi
  have h2 := kk (rowT (.slice (some ⟨g, 0, none⟩) n c) ((M.getD i []).set j b)) (w.setCell ⟨g, j, none⟩ (Go.Proofs.Ytkklonldplekcaa.B b)) ⟨hS.1.set_ j b, fun x hx => .inl (hS.2 x hx)⟩ ((Fr.set_ (g := g) j _).mono fun x _ e => hS.2 x (by rw [e]; rfl))
  have e : (partsT v l M).set (i + 1) (rowT (.slice (some ⟨g, 0, none⟩) n c) ((M.getD i []).set j b)) = partsT v l (M.set i ((M.getD i []).set j b)) := by
    unfold partsT
    rw [List.set_cons_succ, List.length_set, rowsT_set _ _ i _ _ (by rw [List.getElem?_map, show l[i]? = some (l.getD i (0, .slice none 0 0)) by rw [List.getD_eq_getElem?_getD, List.getElem?_eq_getElem (show i < l.length by omega)]; rfl]; show some ((l.getD i (0, .slice none 0 0)).2) = _; rw [hv])]
  rw [e] at h2
  exact h2
/-- the cells of the parts -/
theorem Fam.partCells {g n c : Nat} (h : Fam B w0 w (partsT (.slice (some ⟨g, 0, none⟩) n c) l M)) (hn : n = M.length) (hl : l.length = M.length) (i : Nat) (hi : i < n) : w.cell? ⟨g, i * 2, none⟩ = some (.int .i64 ((l.getD i (0, .slice none 0 0)).1 : Int)) ∧ w.cell? ⟨g, i * 2 + 1, none⟩ = some (l.getD i (0, .slice none 0 0)).2 := by
  subst hn
  have ho : w.ownsRow 0 74 2 _ M.length (pc l) := (h.own (i := 0) rfl).1
  have := pc_get l i _ (show l[i]? = some (l.getD i (0, .slice none 0 0)) by rw [List.getD_eq_getElem?_getD, List.getElem?_eq_getElem (show i < l.length by omega)]; rfl)
  rw [World.ownsRow.cellAt ho (i * 2) (by omega), World.ownsRow.cellAt ho (i * 2 + 1) (by omega)]
  exact this
end
/-- any k rows have data that have them -/
theorem hides {k s : Nat} {G X : List (List UInt8)} {ps : List (Int × List UInt8)} (_ : ps.length = k) (hX : X.length = k) (hp : ∀ i j, i < k → j < k → Mx.prod 0x1d (ent (hRows G ps k)) (ent X) k i j = Mx.unitM i j) (hs : ∀ i, i < k → (prt ps i).2.length = s) (i : Nat) (hi : i < k) : comb (G.getD (ixOf ps i) []) (enc X (gRows ps k) s) s = (prt ps i).2 := by
  have hgl : (gRows ps k).length = k := by simp [gRows]
  apply List.ext_getElem (by rw [comb_length, hs i hi])
  intro t h1 h2
  rw [comb_length] at h1
  have e1 : ∀ j, j < k → ent (enc X (gRows ps k) s) j t = Mx.prod 0x1d (ent X) (ent (gRows ps k)) k j t := fun j hj => by
    show ((enc X (gRows ps k) s).getD j []).getD t 0 = _
    rw [enc_get _ _ _ _ (by omega), comb_get _ _ _ _ h1, hgl]; rfl
  have e2 : (comb (G.getD (ixOf ps i) []) (enc X (gRows ps k) s) s).getD t 0 = ent (gRows ps k) i t := by
    rw [comb_get _ _ _ _ h1, enc_length, hX]
    have e3 : (Mx.sm k fun j => Gf.mul 0x1d ((G.getD (ixOf ps i) []).getD j 0) (ent (enc X (gRows ps k) s) j t)) = Mx.prod 0x1d (ent (hRows G ps k)) (Mx.prod 0x1d (ent X) (ent (gRows ps k)) k) k i t := Mx.sm_congr k fun j hj => by
      rw [e1 j hj]
      show _ = Gf.mul 0x1d (((hRows G ps k).getD i []).getD j 0) _
      rw [hRows_get hi]
    rw [e3, ← Mx.prod_assoc, Mx.prod_congr (A' := Mx.unitM) (B' := ent (gRows ps k)) (fun l hl => hp i l hi hl) (fun _ _ => rfl), Mx.prod_unit_l _ _ _ _ _ hi]
  have e4 : ent (gRows ps k) i t = (prt ps i).2[t] := by
    unfold ent
    rw [gRows_get hi, List.getD_eq_getElem?_getD, List.getElem?_eq_getElem h2]; rfl
  rw [e4, List.getD_eq_getElem?_getD, List.getElem?_eq_getElem (by rw [comb_length]; exact h1)] at e2
  exact e2
theorem rows_set_len {M : List (List UInt8)} {k s r : Nat} {L : List UInt8} (h : ∀ i, i < k → (M.getD i []).length = s) (hL : L.length = s) : ∀ i, i < k → ((M.set r L).getD i []).length = s := fun i hi => by
  have h1 := h i hi
  rw [List.getD_eq_getElem?_getD] at h1 ⊢
  rw [List.getElem?_set]
  split
  · split
    · exact hL
    · rename_i h2 h3
      rw [List.getElem?_eq_none (by omega)] at h1
      exact h1
  · exact h1
set_option maxRecDepth 100000 in
set_option maxHeartbeats 16000000 in
theorem CodeHides_walk (W : World) (a b : Int) (ha : -9223372036854775808 ≤ a ∧ a ≤ 9223372036854775807) (hb : -9223372036854775808 ≤ b ∧ b ≤ 9223372036854775807) (vr vp vb : Value) (ll : List (List UInt8)) (hr : SlBB W vr ll) (pk : List Int) (hp : SlI W vp pk) (hpk : ∀ x ∈ pk, -9223372036854775808 ≤ x ∧ x ≤ 9223372036854775807) (Xb : List UInt8) (hx : SlB W vb Xb) :
    Calls Try.prog 10 #[.agg #[.int .i64 a, .int .i64 b, vr, vp, vb]] W fun e w' => e = .returned (.bool true) ∧ Below W.heap.size W w' := by
  have HR := hid hr
  have HA := hid ha
  have HB := hid hb
  have HP := hid hp
  have HPK := hid hpk
  have HX := hid hx
  clear hr ha hb hp hpk hx
  go_enter Try.func10, Try.ntmps10
  go_wp2_with fail
  refine Calls.seen (fun V => Below W.heap.size W V ∧ V.heap[W.heap.size]? = some (.cells #[.int .i64 a, .int .i64 b, vr, vp, vb] 55 (0, 0))) ⟨(Below.refl _ _).alloc (Nat.le_refl _) _, heap_alloc_new _ _⟩ fun w0 H0 => ?_
  refine (madeC_any w0 a b HA.out HB.out vr vp vb ll (HR.out.below H0.out.1)).mono ?_
  rintro e w1 ⟨n, k, s, c, G, D, A, cp, rfl, hn24, hs40, hc, hg, hd, hdl, hds, hb1⟩
  have HC := hid hc
  have HGN := hid hg
  have HD := hid hd
  have HDL := hid hdl
  have HDS := hid hds
  have HB1 := hid hb1
  have hk1 := hc.k1
  have hkn := hc.kn
  have CP := hid (Encode_any w1 c n k G hc _ D hd s (fun i hi => hds i (by omega)) hdl (by omega))
  clear hc hg hd hdl hds hb1
  go_wp2_with fail
  refine CP.out.mono ?_
  rintro e w3 ⟨Ae, ce, rfl, ht⟩
  have HEL : Hid ((enc G D s).length = n) := hid (by rw [enc_length, HC.out.len])
  have HE3 := hid (ToldN.slB_ ht HEL.out)
  have HB3 := hid (below_then HB1.out ht.base)
  have HC3 := hid (HC.out.below ht.base)
  clear ht CP HC HD HB1
  obtain ⟨Ap, qp, rfl⟩ := HP.out.form
  obtain ⟨Ab, qb, rfl⟩ := HX.out.form
  have HBW := hid (below_then H0.out.1 HB3.out)
  have q3 : w3.cell? ⟨W.heap.size, 3, none⟩ = some (.slice Ap pk.length qp) := (HB3.out.cell (p := ⟨W.heap.size, 3, none⟩) (blk_lt H0.out.2)).trans (by rw [blk_cell H0.out.2]; rfl)
  go_upto_region 7 with (go_at_call 39; (with_reducible refine (N_any w3 c n k G HC3.out).mono ?_); rintro e wz ⟨rfl, hwz⟩; have hwz := hwz.symm; subst hwz)
  have HCd := hid (HC3.out.below (Below.refl w3.heap.size w3).drew)
  have HOC := hid (order_any w3.drew n (by omega) (by omega) _ pk (HP.out.below (below_then HBW.out (Below.refl w3.heap.size w3).drew)) HPK.out)
  have HS0 := hid (show w3.drew.cell? ⟨W.heap.size, 3, none⟩ = some (.slice Ap pk.length qp) from q3)
  go_region_held3 (fun V => V.cell? ⟨W.heap.size, 3, none⟩ = some (.slice Ap pk.length qp))
    (first | with_reducible exact HS0.out | with_reducible exact HS4.out)
    (first
      | (go_at_call 39; (with_reducible refine (N_any w3.drew c n k G HCd.out).mono ?_); rintro e wz ⟨rfl, hwz⟩; have hwz := hwz.symm; subst hwz)
      | (go_at_call 45; (with_reducible refine HOC.out.mono ?_); rintro e w4 ⟨f, g, cg, rfl, hord, hoa⟩; have HORD := hid hord; have HOA := hid hoa; have HB4 := hid (below_then ((Below.refl w3.heap.size w3).drew : Below w3.heap.size w3 w3.drew) hoa.2.2); have HS4 := hid (show w4.cell? ⟨W.heap.size, 3, none⟩ = some (.slice Ap pk.length qp) from (hoa.2.2.cell (World.block_lt_of_cell? w3.drew _ HS0.out)).trans HS0.out); clear hord hoa))
  all_goals
    have HE4 := hid (HE3.out.below HB4.out)
    have HC4 := hid (HC3.out.below HB4.out)
    have HBW4 := hid (below_then HBW.out HB4.out)
    have HBZ4 := hid (below_then HB3.out HB4.out)
    have CS := hid (some_any w4 _ (enc G D s) HE4.out n g cg f HEL.out HORD.out (fun i hi => (HOA.out.get i hi).1) (fun i hi => by rw [enc_get _ _ _ _ (by rw [HC4.out.len]; exact hi), comb_length]; omega) (by omega) k hkn)
    clear q3 HE3 HC3 HB3 HOC HCd
    go_wp2_with (go_at_call 44; (with_reducible refine (K_any w4 c n k G HC4.out).mono ?_); rintro e wz ⟨rfl, hwz⟩; have hwz := hwz.symm; subst hwz)
    refine CS.out.mono ?_
    rintro e w5 ⟨vq, l, rfl, hl, hlf, hf⟩
    have HL := hid hl
    have HLF := hid hlf
    have HF := hid hf
    have HC5 := hid (HC4.out.below hf.base)
    have how : w5.ownsRow 0 74 2 vq (someR (enc G D s) f k).length (pc l) := (hf.own (i := 0) rfl).1
    rw [someR_length] at how
    obtain ⟨gq, cq, rfl, _⟩ : ∃ g cap, vq = .slice (some ⟨g, 0, none⟩) k cap ∧ True := by
      obtain ⟨_, ⟨_, e0⟩ | ⟨g, cap, cur, rfl, _⟩⟩ := how
      · omega
      · exact ⟨g, cap, rfl, trivial⟩
    obtain ⟨k1, hk1e⟩ : ∃ k1, k = k1 + 1 := ⟨k - 1, by omega⟩
    have HK1 := hid hk1e
    have hcast : (k : Int) - 1 = (k1 : Int) := by omega
    have hk1l : (k1 : Int) < (k : Int) := by omega
    have hk10 : (0 : Int) ≤ (k1 : Int) := by omega
    have hk1n : k1 < k := by omega
    clear hl hlf hf how CS hk1e
    go_wp2_with (go_at_call 44; (with_reducible refine (K_any w5 c n k G HC5.out).mono ?_); rintro e wz ⟨rfl, hwz⟩; have hwz := hwz.symm; subst hwz)
    clear hcast
    have q4 : w4.cell? ⟨W.heap.size, 4, none⟩ = some (.slice Ab Xb.length qb) := (HBZ4.out.cell (p := ⟨W.heap.size, 4, none⟩) (blk_lt H0.out.2)).trans (by rw [blk_cell H0.out.2]; rfl)
    have Q4 := hid q4
    have HX4 := hid (HX.out.below HBW4.out)
    have HM0 : Hid (∀ i, i < k → ((someR (enc G D s) f k).getD i []).length = s) := hid fun i hi => by rw [someR_get _ _ _ _ hi, enc_get _ _ _ _ (by rw [HC4.out.len]; exact HORD.out.1 i (by omega)), comb_length]
    clear q4
    go_loopw [10] (fun x wr => ∃ (j : Nat) (M : List (List UInt8)), j ≤ s ∧ x = .int .i64 j ∧ M.length = k ∧ (∀ i, i < k → (M.getD i []).length = s) ∧ Fam w4.heap.size w4 wr (partsT (.slice (some ⟨gq, 0, none⟩) k cq) l M)) (fun x _ => s - (intOf x).toNat)
    case atStart => exact ⟨0, _, Nat.zero_le _, rfl, someR_length _ _ _, HM0.out, HF.out⟩
    case round =>
      clear HM0 HF
      obtain ⟨j, M, hj, rfl, hM, hMs, hf⟩ := hrel
      have HF := hid hf
      have HM := hid hM
      have HMS := hid hMs
      obtain ⟨c0, c1⟩ := hf.partCells hM.symm (by rw [HL.out, hM]) k1 hk1n
      have hrow : OwnB wr 0 (l.getD k1 (0, .slice none 0 0)).2 (M.getD k1 []) := Fam.partRow (ts := []) (by rw [List.append_nil]; exact hf) (by rw [HL.out, hM]) k1 (by rw [hM]; exact hk1n)
      obtain ⟨ul, hul⟩ : ∃ u, (l.getD k1 (0, .slice none 0 0)).2 = u := ⟨_, rfl⟩
      have HUL := hid hul
      rw [hul] at c1 hrow
      have HROW := hid hrow
      obtain ⟨Al, cl, rfl⟩ := hrow.form
      rw [hMs k1 hk1n] at c1
      have q4 : wr.cell? ⟨W.heap.size, 4, none⟩ = some (.slice Ab Xb.length qb) := (hf.base.cell (World.block_lt_of_cell? w4 _ Q4.out)).trans Q4.out
      have i0 : (0 : Int) ≤ (j : Int) := by omega
      clear hf hM hMs hul hrow c0
      by_cases hgo : j < s ∧ j < Xb.length
      · obtain ⟨hlt, hx⟩ := hgo
        have i1 : (j : Int) < (s : Int) := by omega
        have i2 : (j : Int) < (Xb.length : Int) := by omega
        obtain ⟨R, o, rfl, hby⟩ := (HX4.out.below HF.out.base).cells (by omega)
        have x0 := hby j hx
        clear hby
        obtain ⟨b, hb⟩ : ∃ b, Xb.getD j 0 = b := ⟨_, rfl⟩
        rw [hb] at x0
        obtain ⟨g1, c1', e1, -, -, -⟩ := HROW.out.some_ (by rw [HMS.out k1 hk1n]; omega)
        injection e1 with e1 _ e3
        subst e1 e3
        obtain ⟨z0, f0⟩ := HROW.out.at_ j (by rw [HMS.out k1 hk1n]; exact hlt)
        have R1' := hid ((HF.out.below (Below.refl wr.heap.size wr).drew).partByte (by rw [HL.out, HM.out]) (i := k1) (by rw [HM.out]; exact hk1n) HUL.out j b)
        generalize (Go.Proofs.Ytkklonldplekcaa.B ((M.getD k1 []).getD j 0)) = zb at z0
        go_upto_region 13 with (fail)
        go_still_tail 12, (by kernel_rfl)
        change wpList _ _ _ _ _ wr.drew
        have z2 : wr.drew.cell? ⟨g1, j, none⟩ = some zb := z0
        have f2 : wr.drew.frozen? ⟨g1, j, none⟩ = false := f0
        clear x0 z0 f0 c1 q4
        go_wp2
        go_roundw
        case rel => exact ⟨j + 1, M.set k1 ((M.getD k1 []).set j b), by omega, by go_num, by rw [List.length_set]; exact HM.out, fun i hi => rows_set_len HMS.out (by rw [List.length_set]; exact HMS.out k1 hk1n) i hi, R1'.out⟩
        case measure => simp [intOf]; omega
      · have hor : (j < s ∧ ¬ j < Xb.length) ∨ ¬ j < s := by omega
        have HGP := hid (good_parts HORD.out hkn HL.out HLF.out M HM.out HMS.out)
        have hlenps : (psOf l M).length = k := HGP.out.2.2.2.1
        have hs40' := hs40
        have CD := hid (Decode_any wr c n k G (HC4.out.below HF.out.base) HGN.out _ (psOf l M) (Fam.slP (ts := []) (by rw [List.append_nil]; exact HF.out) (by rw [HL.out, HM.out])) (by rw [hlenps]; omega) (fun i hi => by rw [(HGP.out.2.2.2.2 i (by omega)).2]; show (M.getD i []).length ≤ _; rw [HMS.out i (by omega)]; omega))
        rcases hor with ⟨h1, h2⟩ | h1
        all_goals
          first
            | (have i1 : (j : Int) < (s : Int) := by omega
               have i2 : ¬ (j : Int) < (Xb.length : Int) := by omega)
            | (have i1 : ¬ (j : Int) < (s : Int) := by omega)
          clear hgo
          go_wp2_with fail
          refine CD.out.mono ?_
          rintro e w6 (⟨r, hr, _, hrf⟩ | ⟨_, _, _, _, X, hX, hXs, hp1, hp2, hend⟩)
          · exact absurd (rf_zero hrf HGP.out.1 HGP.out.2.1 HGP.out.2.2.1 (by omega)) hr
          have hps : ∀ i, i < k → (prt (psOf l M) i).2 = M.getD i [] := fun i hi => by rw [(HGP.out.2.2.2.2 i hi).2]
          have hs0 : (prt (psOf l M) 0).2.length = s := by rw [hps 0 (by omega)]; exact HMS.out 0 (by omega)
          rw [hs0] at hend
          obtain ⟨_, y, rfl, ht⟩ := hend.resolve_right (by rintro ⟨⟨i, h3, h4, _⟩, _⟩; omega)
          have hhid : ∀ i, i < k → comb (G.getD (f i) []) (enc X (gRows (psOf l M) k) s) s = M.getD i [] := fun i hi => by
            rw [← hps i hi, ← (HGP.out.2.2.2.2 i hi).1]
            exact hides hlenps hX hp1 (fun a ha => by rw [hps a ha]; exact HMS.out a ha) i hi
          have hl2 : (enc X (gRows (psOf l M) k) s).length = k := by rw [enc_length, hX]
          have hd2 : ∀ i, i < k → ((enc X (gRows (psOf l M) k) s).getD i []).length = s := fun i hi => by rw [enc_get _ _ _ _ (by omega), comb_length]
          generalize enc X (gRows (psOf l M) k) s = D2 at hhid hl2 hd2 ht
          have HHID := hid hhid
          have HD2 := hid (ToldN.slB_ ht hl2)
          have HF6 := hid (HF.out.below ht.base)
          have CP2 := hid (Encode_any w6 c n k G (HC4.out.below HF6.out.base) _ D2 HD2.out s (fun i hi => hd2 i (by omega)) hl2 (by omega))
          have hyf : ∃ Ay cy, y = .slice Ay k cy := by
            obtain ⟨Ay, cy, e⟩ := HD2.out.form
            rw [hl2] at e
            exact ⟨Ay, cy, e⟩
          obtain ⟨Ay, cy, rfl⟩ := hyf
          have hl2' := hid hl2
          clear hend ht hhid hl2 hd2 hps hs0 hX hXs hp1 hp2 CD HD2 c1 q4
          go_wp2_with (go_at_call 44; (with_reducible refine (K_any w6 c n k G (HC4.out.below HF6.out.base)).mono ?_); rintro e wz ⟨rfl, hwz⟩; have hwz := hwz.symm; subst hwz)
          refine CP2.out.mono ?_
          rintro e w7 ⟨Ae7, ce7, rfl, ht⟩
          have HEL7 : Hid ((enc G D2 s).length = n) := hid (by rw [enc_length, HC4.out.len])
          have HE7 := hid (ToldN.slB_ ht HEL7.out)
          have HF7 := hid (HF6.out.below ht.base)
          clear ht CP2 HF6
          go_wp2_with (go_at_call 39; (with_reducible refine (N_any w7 c n k G (HC4.out.below HF7.out.base)).mono ?_); rintro e wz ⟨rfl, hwz⟩; have hwz := hwz.symm; subst hwz)
          have HEND0 := hid (below_then HBW4.out HF7.out.base)
          go_loopw [13] (fun x wr2 => ∃ i : Nat, i ≤ k ∧ x = .int .i64 i ∧ Below w7.heap.size w7 wr2) (fun x _ => k - (intOf x).toNat)
          case atStart => exact ⟨0, Nat.zero_le _, rfl, Below.refl _ _⟩
          case round =>
            obtain ⟨i, hi, rfl, hb⟩ := hrel
            have HBR := hid hb
            clear hb
            have i5 : (0 : Int) ≤ (i : Int) := by omega
            by_cases hik : i < k
            · have HFr := hid (HF7.out.below HBR.out)
              obtain ⟨d0, d1⟩ := HFr.out.partCells HM.out.symm (by rw [HL.out, HM.out]) i hik
              have hrow : OwnB wr 0 (l.getD i (0, .slice none 0 0)).2 (M.getD i []) := Fam.partRow (ts := []) (by rw [List.append_nil]; exact HFr.out) (by rw [HL.out, HM.out]) i (by rw [HM.out]; exact hik)
              obtain ⟨q, hq⟩ : ∃ q, f i = q := ⟨_, rfl⟩
              have hqn := HORD.out.1 i (by omega)
              have hh := HHID.out i hik
              rw [HLF.out i hik, hq] at d0
              rw [hq] at hqn hh
              obtain ⟨L, hL⟩ : ∃ L, M.getD i [] = L := ⟨_, rfl⟩
              rw [hL] at hh hrow
              have hsl := hrow.sl
              obtain ⟨ui, hui⟩ : ∃ u, (l.getD i (0, .slice none 0 0)).2 = u := ⟨_, rfl⟩
              rw [hui] at d1 hsl
              obtain ⟨A1, q1, rfl⟩ := hsl.form
              obtain ⟨R, o, v0, rfl, r0, s0⟩ := (HE7.out.below HBR.out).at_ q (by rw [HEL7.out]; exact hqn)
              rw [enc_get _ _ _ _ (by rw [HC4.out.len]; exact hqn), hh] at s0
              obtain ⟨A0, q0, rfl⟩ := s0.form
              have c1 : ∀ n, _ := fun n => conv_str (hsl.drewN n)
              have c2 : ∀ n, _ := fun n => conv_str (s0.drewN n)
              have i6 : (i : Int) < (k : Int) := by omega
              have i7 : (0 : Int) ≤ (q : Int) := by omega
              have i8 : (q : Int) < (n : Int) := by omega
              have R1 := HBR
              clear hq hh hL hrow hui hsl s0
              go_upto_region 23 with (fail)
              go_quiet (fail)
              have R2 := hid (below_drewN R1.out nq)
              clear d0 d1 r0 c1 c2
              go_wp2
              go_roundw
              case rel => exact ⟨i + 1, by omega, by go_num, R2.out⟩
              case measure => simp [intOf]; omega
            · have i6 : ¬ (i : Int) < (k : Int) := by omega
              have HEND := hid (below_then HEND0.out HBR.out)
              go_wp2
              go_ret
              exact ⟨by simp, HEND.out⟩
end Go.Proofs.Ytkklonldplekcaa
