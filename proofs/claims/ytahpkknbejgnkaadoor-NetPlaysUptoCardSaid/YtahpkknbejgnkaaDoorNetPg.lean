/- The document's network: Take, Drop. -/
import Derived.Test.YtahpkknbejgnkaaDoorNetPf
namespace Go.Proofs.YtahpkknbejgnkaaDoor
open Go.RowKit
theorem Ht.after {t : TypeId} {w w1 w2 : World} {S : Nat → Prop} {d : Nat} {P : List Pkt} (hb : Below w.heap.size w w1) (h : Ht t w1 w2 S d P) : Ht t w w2 S d P :=
  ⟨h.1.fr (Fr.refl (fun _ => False) _) (fun _ _ h => h) (fun k hk => hk.imp id fun g => ⟨Nat.le_trans hb.size g.1, g.2⟩) (fun k hk => by
      rcases hk with hk | hk
      · exact h.1.lt k (.inl hk)
      · exact hk.2), ((Fr.of_below hb).mono fun _ _ h => h.elim).trans (h.2.mono fun k _ h => .inl h)⟩
/-- a write into a block that is neither the thing's nor elder -/
theorem Ht.set_ {t : TypeId} {w w1 w2 w3 : World} {S : Nat → Prop} {d g : Nat} {P : List Pkt} (hb : Below w.heap.size w w1) (h : Ht t w1 w2 S d P) (hg : w.heap.size ≤ g) (hg2 : g < w1.heap.size) (hS : ∀ k, S k → k < w.heap.size) (hf : Fr (fun k => k = g) w2 w3) : Ht t w w3 S d P := by
  have h3 : HAt t w3 (fun k => S k ∨ Nw w1 w2 k) d P := h.1.fr hf (fun k hk e => by
    subst e
    rcases hk with hk | hk
    · have := hS k hk; omega
    · have := hk.1; omega) (fun _ h => h) (fun k hk => Nat.lt_of_lt_of_le (h.1.lt k hk) hf.size)
  refine ⟨h3.fr (Fr.refl (fun _ => False) _) (fun _ _ h => h) (fun k hk => hk.imp id fun g => ⟨Nat.le_trans hb.size g.1, Nat.lt_of_lt_of_le g.2 hf.size⟩) (fun k hk => by
      rcases hk with hk | hk
      · exact h3.lt k (.inl hk)
      · exact hk.2), ?_⟩
  exact (((Fr.of_below hb).mono fun _ _ h => h.elim).trans (h.2.mono fun k _ h => .inl h)).trans (hf.mono fun k _ e => .inr (by omega))
theorem rTake_nil (i : Int) (w : World) : Calls Tryd.prog 28 #[.pointer none, .int .i64 i] w fun e w' => e = .returned (.tuple #[pkt0, .int .i64 0]) ∧ Below w.heap.size w w' := by
  go_enter Tryd.func28, Tryd.ntmps28
  go_upto_region 1 with (fail)
  refine Code.seen (fun W => W.heap[w.heap.size]? = some (.cells #[.int .i64 0, .int .i64 0, .int .i64 0, .int .i64 0, .slice none 0 0, .bool false] 32 (0, 0)) ∧ Below w.heap.size w W) ⟨heap_alloc_new _ _, (Below.refl _ _).alloc (Nat.le_refl _) _⟩ fun w2 Z1 => ?_
  have hfz : ∀ i, w2.frozen? ⟨w.heap.size, i, none⟩ = false := fun i => blk_frozen Z1.out.1 i
  obtain ⟨x0, x1, x2, x3, x4, x5⟩ := pk_at Z1.out.1
  go_wp2_with fail
  have e0 := set6 Z1.out.1 (.int .i64 0) (.int .i64 0) (.int .i64 0) (.int .i64 0) (.slice none 0 0) (.bool false)
  have e1 := hid (Z1.out.2.trans ((fr6 w2 w.heap.size (.int .i64 0) (.int .i64 0) (.int .i64 0) (.int .i64 0) (.slice none 0 0) (.bool false)).to_below (fun k hk e => by omega) Z1.out.2.size))
  clear x0 x1 x2 x3 x4 x5 hfz
  generalize ((((((w2.setCell ⟨w.heap.size, 0, none⟩ (.int .i64 0)).setCell ⟨w.heap.size, 1, none⟩ (.int .i64 0)).setCell ⟨w.heap.size, 2, none⟩ (.int .i64 0)).setCell ⟨w.heap.size, 3, none⟩ (.int .i64 0)).setCell ⟨w.heap.size, 4, none⟩ (.slice none 0 0)).setCell ⟨w.heap.size, 5, none⟩ (.bool false)) = w5 at e0 e1 ⊢
  obtain ⟨q0, q1, q2, q3, q4, q5⟩ := pk_at e0
  clear e0
  refine bodyPost_ret (v := .tuple #[.agg #[.int .i64 0, .int .i64 0, .int .i64 0, .int .i64 0, .slice none 0 0, .bool false], .int .i64 0]) ?_ rfl ⟨rfl, e1.out⟩
  simp [results, Tryd.results28, go_sem, *]
set_option maxHeartbeats 1000000 in
theorem rTake_no (w : World) (S : Nat → Prop) (d : Nat) (P : List Pkt) (i : Int) (h : RAt w S d P) (hi : i < 0 ∨ (P.length : Int) ≤ i) :
    Calls Tryd.prog 28 #[.pointer (some ⟨d, 0, none⟩), .int .i64 i] w fun e w' => e = .returned (.tuple #[pkt0, .int .i64 50]) ∧ Below w.heap.size w w' := by
  have H := hid h
  have HI := hid hi
  clear h hi
  go_enter Tryd.func28, Tryd.ntmps28
  go_upto_region 1 with (fail)
  refine Code.seen (fun W => W.heap[w.heap.size]? = some (.cells #[.int .i64 0, .int .i64 0, .int .i64 0, .int .i64 0, .slice none 0 0, .bool false] 32 (0, 0)) ∧ Below w.heap.size w W) ⟨heap_alloc_new _ _, (Below.refl _ _).alloc (Nat.le_refl _) _⟩ fun w2 Z1 => ?_
  go_wp2_with fail
  refine (there_no w2 S d P i (H.out.below Z1.out.2) HI.out).mono ?_
  rintro e w' ⟨rfl, hw⟩
  replace hw := hw.symm
  subst hw
  have hfz : ∀ i, w2.frozen? ⟨w.heap.size, i, none⟩ = false := fun i => blk_frozen Z1.out.1 i
  obtain ⟨x0, x1, x2, x3, x4, x5⟩ := pk_at Z1.out.1
  go_wp2_with fail
  have e0 := set6 Z1.out.1 (.int .i64 0) (.int .i64 0) (.int .i64 0) (.int .i64 0) (.slice none 0 0) (.bool false)
  have e1 := hid (Z1.out.2.trans ((fr6 w2 w.heap.size (.int .i64 0) (.int .i64 0) (.int .i64 0) (.int .i64 0) (.slice none 0 0) (.bool false)).to_below (fun k hk e => by omega) Z1.out.2.size))
  clear x0 x1 x2 x3 x4 x5 hfz
  generalize ((((((w2.setCell ⟨w.heap.size, 0, none⟩ (.int .i64 0)).setCell ⟨w.heap.size, 1, none⟩ (.int .i64 0)).setCell ⟨w.heap.size, 2, none⟩ (.int .i64 0)).setCell ⟨w.heap.size, 3, none⟩ (.int .i64 0)).setCell ⟨w.heap.size, 4, none⟩ (.slice none 0 0)).setCell ⟨w.heap.size, 5, none⟩ (.bool false)) = w5 at e0 e1 ⊢
  obtain ⟨q0, q1, q2, q3, q4, q5⟩ := pk_at e0
  clear e0
  refine bodyPost_ret (v := .tuple #[.agg #[.int .i64 0, .int .i64 0, .int .i64 0, .int .i64 0, .slice none 0 0, .bool false], .int .i64 50]) ?_ rfl ⟨rfl, e1.out⟩
  simp [results, Tryd.results28, go_sem, *]
set_option maxRecDepth 100000 in
set_option maxHeartbeats 4000000 in
theorem rTake_own (w : World) (S : Nat → Prop) (d : Nat) (P : List Pkt) (i : Nat) (h : RAt w S d P) (hi : i < P.length) (hl : ∀ p ∈ P, p.data.length ≤ 140737488355328) (hP : P.length ≤ 1099511627776) :
    Calls Tryd.prog 28 #[.pointer (some ⟨d, 0, none⟩), .int .i64 (i : Int)] w fun e w' => ∃ u, e = .returned (.tuple #[P[i].val u, .int .i64 0]) ∧ OwnB w' w.heap.size u P[i].data ∧ RAtt w w' S d (P.eraseIdx i) := by
  have HH := hid h
  obtain ⟨I, fv, vs, hN⟩ := h
  obtain ⟨g, cap, rfl, hSg, hIg, hcap, hgl, _⟩ := hN.pv.lies (by omega)
  have c0 : w.cell? ⟨d, 0, none⟩ = some (.slice (some ⟨g, 0, none⟩) P.length cap) := by rw [blk_cell hN.at_]; rfl
  obtain ⟨u0, -, hu0, hc⟩ := hN.pv.get i hi
  have hpl := hl _ (List.getElem_mem hi)
  obtain ⟨p, hp⟩ : ∃ p, p = P[i] := ⟨_, rfl⟩
  rw [← hp] at hu0 hc hpl ⊢
  have HN := hid hN
  obtain ⟨fk, fi, tk, ti, l, lost⟩ := p
  simp only at hpl
  have HVV : Hid (SlI w I u0 l) := hid hu0
  obtain ⟨A, c, rfl⟩ := HVV.out.sl.form
  have hdl : d < w.heap.size := hN.pv.lt d hN.sd
  have hSl := hid hN.pv.lt
  unfold Pkt.val
  simp only
  have HPL := hid hpl
  have HX : Hid (∀ W, Below w.heap.size w W → W.cell? ⟨d, 0, none⟩ = some (.slice (some ⟨g, 0, none⟩) P.length cap) ∧ ∀ j v, (Pkt.cells ⟨fk, fi, tk, ti, l, lost⟩ (.slice A l.length c))[j]? = some v → W.cell? ⟨g, i * 6 + j, none⟩ = some v) := hid fun W hb => ⟨(hb.cell (p := ⟨d, 0, none⟩) hdl).trans c0, fun j v hj => (hb.cell (p := ⟨g, i * 6 + j, none⟩) hgl).trans (hc j v hj)⟩
  clear hN hu0 hc hp hl c0 hpl
  go_enter Tryd.func28, Tryd.ntmps28
  go_upto_region 1 with (fail)
  refine Code.seen (fun W => W.heap[w.heap.size]? = some (.cells #[.int .i64 0, .int .i64 0, .int .i64 0, .int .i64 0, .slice none 0 0, .bool false] 32 (0, 0)) ∧ Below w.heap.size w W) ⟨heap_alloc_new _ _, (Below.refl _ _).alloc (Nat.le_refl _) _⟩ fun w1 Z1 => ?_
  have HZ := hid (blk_lt Z1.out.1)
  go_wp2_with fail
  refine (there_yes w1 S d P i (HH.out.below Z1.out.2) hi).mono ?_
  rintro e w' ⟨rfl, hw⟩
  replace hw := hw.symm
  subst hw
  obtain ⟨cd, hc⟩ := HX.out w1 Z1.out.2
  obtain ⟨x0, x1, x2, x3, x4, x5⟩ := pk6 hc
  have i0 : (0 : Int) ≤ (i : Int) := by omega
  have i1 : (i : Int) < (P.length : Int) := by omega
  clear hc
  go_upto_region 6 with (fail)
  refine Code.seen (fun W => W.heap[w1.heap.size]? = some (.cells #[.int .i64 fk, .int .i64 fi, .int .i64 tk, .int .i64 ti, .slice A l.length c, .bool lost] 32 (0, 0)) ∧ Below w1.heap.size w1 W) ⟨heap_alloc_new _ _, (Below.refl _ _).alloc (Nat.le_refl _) _⟩ fun w2 Z2 => ?_
  have HB2 := hid (below_then Z1.out.2 Z2.out.2)
  have HR2 := hid (blk_keep Z2.out.2 Z1.out.1 HZ.out)
  have HK2 := hid Z2.out.1
  have HG2 := hid (blk_lt Z2.out.1)
  have hv2 : HV 61 w2 S I d (.slice (some ⟨g, 0, none⟩) P.length cap) vs P := HN.out.fr (Fr.of_below HB2.out) (fun _ _ h => h) (fun _ h => h) (fun k hk => Nat.lt_of_lt_of_le (hSl.out k hk) HB2.out.size)
  have HV2 := hid hv2
  clear x0 x1 x2 x3 x4 x5 cd hv2 Z1 Z2
  go_wp2_with fail
  refine (without_any w2 S I d _ vs P i HV2.out hi hP).mono ?_
  rintro e w3 ⟨v3, rfl, hw3⟩
  obtain ⟨⟨vs3, hp3, hv3⟩, hb3⟩ := hw3
  obtain ⟨A3, c3, rfl⟩ := own_form hp3.row
  have hd2 : d < w2.heap.size := HV2.out.pv.lt d HV2.out.sd
  have hat3 := blk_keep hb3 HV2.out.at_ hd2
  have c3d : w3.cell? ⟨d, 0, none⟩ = some (.slice (some ⟨g, 0, none⟩) P.length cap) := by rw [blk_cell hat3]; rfl
  have f3d : w3.frozen? ⟨d, 0, none⟩ = false := blk_frozen hat3 _
  have HT4 := hid (HV2.out.put ((Fr.of_below hb3).mono fun _ _ h => h.elim) hp3 (fun k hk => hk.imp (HV2.out.pv.it k) id) HV2.out.id (fun k hk => by have := hv3 k hk; omega))
  have hset : Fr (fun k => k = d) w3 (w3.setCell ⟨d, 0, none⟩ (.slice A3 (P.eraseIdx i).length c3)) := Fr.set_ _ _
  have HS4 := hid (((Fr.of_below hb3).mono fun _ _ h => h.elim : Fr (fun k => k = d) w2 w3).trans (hset.mono fun _ _ h => .inl h))
  clear hp3 hv3 hb3 hat3 hset
  go_upto_region 7 with (fail)
  clear c3d f3d
  generalize w3.setCell ⟨d, 0, none⟩ (.slice A3 (P.eraseIdx i).length c3) = w4 at *
  have hz1 := HZ.out
  have hz2 := HG2.out
  have HK4 := hid (blk_fr HS4.out HK2.out (by omega))
  have HR4 := hid (blk_fr HS4.out HR2.out (by omega))
  have HU4 : Hid (SlB w4 (.slice A l.length c) l) := hid (((HVV.out.fr (I' := I) (Fr.of_below HB2.out) (fun _ _ h => h) (fun _ h => h)).fr HS4.out (fun k hk e => HN.out.id (e ▸ hk)) (fun _ h => h)).sl)
  obtain ⟨y0, y1, y2, y3, y4, y5⟩ := pk_at HK4.out
  go_wp2_with fail
  refine (rcopied_at fk fi tk ti l lost _ w4 HU4.out HPL.out).mono ?_
  rintro e w5 ⟨u, rfl, hu, hb5⟩
  obtain ⟨Au, cu, rfl⟩ := hu.form
  have HU := hid hu
  have HB5 := hid hb5
  have HR5 := hid (blk_keep hb5 HR4.out (blk_lt HR4.out))
  have hfz : ∀ i, w5.frozen? ⟨w.heap.size, i, none⟩ = false := fun i => blk_frozen HR5.out i
  obtain ⟨z0, z1, z2, z3, z4, z5⟩ := pk_at HR5.out
  clear hu hb5 y0 y1 y2 y3 y4 y5
  go_wp2_with fail
  have e0 := hid (set6 HR5.out (.int .i64 fk) (.int .i64 fi) (.int .i64 tk) (.int .i64 ti) (.slice Au l.length cu) (.bool lost))
  have hf6 := fr6 w5 w.heap.size (.int .i64 fk) (.int .i64 fi) (.int .i64 tk) (.int .i64 ti) (.slice Au l.length cu) (.bool lost)
  clear z0 z1 z2 z3 z4 z5 hfz
  generalize ((((((w5.setCell ⟨w.heap.size, 0, none⟩ (.int .i64 fk)).setCell ⟨w.heap.size, 1, none⟩ (.int .i64 fi)).setCell ⟨w.heap.size, 2, none⟩ (.int .i64 tk)).setCell ⟨w.heap.size, 3, none⟩ (.int .i64 ti)).setCell ⟨w.heap.size, 4, none⟩ (.slice Au l.length cu)).setCell ⟨w.heap.size, 5, none⟩ (.bool lost)) = w6 at *
  obtain ⟨q0, q1, q2, q3, q4, q5⟩ := pk_at e0.out
  have hs4 := HS4.out.size
  have R1 : OwnB w6 w.heap.size (.slice Au l.length cu) l := own_base (HU.out.fr hf6 (fun k hk e => by have := (World.ownsRow.lt HU.out k hk).1; omega)) (by omega)
  have R2 : RAtt w w6 S d (P.eraseIdx i) := Ht.set_ HB2.out (HT4.out.then_ HB5.out) (Nat.le_refl _) (by omega) hSl.out hf6
  have R := hid (And.intro R1 R2)
  clear R1 R2 hf6 e0 HT4 HU HR5
  refine bodyPost_ret (v := .tuple #[.agg #[.int .i64 fk, .int .i64 fi, .int .i64 tk, .int .i64 ti, .slice Au l.length cu, .bool lost], .int .i64 0]) ?_ rfl ⟨_, rfl, R.out⟩
  simp [results, Tryd.results28, go_sem, *]
theorem rTake_ok (w : World) (S : Nat → Prop) (d : Nat) (P : List Pkt) (i : Nat) (h : RAt w S d P) (hi : i < P.length) (hl : ∀ p ∈ P, p.data.length ≤ 140737488355328) (hP : P.length ≤ 1099511627776) :
    Calls Tryd.prog 28 #[.pointer (some ⟨d, 0, none⟩), .int .i64 (i : Int)] w fun e w' => ∃ u, e = .returned (.tuple #[P[i].val u, .int .i64 0]) ∧ SlB w' u P[i].data ∧ RAtt w w' S d (P.eraseIdx i) :=
  (rTake_own w S d P i h hi hl hP).mono fun _ _ ⟨u, he, hu, hn⟩ => ⟨u, he, hu.sl, hn⟩
end Go.Proofs.YtahpkknbejgnkaaDoor
