/- Take of one that is there. -/
import Derived.Test.YtahpkknbejgnkaaDoorNetH
namespace Go.Proofs.YtahpkknbejgnkaaDoor
open Go.RowKit
theorem PkAt.o {W : World} {g : Nat} {fk fi tk ti : Int} {v : Value} {lost : Bool} (h : PkAt W g fk fi tk ti v lost) : W.cell? ⟨g, 0, none⟩ = some (.int .i64 fk) ∧ W.cell? ⟨g, 1, none⟩ = some (.int .i64 fi) ∧ W.cell? ⟨g, 2, none⟩ = some (.int .i64 tk) ∧ W.cell? ⟨g, 3, none⟩ = some (.int .i64 ti) ∧ W.cell? ⟨g, 4, none⟩ = some v ∧ W.cell? ⟨g, 5, none⟩ = some (.bool lost) := h
theorem PkAt.fr {X : Nat → Prop} {w w' : World} {g : Nat} {fk fi tk ti : Int} {v : Value} {lost : Bool} (h : PkAt w g fk fi tk ti v lost) (hf : Fr X w w') (hx : ¬ X g) : PkAt w' g fk fi tk ti v lost := by
  obtain ⟨h0, h1, h2, h3, h4, h5⟩ := h
  have e : ∀ i v, w.cell? ⟨g, i, none⟩ = some v → w'.cell? ⟨g, i, none⟩ = some v := fun i v h => by
    have hb := World.block_lt_of_cell? w _ h
    rw [World.cell?_of_block (w := w) (w' := w') (a := ⟨g, i, none⟩) (hf.block g hb hx), h]
  exact ⟨e _ _ h0, e _ _ h1, e _ _ h2, e _ _ h3, e _ _ h4, e _ _ h5⟩
set_option maxRecDepth 100000 in
set_option maxHeartbeats 4000000 in
theorem Take_own (w : World) (S : Nat → Prop) (d : Nat) (P : List Pkt) (i : Nat) (hF : FtAt w) (h : NAt w S d P) (hi : i < P.length) (hl : ∀ p ∈ P, p.data.length ≤ 140737488355328) (hP : P.length ≤ 1099511627776) :
    Calls Tryd.prog 6 #[.pointer (some ⟨d, 0, none⟩), .int .i64 (i : Int)] w fun e w' => ∃ u, e = .returned (.tuple #[P[i].val u, .int .i64 0]) ∧ OwnB w' w.heap.size u P[i].data ∧ Nt w w' S d (P.eraseIdx i) := by
  have HH := hid h
  have HFT := hid hF
  have hFl : 0 < w.heap.size := World.block_lt_of_cell? w _ hF.c0
  obtain ⟨I, fv, vs, hN⟩ := h
  have hrow := hN.row
  obtain ⟨hxl, ⟨_, h0⟩ | ⟨g, cap, cur, rfl, _, hg, hn, hm, hs, htake⟩⟩ := hrow
  · omega
  have c0 : w.cell? ⟨d, 0, none⟩ = some (.slice (some ⟨g, 0, none⟩) P.length cap) := by rw [blk_cell hN.at_]; rfl
  obtain ⟨u0, hu0, hc⟩ := hN.get i hi
  have hpl := hl _ (List.getElem_mem hi)
  obtain ⟨p, hp⟩ : ∃ p, p = P[i] := ⟨_, rfl⟩
  rw [← hp] at hu0 hc hpl ⊢
  have HC := hid hc
  have HN := hid hN
  have HU0 := hid hu0
  obtain ⟨fk, fi, tk, ti, l, lost⟩ := p
  simp only at hpl
  have HV : Hid (SlB w u0 l) := hid hu0.sl
  obtain ⟨A, c, rfl⟩ := HV.out.form
  have hdl : d < w.heap.size := hN.lt d hN.sd
  have hgl : g < w.heap.size := blk_lt hg
  have hSl := hid hN.lt
  unfold Pkt.val
  simp only
  have HPL := hid hpl
  have HX : Hid (∀ W, Below w.heap.size w W → W.cell? ⟨d, 0, none⟩ = some (.slice (some ⟨g, 0, none⟩) P.length cap) ∧ ∀ j v, (Pkt.cells ⟨fk, fi, tk, ti, l, lost⟩ (.slice A l.length c))[j]? = some v → W.cell? ⟨g, i * 6 + j, none⟩ = some v) := hid fun W hb => ⟨(hb.cell (p := ⟨d, 0, none⟩) hdl).trans c0, fun j v hj => (hb.cell (p := ⟨g, i * 6 + j, none⟩) hgl).trans (hc j v hj)⟩
  clear hN hu0 hc hp hg hs htake hxl hm hl c0 hF hpl
  go_enter Tryd.func6, Tryd.ntmps6
  go_upto_region 1 with (fail)
  refine Code.seen (fun W => W.heap[w.heap.size]? = some (.cells #[.int .i64 0, .int .i64 0, .int .i64 0, .int .i64 0, .slice none 0 0, .bool false] 32 (0, 0)) ∧ Below w.heap.size w W) ⟨heap_alloc_new _ _, (Below.refl _ _).alloc (Nat.le_refl _) _⟩ fun w1 Z1 => ?_
  have HZ := hid (blk_lt Z1.out.1)
  obtain ⟨cd, hc⟩ := HX.out w1 Z1.out.2
  obtain ⟨x0, x1, x2, x3, x4, x5⟩ := pk6 hc
  clear hc
  go_upto_region 3 with (fail)
  go_wp2_with fail
  refine (copied_at fk fi tk ti l lost _ w1 (HV.out.below Z1.out.2) (by have := HPL.out; omega)).mono ?_
  rintro e w2 ⟨u, rfl, hu, hb2⟩
  obtain ⟨Au, cu, rfl⟩ := hu.form
  have HU := hid hu
  have HB2 := hid (below_then Z1.out.2 hb2)
  have HR2 := hid (blk_keep hb2 Z1.out.1 HZ.out)
  have hs2 := hid hb2.size
  clear hu hb2 cd x0 x1 x2 x3 x4 x5
  go_upto_region 4 with (fail)
  refine Code.seen (fun W => W.heap[w2.heap.size]? = some (.cells #[.int .i64 fk, .int .i64 fi, .int .i64 tk, .int .i64 ti, .slice Au l.length cu, .bool lost] 32 (0, 0)) ∧ Below w2.heap.size w2 W) ⟨heap_alloc_new _ _, (Below.refl _ _).alloc (Nat.le_refl _) _⟩ fun w3 Z3 => ?_
  have HB3 := hid (below_then HB2.out Z3.out.2)
  have HR3 := hid (blk_keep Z3.out.2 HR2.out (by have := HZ.out; have := hs2.out; omega))
  have HU3 := hid (HU.out.below Z3.out.2)
  have HL3 := hid (blk_lt Z3.out.1)
  have hs3 : w.heap.size < w2.heap.size := by have := HZ.out; have := hs2.out; omega
  have HP3 := hid (pk_at Z3.out.1)
  have HP3d := hid (HP3.out.fr (Fr.of_below (drew_below w3)) (fun h => h))
  obtain ⟨x0, x1, x2, x3, x4, x5⟩ := HP3.out
  have HZ1 := HZ
  clear HZ Z1
  have HT := hid (befall_drop w3.drew S d P i 0 0 (HFT.out.below hFl (HB3.out.trans ((drew_below w3).mono HB3.out.size))) ((HH.out.below HB3.out).below (drew_below w3)) hi hP)
  go_region_held3 (fun W => W.cell? ⟨w2.heap.size, 0, none⟩ = some (.int .i64 fk) ∧ W.cell? ⟨w2.heap.size, 1, none⟩ = some (.int .i64 fi) ∧ W.cell? ⟨w2.heap.size, 2, none⟩ = some (.int .i64 tk) ∧ W.cell? ⟨w2.heap.size, 3, none⟩ = some (.int .i64 ti) ∧ W.cell? ⟨w2.heap.size, 4, none⟩ = some (.slice Au l.length cu) ∧ W.cell? ⟨w2.heap.size, 5, none⟩ = some (.bool lost))
    (first | with_reducible assumption | with_reducible exact PkAt.o HP3.out | with_reducible exact PkAt.o HP3d.out | with_reducible exact PkAt.o HK.out | (with_reducible refine PkAt.o (PkAt.fr HK.out (fr6 w4 w.heap.size _ _ _ _ _ _) ?_); omega))
    (first
      | (go_at_call 23; (with_reducible refine HT.out.mono ?_); go_loud (rintro e w4 ⟨rfl, h4⟩; have HN4 := hid h4; have hKB := blk_fr h4.2 (show w3.drew.heap[w2.heap.size]? = _ from Z3.out.1) (fun hk => by have := hSl.out _ hk; omega); have HK : Hid (PkAt w4 w2.heap.size fk fi tk ti (.slice Au l.length cu) lost) := hid (pk_at hKB); have HRK := hid (blk_fr h4.2 (show w3.drew.heap[w.heap.size]? = _ from HR3.out) (fun hk => by have := hSl.out _ hk; omega)); have hfz : ∀ i, w4.frozen? ⟨w.heap.size, i, none⟩ = false := (fun i => blk_frozen HRK.out i); obtain ⟨y0, y1, y2, y3, y4, y5⟩ := HK.out; obtain ⟨z0, z1, z2, z3, z4, z5⟩ := pk_at HRK.out; clear h4 hKB)))
  go_wp2_with fail
  have e0 := hid (set6 HRK.out (.int .i64 fk) (.int .i64 fi) (.int .i64 tk) (.int .i64 ti) (.slice Au l.length cu) (.bool lost))
  have hf5 := fr6 w4 w.heap.size (.int .i64 fk) (.int .i64 fi) (.int .i64 tk) (.int .i64 ti) (.slice Au l.length cu) (.bool lost)
  clear x0 x1 x2 x3 x4 x5 y0 y1 y2 y3 y4 y5 z0 z1 z2 z3 z4 z5 hfz HT
  generalize ((((((w4.setCell ⟨w.heap.size, 0, none⟩ (.int .i64 fk)).setCell ⟨w.heap.size, 1, none⟩ (.int .i64 fi)).setCell ⟨w.heap.size, 2, none⟩ (.int .i64 tk)).setCell ⟨w.heap.size, 3, none⟩ (.int .i64 ti)).setCell ⟨w.heap.size, 4, none⟩ (.slice Au l.length cu)).setCell ⟨w.heap.size, 5, none⟩ (.bool lost)) = w5 at *
  obtain ⟨q0, q1, q2, q3, q4, q5⟩ := pk_at e0.out
  have hz1 := HZ1.out
  have R1 : OwnB w5 w.heap.size (.slice Au l.length cu) l := own_base (((HU3.out.drew).fr HN4.out.2 (fun k hk e => by have := hSl.out k e; have := (World.ownsRow.lt HU3.out k hk).1; omega)).fr hf5 (fun k hk e => by have := (World.ownsRow.lt HU3.out k hk).1; omega)) (by omega)
  have R2 : Nt w w5 S d (P.eraseIdx i) := Nt.set_ (HB3.out.trans ((drew_below w3).mono HB3.out.size)) HN4.out (Nat.le_refl _) (show w.heap.size < w3.heap.size by have := Z3.out.2.size; omega) hSl.out hf5
  have R := hid (And.intro R1 R2)
  clear R1 R2 hf5 e0 hz1 HN4 HK HRK HP3 HP3d HU3 HU HR3 HR2 Z3
  refine bodyPost_ret (v := .tuple #[.agg #[.int .i64 fk, .int .i64 fi, .int .i64 tk, .int .i64 ti, .slice Au l.length cu, .bool lost], .int .i64 0]) ?_ rfl ⟨_, rfl, R.out⟩
  simp [results, Tryd.results6, go_sem, *]
theorem Take_ok (w : World) (S : Nat → Prop) (d : Nat) (P : List Pkt) (i : Nat) (hF : FtAt w) (h : NAt w S d P) (hi : i < P.length) (hl : ∀ p ∈ P, p.data.length ≤ 140737488355328) (hP : P.length ≤ 1099511627776) :
    Calls Tryd.prog 6 #[.pointer (some ⟨d, 0, none⟩), .int .i64 (i : Int)] w fun e w' => ∃ u, e = .returned (.tuple #[P[i].val u, .int .i64 0]) ∧ SlB w' u P[i].data ∧ Nt w w' S d (P.eraseIdx i) :=
  (Take_own w S d P i hF h hi hl hP).mono fun _ _ ⟨u, he, hu, hn⟩ => ⟨u, he, hu.sl, hn⟩
end Go.Proofs.YtahpkknbejgnkaaDoor
