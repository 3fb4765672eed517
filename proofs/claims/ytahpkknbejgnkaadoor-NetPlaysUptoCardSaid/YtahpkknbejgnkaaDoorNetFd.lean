/- One step on both networks. -/
import Derived.Test.YtahpkknbejgnkaaDoorNetFc
namespace Go.Proofs.YtahpkknbejgnkaaDoor
open Go.RowKit
/-- both have the same in flight, behind a step -/
def Stp (B : Nat) (w0 : World) (ts : List Thing) (i j a b n : Nat) (w : World) : Prop := ∃ P, Small6 P ∧ P.length ≤ n ∧ Fam B w0 w ((ts.set i (netT a P)).set j (refT b P))
theorem set_app {α : Type} (ts L : List α) (t : α) (i : Nat) (hi : i < ts.length) : (ts ++ L).set i t = ts.set i t ++ L := by rw [List.set_append_left _ _ hi]
theorem get_app {α : Type} {ts L : List α} {i : Nat} {t : α} (h : ts[i]? = some t) : (ts ++ L)[i]? = some t := by rw [List.getElem?_append_left (List.getElem?_eq_some_iff.1 h).1]; exact h
theorem get_at {α : Type} (ts L : List α) (k : Nat) : (ts ++ L)[ts.length + k]? = L[k]? := by rw [List.getElem?_append_right (by omega)]; congr 1; omega
theorem set_at {α : Type} (ts L : List α) (t : α) (k : Nat) : (ts ++ L).set (ts.length + k) t = ts ++ L.set k t := by rw [List.set_append_right _ _ (by omega)]; congr 2; omega
theorem get_set {α : Type} {ts : List α} {i j : Nat} {t u : α} (h : ts[i]? = some t) (hij : i ≠ j) : (ts.set j u)[i]? = some t := by rw [List.getElem?_set_ne (Ne.symm hij)]; exact h
theorem get_self {α : Type} {ts : List α} {i : Nat} {u : α} (h : i < ts.length) : (ts.set i u)[i]? = some u := List.getElem?_set_self h
section
variable {B : Nat} {w0 w : World} {ts L : List Thing}
/-- the local things are let go -/
theorem Fam.back (h : Fam B w0 w (ts ++ L)) : Fam B w0 w ts := by
  obtain ⟨ρ, h1, h2, h3, h4⟩ := h
  exact ⟨ρ, fun i u hu => h1 i u (get_app hu), h2, h3, h4⟩
theorem Fam.blkL (h : Fam B w0 w (ts ++ L)) (k : Nat) {g : Nat} {o : Obj} (hk : L[k]? = some (blkT g o)) : w.heap[g]? = some o :=
  (h.blk (i := ts.length + k) (by rw [get_at]; exact hk)).1
theorem Fam.newL (h : Fam B w0 w (ts ++ L)) (o : Obj) : Fam B w0 (w.alloc o) (ts ++ (L ++ [blkT w.heap.size o])) := by
  rw [← List.append_assoc]; exact h.new o
theorem Fam.rowL {w' : World} {v : Value} {l : List UInt8} (h : Fam B w0 w (ts ++ L)) (hb : Below w.heap.size w w') (ho : OwnB w' w.heap.size v l) : Fam B w0 w' (ts ++ (L ++ [rowT v l])) := by
  rw [← List.append_assoc]; exact h.row hb ho
theorem Fam.storeL (h : Fam B w0 w (ts ++ L)) (k : Nat) {g : Nat} {t : TypeId} {cs : Array Value} (hk : L[k]? = some (blkT g (.cells cs t (0, 0)))) (j : Nat) (v : Value) : Fam B w0 (w.setCell ⟨g, j, none⟩ v) (ts ++ L.set k (blkT g (.cells (cs.setIfInBounds j v) t (0, 0)))) := by
  have := h.store (i := ts.length + k) (j := j) (by rw [get_at]; exact hk) v
  rw [set_at] at this
  exact this
theorem Fam.rowSetL (h : Fam B w0 w (ts ++ L)) (k : Nat) {g n c : Nat} {l : List UInt8} (hk : L[k]? = some (rowT (.slice (some ⟨g, 0, none⟩) n c) l)) (j : Nat) (b : UInt8) : Fam B w0 (w.setCell ⟨g, j, none⟩ (_root_.Go.Proofs.YtahpkknbejgnkaaDoor.B b)) (ts ++ L.set k (rowT (.slice (some ⟨g, 0, none⟩) n c) (l.set j b))) := by
  have := h.rowSet (i := ts.length + k) (by rw [get_at]; exact hk) j b
  rw [set_at] at this
  exact this
theorem Fam.rowAtL (h : Fam B w0 w (ts ++ L)) (k : Nat) {v : Value} {l : List UInt8} (hk : L[k]? = some (rowT v l)) : OwnB w 0 v l :=
  h.rowAt (i := ts.length + k) (by rw [get_at]; exact hk)
end
/-- the step's word, as it lies -/
def opT (g : Nat) (o : Nop) (v : Value) : Thing := blkT g (.cells (o.cells v) 49 (0, 0))
def pkT (g : Nat) (p : Pkt) (v : Value) : Thing := blkT g (.cells #[.int .i64 p.fk, .int .i64 p.fi, .int .i64 p.tk, .int .i64 p.ti, v, .bool p.lost] 32 (0, 0))
set_option maxRecDepth 100000 in
set_option maxHeartbeats 8000000 in
theorem plays_0 (B : Nat) (w0 w : World) (ts : List Thing) (i j a b : Nat) (P : List Pkt) (h : Fam B w0 w ts) (hF : FtAt w0) (hB : 0 < B) (hij : i ≠ j) (hi : ts[i]? = some (netT a P)) (hj : ts[j]? = some (refT b P)) (hs : Small6 P) (hP : P.length ≤ 1099511627776) (o : Nop) (dv : Value) (hv : SlB w0 dv o.p.data) (hw0 : B = w0.heap.size) (hd : o.p.data.length ≤ 1048576) (hk : o.kind = 0) :
    Calls Tryd.prog 16 #[.pointer (some ⟨a, 0, none⟩), .pointer (some ⟨b, 0, none⟩), o.val dv] w fun e w' => e = .returned (.bool true) ∧ Stp B w0 ts i j a b (P.length + 1) w' := by
  subst hw0
  obtain ⟨Av, cv, rfl⟩ := hv.form
  have H := hid h
  have HI := hid hi
  have HJ := hid hj
  have HIJ := hid hij
  have HFT := hid hF
  have HS := hid hs
  have hil := (List.getElem?_eq_some_iff.1 hi).1
  have hjl := (List.getElem?_eq_some_iff.1 hj).1
  obtain ⟨p, hp⟩ : ∃ p, o.p = p := ⟨_, rfl⟩
  rw [hp] at hv hd ⊢
  have HP := hid hp
  have HO := hid hk
  obtain ⟨fk, fi, tk, ti, l, lost⟩ := p
  have HV : Hid (SlB w0 (.slice Av l.length cv) l) := hid hv
  simp only at hd
  have HVAL : Hid (o.val (.slice Av l.length cv) = .agg #[.int .i64 0, .int .i64 o.net, .int .i64 fk, .int .i64 fi, .int .i64 tk, .int .i64 ti, .slice Av l.length cv, .bool lost, .int .i64 o.i, .int .i64 o.n, W32 o.pat]) := hid (by unfold Nop.val Nop.cells; rw [hk, hp])
  show Calls _ _ #[_, _, o.val (.slice Av l.length cv)] _ _
  rw [HVAL.out]
  clear h hi hj hij hF hs hv hp hk
  go_enter Tryd.func16, Tryd.ntmps16
  go_upto_region 1 with (fail)
  obtain ⟨g, hg⟩ : ∃ g, w.heap.size = g := ⟨_, rfl⟩
  refine Code.seen (fun W => Fam w0.heap.size w0 W (ts ++ [opT g o (.slice Av l.length cv)])) ?_ fun w1 H1 => ?_
  · rw [← hg]
    have := H.out.new (.cells (o.cells (.slice Av l.length cv)) 49 (0, 0))
    have e := HVAL.out
    unfold Nop.val at e
    injection e with e
    rw [e] at this
    unfold opT
    rw [e]
    exact this
  rw [hg]
  clear hg
  have HOP : Hid (∀ W M L, Fam w0.heap.size w0 W (M ++ L) → L[0]? = some (opT g o (.slice Av l.length cv)) → W.cell? ⟨g, 0, none⟩ = some (.int .i64 0) ∧ W.cell? ⟨g, 2, none⟩ = some (.int .i64 fk) ∧ W.cell? ⟨g, 3, none⟩ = some (.int .i64 fi) ∧ W.cell? ⟨g, 4, none⟩ = some (.int .i64 tk) ∧ W.cell? ⟨g, 5, none⟩ = some (.int .i64 ti) ∧ W.cell? ⟨g, 6, none⟩ = some (.slice Av l.length cv) ∧ W.cell? ⟨g, 7, none⟩ = some (.bool lost)) := by
    refine hid fun W M L hF hL => ?_
    obtain ⟨c0, c1, c2, c3, c4, c5, c6, c7, c8, c9, c10⟩ := nop_at (o := o) (v := .slice Av l.length cv) (hF.blkL 0 hL)
    rw [HP.out] at c2 c3 c4 c5 c7
    rw [HO.out] at c0
    exact ⟨c0, c2, c3, c4, c5, c6, c7⟩
  obtain ⟨c0, c2, c3, c4, c5, c6, c7⟩ := HOP.out w1 _ _ H1.out rfl
  go_wp2_with fail
  refine (rSend_fam H1.out HS.out hP (get_app HJ.out) ⟨fk, fi, tk, ti, l, lost⟩ (.slice Av l.length cv) (HV.out.below H1.out.base)).mono ?_
  rintro e w2 ⟨rfl, h2⟩
  rw [set_app _ _ _ _ hjl] at h2
  have H2 := hid h2
  obtain ⟨P', hP'⟩ : ∃ P', pSend P ⟨fk, fi, tk, ti, l, lost⟩ = P' := ⟨_, rfl⟩
  rw [hP'] at H2
  have HP' := hid hP'
  have HSM : Hid (Small6 P') := hid (hP' ▸ pSend_small HS.out _)
  have HLN : Hid (P'.length ≤ P.length + 1) := hid (hP' ▸ (len_le P 0 0 0 _).2.2.2.2.2)
  generalize hse : sendE ⟨fk, fi, tk, ti, l, lost⟩ = se
  have HSE := hid hse
  clear h2 hse hP' c0 c2 c3 c4 c5 c6 c7
  obtain ⟨c0, c2, c3, c4, c5, c6, c7⟩ := HOP.out w2 _ _ H2.out rfl
  go_upto_region 5 with (fail)
  obtain ⟨g8, hg8⟩ : ∃ g8, w2.heap.size = g8 := ⟨_, rfl⟩
  refine Code.seen (fun W => Fam w0.heap.size w0 W (ts.set j (refT b P') ++ [opT g o (.slice Av l.length cv), pkT g8 ⟨fk, fi, tk, ti, l, lost⟩ (.slice Av l.length cv)])) ?_ fun w3 H3 => ?_
  · have := H2.out.newL (.cells #[.int .i64 fk, .int .i64 fi, .int .i64 tk, .int .i64 ti, .slice Av l.length cv, .bool lost] 32 (0, 0))
    rw [hg8] at this
    exact this
  rw [hg8]
  clear hg8 c0 c2 c3 c4 c5 c6 c7
  obtain ⟨c0, c2, c3, c4, c5, c6, c7⟩ := HOP.out w3 _ _ H3.out rfl
  go_wp2_with fail
  refine (roomy_any (.slice Av l.length cv) l w3 (HV.out.below H3.out.base) (by omega)).mono ?_
  rintro e w4 ⟨gr, cr, rfl, ho4, hcr, hb4⟩
  have h4 := H3.out.rowL hb4 ho4
  have hbk := h4.blkL 1 rfl
  have x4 : w4.cell? ⟨g8, 4, none⟩ = some (.slice Av l.length cv) := by rw [blk_cell hbk]; rfl
  have f4 : w4.frozen? ⟨g8, 4, none⟩ = false := blk_frozen hbk _
  have h5 := h4.storeL 1 rfl 4 (.slice (some ⟨gr, 0, none⟩) l.length cr)
  have H5 : Hid (Fam w0.heap.size w0 (w4.setCell ⟨g8, 4, none⟩ (.slice (some ⟨gr, 0, none⟩) l.length cr)) (ts.set j (refT b P') ++ [opT g o (.slice Av l.length cv), pkT g8 ⟨fk, fi, tk, ti, l, lost⟩ (.slice (some ⟨gr, 0, none⟩) l.length cr), rowT (.slice (some ⟨gr, 0, none⟩) (l.length + 1) cr) (l ++ [90])])) := hid h5
  clear h4 hbk h5 ho4 hb4 c0 c2 c3 c4 c5 c6 c7
  go_upto_region 6 with (fail)
  clear x4 f4
  generalize w4.setCell ⟨g8, 4, none⟩ (.slice (some ⟨gr, 0, none⟩) l.length cr) = w5 at *
  obtain ⟨p0, p1, p2, p3, p4, p5⟩ := pk_at (H5.out.blkL 1 rfl)
  have HSL : Hid (∀ W M L, Fam w0.heap.size w0 W (M ++ L) → L[2]? = some (rowT (.slice (some ⟨gr, 0, none⟩) (l.length + 1) cr) (l ++ [90])) → SlB W (.slice (some ⟨gr, 0, none⟩) l.length cr) l) := hid fun W M L hF hL => by
    have h1 := (hF.rowAtL 2 hL).sl.take_ (n := l.length + 1) l.length (by simp) (by omega)
    rw [List.take_left] at h1
    exact h1
  go_wp2_with fail
  refine (Send_fam H5.out HS.out hP (get_app (get_set HI.out HIJ.out)) ⟨fk, fi, tk, ti, l, lost⟩ (.slice (some ⟨gr, 0, none⟩) l.length cr) (HSL.out w5 _ _ H5.out rfl)).mono ?_
  rintro e w6 ⟨rfl, h6⟩
  rw [set_app _ _ _ _ (by rw [List.length_set]; exact hil), HP'.out] at h6
  rw [HSE.out]
  have H6 := hid h6
  clear h6 p0 p1 p2 p3 p4 p5
  obtain ⟨c0, c2, c3, c4, c5, c6, c7⟩ := HOP.out w6 _ _ H6.out rfl
  obtain ⟨p0, p1, p2, p3, p4, p5⟩ := pk_at (H6.out.blkL 1 rfl)
  go_wp2_with fail
  refine (untouched_any gr cr 0 (.slice Av l.length cv) l w6 (H6.out.rowAtL 2 rfl) hcr (HV.out.below H6.out.base) (by omega)).mono ?_
  rintro e w' ⟨rfl, hw⟩
  replace hw := hw.symm
  subst hw
  have hse2 : (se == se) = true := by simp
  go_wp2
  clear c0 c2 c3 c4 c5 c6 c7 p0 p1 p2 p3 p4 p5
  go_loopw [43] (fun x wr => ∃ (k : Nat) (l' : List UInt8), k ≤ l.length ∧ x = .int .i64 k ∧ l'.length = l.length + 1 ∧ Fam w0.heap.size w0 wr ((ts.set j (refT b P')).set i (netT a P') ++ [opT g o (.slice Av l.length cv), pkT g8 ⟨fk, fi, tk, ti, l, lost⟩ (.slice (some ⟨gr, 0, none⟩) l.length cr), rowT (.slice (some ⟨gr, 0, none⟩) (l.length + 1) cr) l'])) (fun x _ => l.length - (intOf x).toNat)
  case atStart => exact ⟨0, l ++ [90], Nat.zero_le _, rfl, by simp, H6.out⟩
  case round =>
    obtain ⟨k, l', hk, rfl, hl', hF⟩ := hrel
    have HFm := hid hF
    have HL' := hid hl'
    clear hF
    by_cases hlt : k < l.length
    · obtain ⟨p0, p1, p2, p3, p4, p5⟩ := pk_at (HFm.out.blkL 1 rfl)
      have hrow := HFm.out.rowAtL 2 rfl
      obtain ⟨hc, hfr⟩ := hrow.at_ k (by omega)
      have i1 : (k : Int) < (l.length : Int) := by omega
      generalize l'.getD k 0 = b0 at *
      clear hrow hl'
      go_wp2
      go_roundw
      case rel => exact ⟨k + 1, l'.set k 238, by omega, by go_num, by rw [List.length_set]; exact HL'.out, HFm.out.rowSetL 2 rfl k 238⟩
      case measure => simp [intOf]; omega
    · have hge : l.length ≤ k := by omega
      clear hl'
      go_wp2
      go_ret
      refine ⟨by simp, P', HSM.out, HLN.out, ?_⟩
      rw [List.set_comm _ _ HIJ.out]
      exact HFm.out.back
end Go.Proofs.YtahpkknbejgnkaaDoor
