/- A network as it lies; Len, Send. -/
import Derived.Test.YtahpkknbejgnkaaDoorNetS
import Derived.Deep.AppendLies
import Derived.Handy
import Derived.Deep.RegionHeld
namespace Go.Proofs.YtahpkknbejgnkaaDoor
open Go.RowKit
theorem sl_fr0 {X : Nat → Prop} {w w1 : World} {v : Value} {l : List UInt8} (h : SlB w v l) (hf : Fr X w w1) (hx : 0 < l.length → ∀ k, v.ownBlock = some k → ¬ X k) : SlB w1 v l := by
  obtain ⟨A, c, rfl, h1, h2, h3⟩ := h
  refine ⟨A, c, rfl, h1, h2, fun h0 => ?_⟩
  obtain ⟨b, off, rfl, hc⟩ := h3 h0
  refine ⟨b, off, rfl, fun i hi => ?_⟩
  have hb := World.block_lt_of_cell? w _ (hc i hi)
  rw [World.cell?_of_block (w := w) (w' := w1) (a := ⟨b, off + i, none⟩) (hf.block b hb (hx h0 b rfl)), hc i hi]
theorem own_fr {X : Nat → Prop} {w w' : World} {base e s n : Nat} {v : Value} {xs : List Value} (h : w.ownsRow base e s v n xs) (hf : Fr X w w') (hx : ∀ k, v.ownBlock = some k → ¬ X k) : w'.ownsRow base e s v n xs :=
  own_block h fun k hk => hf.block k (World.ownsRow.lt h k hk).2 (hx k hk)
theorem own_form {w : World} {base e s n : Nat} {v : Value} {xs : List Value} (h : w.ownsRow base e s v n xs) : ∃ A c, v = .slice A n c := by
  obtain ⟨_, ⟨rfl, rfl⟩ | ⟨g, cap, cur, rfl, _⟩⟩ := h
  · exact ⟨none, 0, rfl⟩
  · exact ⟨_, cap, rfl⟩
/-- bytes that are read in blocks of I -/
structure SlI (w : World) (I : Nat → Prop) (v : Value) (l : List UInt8) : Prop where
  sl : SlB w v l
  i : 0 < l.length → ∀ k, v.ownBlock = some k → I k
theorem SlI.fr {X I I' : Nat → Prop} {w w' : World} {v : Value} {l : List UInt8} (h : SlI w I v l) (hf : Fr X w w') (hx : ∀ k, I k → ¬ X k) (hi : ∀ k, I k → I' k) : SlI w' I' v l :=
  ⟨sl_fr0 h.sl hf fun h0 k hk => hx k (h.i h0 k hk), fun h0 k hk => hi k (h.i h0 k hk)⟩
/-- a network at block d: its row, its bytes in blocks of I, all of it in blocks of S -/
structure NV (w : World) (S I : Nat → Prop) (d : Nat) (fv : Value) (vs : List Value) (P : List Pkt) : Prop where
  at_ : w.heap[d]? = some (.cells #[fv] 57 (0, 0))
  len : vs.length = P.length
  row : w.ownsRow 0 32 6 fv P.length (pktCells vs P)
  each : ∀ (i : Nat) (u : Value) (p : Pkt), vs[i]? = some u → P[i]? = some p → SlI w I u p.data
  sd : S d
  id : ¬ I d
  is : ∀ k, I k → S k
  lt : ∀ k, S k → k < w.heap.size
  r : ∀ k, fv.ownBlock = some k → S k ∧ ¬ I k ∧ k ≠ d
def NAt (w : World) (S : Nat → Prop) (d : Nat) (P : List Pkt) : Prop := ∃ I fv vs, NV w S I d fv vs P
def Nw (w w' : World) (k : Nat) : Prop := w.heap.size ≤ k ∧ k < w'.heap.size
theorem NV.fr {X S S' I : Nat → Prop} {w w' : World} {d : Nat} {fv : Value} {vs : List Value} {P : List Pkt} (h : NV w S I d fv vs P) (hf : Fr X w w') (hx : ∀ k, S k → ¬ X k) (hs : ∀ k, S k → S' k) (hl : ∀ k, S' k → k < w'.heap.size) : NV w' S' I d fv vs P :=
  ⟨blk_fr hf h.at_ (hx d h.sd), h.len, own_fr h.row hf (fun k hk => hx k (h.r k hk).1), fun i u p hu hp => (h.each i u p hu hp).fr hf (fun k hk => hx k (h.is k hk)) (fun _ h => h), hs d h.sd, h.id, fun k hk => hs k (h.is k hk), hl, fun k hk => ⟨hs k (h.r k hk).1, (h.r k hk).2⟩⟩
theorem NAt.fr {X S S' : Nat → Prop} {w w' : World} {d : Nat} {P : List Pkt} (h : NAt w S d P) (hf : Fr X w w') (hx : ∀ k, S k → ¬ X k) (hs : ∀ k, S k → S' k) (hl : ∀ k, S' k → k < w'.heap.size) : NAt w' S' d P := by
  obtain ⟨I, fv, vs, h⟩ := h
  exact ⟨I, fv, vs, h.fr hf hx hs hl⟩
theorem NAt.lt {S : Nat → Prop} {w : World} {d : Nat} {P : List Pkt} (h : NAt w S d P) : ∀ k, S k → k < w.heap.size := by
  obtain ⟨I, fv, vs, h⟩ := h
  exact h.lt
theorem NAt.sd {S : Nat → Prop} {w : World} {d : Nat} {P : List Pkt} (h : NAt w S d P) : S d := by
  obtain ⟨I, fv, vs, h⟩ := h
  exact h.sd
theorem NAt.below {S : Nat → Prop} {w w' : World} {d : Nat} {P : List Pkt} (h : NAt w S d P) (hb : Below w.heap.size w w') : NAt w' S d P :=
  h.fr (Fr.of_below hb) (fun _ _ h => h) (fun _ h => h) (fun k hk => Nat.lt_of_lt_of_le (h.lt k hk) hb.size)
/-- a network behind a call: new blocks are its own -/
def Nt (w W : World) (S : Nat → Prop) (d : Nat) (P : List Pkt) : Prop := NAt W (fun k => S k ∨ Nw w W k) d P ∧ Fr S w W
theorem Nt.stay {w w1 : World} {S : Nat → Prop} {d : Nat} {P : List Pkt} (hb : Below w.heap.size w w1) (h : NAt w S d P) : Nt w w1 S d P :=
  ⟨(h.below hb).fr (Fr.refl (fun _ => False) _) (fun _ _ h => h) (fun _ hk => .inl hk) (fun k hk => hk.elim (fun g => (h.below hb).lt k g) (fun g => g.2)), (Fr.of_below hb).mono fun _ _ h => h.elim⟩
set_option maxHeartbeats 1000000 in
theorem Len_any (w : World) (S : Nat → Prop) (d : Nat) (P : List Pkt) (h : NAt w S d P) : Calls Tryd.prog 10 #[.pointer (some ⟨d, 0, none⟩)] w fun e w' => e = .returned (.int .i64 (P.length : Int)) ∧ w' = w := by
  obtain ⟨I, fv, vs, h⟩ := h
  obtain ⟨A, c, rfl⟩ := own_form h.row
  have c0 : w.cell? ⟨d, 0, none⟩ = some (.slice A P.length c) := by rw [blk_cell h.at_]; rfl
  clear h
  go_enter Tryd.func10, Tryd.ntmps10
  go_wp2
  go_ret
  exact ⟨rfl, rfl⟩
theorem Len_nil (w : World) : Calls Tryd.prog 10 #[.pointer none] w fun e w' => e = .returned (.int .i64 0) ∧ w' = w := by
  go_enter Tryd.func10, Tryd.ntmps10
  go_wp2
  go_ret
  exact ⟨rfl, rfl⟩
/-- one datagram more -/
theorem NV.more {S I : Nat → Prop} {w w2 w3 w4 : World} {d g cap : Nat} {fv u : Value} {vs : List Value} {P : List Pkt} {p : Pkt} (h : NV w S I d fv vs P) (hb : Below w.heap.size w w2) (hu : OwnB w2 w.heap.size u p.data) (hb3 : Below w2.heap.size w2 w3)
    (hown : w4.ownsRow 0 32 6 (.slice (some ⟨g, 0, none⟩) (P.length + 1) cap) (P.length + 1) (pktCells vs P ++ p.cells u)) (hg : w3.grownBy w4 fv.ownBlock) (hat : fv.ownBlock = some g ∨ w2.heap.size ≤ g) :
    Nt w (w4.setCell ⟨d, 0, none⟩ (.slice (some ⟨g, 0, none⟩) (P.length + 1) cap)) S d (P ++ [p]) := by
  have hf4 : Fr (fun k => fv.ownBlock = some k) w3 w4 := Fr.of_grown hg
  have hb2 : Below w.heap.size w w3 := hb.trans (hb3.mono hb.size)
  have hfr : Fr (fun k => fv.ownBlock = some k) w w4 := ((Fr.of_below hb2).mono fun _ _ h => h.elim).trans (hf4.mono fun k _ h => .inl h)
  have hgl := (World.ownsRow.lt hown g rfl).2
  have hsz : (w4.setCell ⟨d, 0, none⟩ (.slice (some ⟨g, 0, none⟩) (P.length + 1) cap)).heap.size = w4.heap.size := by simp
  have hgd : g ≠ d := by
    rcases hat with h1 | h1
    · exact (h.r g h1).2.2
    · have := h.lt d h.sd; have := hb.size; omega
  have hfs : Fr S w (w4.setCell ⟨d, 0, none⟩ (.slice (some ⟨g, 0, none⟩) (P.length + 1) cap)) :=
    (hfr.mono fun k _ hk => (h.r k hk).1).trans ((Fr.set_ (g := d) 0 _).mono fun k _ e => .inl (e ▸ h.sd))
  have hd4 := blk_fr hfr h.at_ (fun e => (h.r d e).2.2 rfl)
  refine ⟨⟨fun k => I k ∨ (u.ownBlock = some k ∧ w.heap.size ≤ k), .slice (some ⟨g, 0, none⟩) (P.length + 1) cap, vs ++ [u], ?_⟩, hfs⟩
  have hul : ∀ k, u.ownBlock = some k → w.heap.size ≤ k ∧ k < w2.heap.size := fun k hk => World.ownsRow.lt hu k hk
  have hset : Fr (fun k => k = d) w4 (w4.setCell ⟨d, 0, none⟩ (.slice (some ⟨g, 0, none⟩) (P.length + 1) cap)) := Fr.set_ (g := d) 0 _
  have h4s : w2.heap.size ≤ w4.heap.size := Nat.le_trans hb3.size hf4.size
  constructor
  · rw [blk_set hd4]; rfl
  · simp [h.len]
  · rw [List.length_append, pktCells_append _ _ _ _ h.len]
    have e : pktCells [u] [p] = p.cells u := by simp [pktCells]
    rw [e]
    exact own_fr hown hset (fun k hk e => by injection hk with hk; have hk : g = k := hk; omega)
  · intro i v q hv hq
    have hfs2 : Fr (fun k => fv.ownBlock = some k ∨ k = d) w (w4.setCell ⟨d, 0, none⟩ (.slice (some ⟨g, 0, none⟩) (P.length + 1) cap)) :=
      (hfr.mono fun k _ h => .inl h).trans (hset.mono fun k _ e => .inl (.inr e))
    by_cases hi : i < vs.length
    · rw [List.getElem?_append_left hi] at hv
      rw [List.getElem?_append_left (by rw [← h.len]; exact hi)] at hq
      exact (h.each i v q hv hq).fr hfs2 (fun k hk e => e.elim (fun e => (h.r k e).2.1 hk) (fun e => h.id (e ▸ hk))) (fun k hk => .inl hk)
    · have hi2 : i = vs.length := by
        have := (List.getElem?_eq_some_iff.1 hv).1
        simp at this; omega
      subst hi2
      rw [List.getElem?_append_right (Nat.le_refl _), Nat.sub_self] at hv
      rw [List.getElem?_append_right (by rw [h.len]; exact Nat.le_refl _), h.len, Nat.sub_self] at hq
      injection hv with hv
      injection hq with hq
      subst hv hq
      have hu3 := (hu.below hb3).fr hf4 (fun k hk e => by have := hul k hk; have := World.ownsRow.lt h.row k e; omega)
      have hu4 := hu3.fr hset (fun k hk e => by have := hul k hk; have := h.lt d h.sd; omega)
      exact ⟨hu4.sl, fun _ k hk => .inr ⟨hk, (hul k hk).1⟩⟩
  · exact .inl h.sd
  · rintro (e | ⟨_, e⟩)
    · exact h.id e
    · have := h.lt d h.sd; omega
  · rintro k (hk | ⟨hk, _⟩)
    · exact .inl (h.is k hk)
    · have := hul k hk
      exact .inr ⟨this.1, by rw [hsz]; omega⟩
  · rintro k (hk | hk)
    · have := h.lt k hk; have := hb.size; rw [hsz]; omega
    · exact hk.2
  · intro k hk
    injection hk with hk
    have hk : g = k := hk
    subst hk
    have h1 : w.heap.size ≤ w2.heap.size := hb.size
    refine ⟨?_, ?_, hgd⟩
    · rcases hat with h2 | h2
      · exact .inl (h.r g h2).1
      · exact .inr ⟨by omega, by rw [hsz]; exact hgl⟩
    · rintro (e | ⟨e, _⟩)
      · rcases hat with h2 | h2
        · exact (h.r g h2).2.1 e
        · have := h.lt g (h.is g e); omega
      · have := hul g e
        rcases hat with h2 | h2
        · have := World.ownsRow.lt h.row g h2; omega
        · omega
theorem drew_below (w : World) : Below w.heap.size w w.drew := (Below.refl _ _).drew
theorem infoK : (Tryd.prog.info? 32).map (fun i => (i.zero, i.size, i.bytes)) = some (some (.agg #[.int .i64 0, .int .i64 0, .int .i64 0, .int .i64 0, .slice none 0 0, .bool false]), 6, 64) := by kernel_rfl
theorem copied_at (fk fi tk ti : Int) (l : List UInt8) (lost : Bool) (v : Value) (w : World) (h : SlB w v l) (hl : l.length ≤ 140737488355328) :
    Calls Tryd.prog 24 #[.agg #[.int .i64 fk, .int .i64 fi, .int .i64 tk, .int .i64 ti, v, .bool lost]] w fun e w' => ∃ u, e = .returned (.agg #[.int .i64 fk, .int .i64 fi, .int .i64 tk, .int .i64 ti, u, .bool lost]) ∧ OwnB w' w.heap.size u l ∧ Below w.heap.size w w' :=
  copied_any ⟨fk, fi, tk, ti, l, lost⟩ v w h hl
def PkAt (W : World) (g : Nat) (fk fi tk ti : Int) (v : Value) (lost : Bool) : Prop :=
  W.cell? ⟨g, 0, none⟩ = some (.int .i64 fk) ∧ W.cell? ⟨g, 1, none⟩ = some (.int .i64 fi) ∧ W.cell? ⟨g, 2, none⟩ = some (.int .i64 tk) ∧ W.cell? ⟨g, 3, none⟩ = some (.int .i64 ti) ∧ W.cell? ⟨g, 4, none⟩ = some v ∧ W.cell? ⟨g, 5, none⟩ = some (.bool lost)
theorem pk_at {W : World} {g : Nat} {fk fi tk ti : Int} {v : Value} {lost : Bool} {t : TypeId} (h : W.heap[g]? = some (.cells #[.int .i64 fk, .int .i64 fi, .int .i64 tk, .int .i64 ti, v, .bool lost] t (0, 0))) : PkAt W g fk fi tk ti v lost :=
  ⟨by rw [blk_cell h]; rfl, by rw [blk_cell h]; rfl, by rw [blk_cell h]; rfl, by rw [blk_cell h]; rfl, by rw [blk_cell h]; rfl, by rw [blk_cell h]; rfl⟩
def sendE (p : Pkt) : Int := if okNode p.fk p.fi = false ∨ okNode p.tk p.ti = false then 51 else if 66000 < p.data.length then 2 else 0
set_option maxRecDepth 100000 in
set_option maxHeartbeats 4000000 in
theorem Send_ok (w : World) (S : Nat → Prop) (d : Nat) (P : List Pkt) (p : Pkt) (v : Value) (h : NAt w S d P) (hv : SlB w v p.data) (h1 : okNode p.fk p.fi = true) (h2 : okNode p.tk p.ti = true) (h3 : p.data.length ≤ 66000) (hP : P.length ≤ 1099511627776) :
    Calls Tryd.prog 22 #[.pointer (some ⟨d, 0, none⟩), p.val v] w fun e w' => e = .returned (.int .i64 0) ∧ Nt w w' S d (P ++ [p]) := by
  obtain ⟨I, fv, vs, hN⟩ := h
  obtain ⟨Af, cf, rfl⟩ := own_form hN.row
  have c0 : w.cell? ⟨d, 0, none⟩ = some (.slice Af P.length cf) := by rw [blk_cell hN.at_]; rfl
  obtain ⟨fk, fi, tk, ti, l, lost⟩ := p
  have HV := hid hv
  have HN := hid hN
  have H1 := hid h1
  have H2 := hid h2
  obtain ⟨A, c, rfl⟩ := hv.form
  unfold Pkt.val
  simp only at h3 ⊢
  clear hv hN h1 h2
  go_enter Tryd.func22, Tryd.ntmps22
  go_upto_region 1 with (fail)
  refine Code.seen (fun W => W.heap[w.heap.size]? = some (.cells #[.int .i64 fk, .int .i64 fi, .int .i64 tk, .int .i64 ti, .slice A l.length c, .bool lost] 32 (0, 0)) ∧ Below w.heap.size w W) ⟨heap_alloc_new _ _, (Below.refl _ _).alloc (Nat.le_refl _) _⟩ fun w1 Z1 => ?_
  have HK : Hid (∀ W, Below w1.heap.size w1 W → PkAt W w.heap.size fk fi tk ti (.slice A l.length c) lost) := hid fun W hb => pk_at (blk_keep hb Z1.out.1 (blk_lt Z1.out.1))
  have HD : Hid (∀ W, Below w1.heap.size w1 W → W.cell? ⟨d, 0, none⟩ = some (.slice Af P.length cf)) := hid fun W hb => by
    rw [blk_cell (blk_keep hb (blk_keep Z1.out.2 HN.out.at_ (blk_lt HN.out.at_)) (Nat.lt_of_lt_of_le (blk_lt HN.out.at_) Z1.out.2.size))]; rfl
  have HB1 := hid Z1.out.2
  have HZ := hid (blk_lt Z1.out.1)
  clear c0 Z1
  obtain ⟨x0, x1, -, -, -, -⟩ := HK.out w1 (Below.refl _ _)
  go_wp2_with fail
  refine (isNode_any fk fi w1).mono ?_
  rw [show okNode fk fi = true from H1.out]
  rintro e w2 ⟨rfl, hb2⟩
  have HB2 := hid hb2
  clear x0 x1 hb2
  obtain ⟨-, -, x2, x3, -, -⟩ := HK.out w2 HB2.out
  go_wp2_with fail
  refine (isNode_any tk ti w2).mono ?_
  rw [show okNode tk ti = true from H2.out]
  rintro e w3 ⟨rfl, hb3⟩
  have HB3 := hid (below_then HB2.out hb3)
  clear x2 x3 hb3 HB2
  obtain ⟨x0, x1, x2, x3, x4, x5⟩ := HK.out w3 HB3.out
  have cd := HD.out w3 HB3.out
  go_wp2
  obtain ⟨i0, hi0, hz0, hz1, hz2⟩ := info_parts infoK
  have HBW := hid (below_then HB1.out HB3.out)
  have hal : (P.length + 1) * 64 ≤ 140737488355328 := by omega
  have hdl : d < w.heap.size := HN.out.lt d HN.out.sd
  have hbne : ∀ k, (Value.slice Af P.length cf).ownBlock = some k → ¬ k = d := fun k hk => (HN.out.r k hk).2.2
  have hs3 : w.heap.size ≤ w3.heap.size := HBW.out.size
  go_region_law (first
    | (go_simp; go_at_call 24; go_loud (refine (copied_at fk fi tk ti l lost _ _ ((HV.out.below HBW.out).drew) (by omega)).mono ?_; rintro e w4 ⟨u, rfl, hu, hb4⟩; obtain ⟨Au, cu, rfl⟩ := hu.form; have HU := hid hu; have HBD := hid (below_then (drew_below w3) hb4); have HB4 := hid (below_then HBW.out HBD.out); have cd4 : w4.cell? ⟨d, 0, none⟩ = some (.slice Af P.length cf) := blk_cell (blk_keep HB4.out HN.out.at_ hdl) 0; have hs4 := HB4.out.size; have cda : ∀ o, (w4.alloc o).cell? ⟨d, 0, none⟩ = some (.slice Af P.length cf) := fun o => (((Below.refl w4.heap.size w4).alloc (Nat.le_refl _) o).cell (p := ⟨d, 0, none⟩) (show d < w4.heap.size by omega)).trans cd4; have HOX := hid (own_fr HN.out.row (Fr.of_below HB4.out) (fun _ _ h => h)); clear hu hb4))
    | (refine step_append_lies _ (by rfl) (.tmp 28) (.tmp 31) 25 (by rfl) 0 32 i0 _ 6 64 Tryd.underlying25 hi0 hz0 hz1 hz2 rfl (by omega) (.slice Af P.length cf) P.length (pktCells vs P) (by rfl) (HOX.out.alloc _) ⟨w4.heap.size, 0, none⟩ 1 1 [.int .i64 fk, .int .i64 fi, .int .i64 tk, .int .i64 ti, .slice Au l.length cu, .bool lost] (by rfl) (by rfl) (World.news_of_block (cs := #[.int .i64 fk, .int .i64 fi, .int .i64 tk, .int .i64 ti, .slice Au l.length cu, .bool lost]) (t := 32) (fr := (0, 0)) (heap_alloc_new w4 _)) (by simp [Value.oneCell']) (by omega) (by unfold maxLen; omega) hal (Nat.zero_le _) (w4.heap.size + 1) (by simp) ?_; intro g cap w5 hown5 hgrow hat hlt5; have f5 : w5.frozen? ⟨d, 0, none⟩ = false := (hgrow.frozen_far ⟨d, 0, none⟩ (show d < (w4.alloc _).heap.size by simp; omega) (fun e => hbne d e.symm rfl)).trans (((Below.refl w4.heap.size w4).alloc (Nat.le_refl _) _).frozen (p := ⟨d, 0, none⟩) (show d < w4.heap.size by omega) |>.trans (blk_frozen (blk_keep HB4.out HN.out.at_ hdl) _)); have c5 : w5.cell? ⟨d, 0, none⟩ = some (.slice Af P.length cf) := (hgrow.cell_far ⟨d, 0, none⟩ (show d < (w4.alloc _).heap.size by simp; omega) (fun e => hbne d e.symm rfl)).trans ((((Below.refl w4.heap.size w4).alloc (Nat.le_refl _) _).cell (p := ⟨d, 0, none⟩) (show d < w4.heap.size by omega)).trans cd4)))
  all_goals
    go_wp2
    go_ret
    refine ⟨rfl, ?_⟩
    exact NV.more (p := ⟨fk, fi, tk, ti, l, lost⟩) HN.out HB4.out (own_base HU.out hs3) ((Below.refl _ _).alloc (Nat.le_refl _) _) hown5 hgrow (hat.imp id (fun e => by omega))
end Go.Proofs.YtahpkknbejgnkaaDoor
