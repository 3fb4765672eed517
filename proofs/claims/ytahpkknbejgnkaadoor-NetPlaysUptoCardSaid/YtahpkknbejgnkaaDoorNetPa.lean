/- A datagram in a list is changed in its place. -/
import Derived.Test.YtahpkknbejgnkaaDoorNetR
import Derived.Test.YtahpkknbejgnkaaDoorNetTurn
namespace Go.Proofs.YtahpkknbejgnkaaDoor
open Go.RowKit
def Pkt.with_ (p : Pkt) (l : List UInt8) : Pkt := { p with data := l }
def Pkt.lose (p : Pkt) : Pkt := { p with lost := true }
theorem pktCells_set4 : ∀ (vs : List Value) (P : List Pkt) (i : Nat) (u : Value) (p : Pkt) (l : List UInt8), vs.length = P.length → P[i]? = some p → pktCells (vs.set i u) (P.set i (p.with_ l)) = (pktCells vs P).set (i * 6 + 4) u
  | [], [], i, u, p, l, _, h => by simp at h
  | v :: vs, q :: P, 0, u, p, l, _, h => by
    simp only [List.getElem?_cons_zero, Option.some.injEq] at h
    subst h
    rfl
  | v :: vs, q :: P, i + 1, u, p, l, hl, h => by
    have ih := pktCells_set4 vs P i u p l (by simpa using hl) (by simpa using h)
    rw [List.set_cons_succ, List.set_cons_succ, pktCells, pktCells, ih, show (i + 1) * 6 + 4 = i * 6 + 4 + (q.cells v).length by show _ = _ + 6; omega]
    rw [List.set_append, if_neg (by omega)]
    simp
theorem pktCells_set5 : ∀ (vs : List Value) (P : List Pkt) (i : Nat) (p : Pkt), vs.length = P.length → P[i]? = some p → pktCells vs (P.set i p.lose) = (pktCells vs P).set (i * 6 + 5) (.bool true)
  | [], [], i, p, _, h => by simp at h
  | v :: vs, q :: P, 0, p, _, h => by
    simp only [List.getElem?_cons_zero, Option.some.injEq] at h
    subst h
    rfl
  | v :: vs, q :: P, i + 1, p, hl, h => by
    have ih := pktCells_set5 vs P i p (by simpa using hl) (by simpa using h)
    rw [List.set_cons_succ, pktCells, pktCells, ih, show (i + 1) * 6 + 5 = i * 6 + 5 + (q.cells v).length by show _ = _ + 6; omega]
    rw [List.set_append, if_neg (by omega)]
    simp
/-- the bytes of one are others -/
theorem PV.data {T I J : Nat → Prop} {w w2 : World} {g cap i : Nat} {vs : List Value} {P : List Pkt} {p : Pkt} {u : Value} {l : List UInt8} (h : PV w T I (.slice (some ⟨g, 0, none⟩) P.length cap) vs P) (hp : P[i]? = some p) (hb : Below w.heap.size w w2) (hu : SlI w2 J u l)
    (hJ : ∀ k, J k → I k ∨ (w.heap.size ≤ k ∧ k < w2.heap.size)) :
    PV (w2.setCell ⟨g, i * 6 + 4, none⟩ u) (fun k => T k ∨ Nw w w2 k) (fun k => I k ∨ J k) (.slice (some ⟨g, 0, none⟩) P.length cap) (vs.set i u) (P.set i (p.with_ l)) := by
  have h2 := h.below hb
  have hset : Fr (fun k => k = g) w2 (w2.setCell ⟨g, i * 6 + 4, none⟩ u) := Fr.set_ _ _
  have hgI := (h.r g rfl).2
  have hgl := h.lt g (h.r g rfl).1
  have hJg : ∀ k, J k → ¬ k = g := fun k hk e => by
    subst e
    rcases hJ k hk with h1 | h1
    · exact hgI h1
    · omega
  have hst := (World.ownsRow.stored h2.row (i * 6 + 4) u).1
  refine ⟨by simp [h.len], ?_, ?_, ?_, ?_, ?_⟩
  · rw [List.length_set, pktCells_set4 vs P i u p l h.len hp]
    exact hst
  · intro j x q hx hq
    by_cases hij : i = j
    · subst hij
      have hil := (List.getElem?_eq_some_iff.1 hp).1
      rw [List.getElem?_set_self (by rw [h.len]; exact hil)] at hx
      rw [List.getElem?_set_self hil] at hq
      injection hx with hx
      injection hq with hq
      subst hx hq
      exact hu.fr hset hJg (fun k hk => .inr hk)
    · rw [List.getElem?_set_ne hij] at hx
      rw [List.getElem?_set_ne hij] at hq
      exact (h2.each j x q hx hq).fr hset (fun k hk e => hgI (e ▸ hk)) (fun k hk => .inl hk)
  · rintro k (hk | hk)
    · exact .inl (h.it k hk)
    · rcases hJ k hk with h1 | h1
      · exact .inl (h.it k h1)
      · exact .inr h1
  · rintro k (hk | hk)
    · have := h2.lt k hk; simpa using this
    · have := hk.2; simpa using this
  · intro k hk
    injection hk with hk
    have hk : g = k := hk
    subst hk
    exact ⟨.inl (h.r g rfl).1, fun e => e.elim hgI (fun e => hJg g e rfl)⟩
/-- one is lost -/
theorem PV.lose {T I : Nat → Prop} {w : World} {g cap i : Nat} {vs : List Value} {P : List Pkt} {p : Pkt} (h : PV w T I (.slice (some ⟨g, 0, none⟩) P.length cap) vs P) (hp : P[i]? = some p) :
    PV (w.setCell ⟨g, i * 6 + 5, none⟩ (.bool true)) T I (.slice (some ⟨g, 0, none⟩) P.length cap) vs (P.set i p.lose) := by
  have hset : Fr (fun k => k = g) w (w.setCell ⟨g, i * 6 + 5, none⟩ (.bool true)) := Fr.set_ _ _
  have hgI := (h.r g rfl).2
  have hst := (World.ownsRow.stored h.row (i * 6 + 5) (.bool true)).1
  refine ⟨by simp [h.len], ?_, ?_, h.it, fun k hk => by have := h.lt k hk; simpa using this, h.r⟩
  · rw [List.length_set, pktCells_set5 vs P i p h.len hp]
    exact hst
  · intro j x q hx hq
    by_cases hij : i = j
    · subst hij
      have hil := (List.getElem?_eq_some_iff.1 hp).1
      rw [List.getElem?_set_self hil] at hq
      injection hq with hq
      subst hq
      exact (h.each i x p hx hp).fr hset (fun k hk e => hgI (e ▸ hk)) (fun k hk => hk)
    · rw [List.getElem?_set_ne hij] at hq
      exact (h.each j x q hx hq).fr hset (fun k hk e => hgI (e ▸ hk)) (fun k hk => hk)
/-- a thing at block d that holds such a list: a network of the program's (type t) or the document's -/
structure HV (t : TypeId) (w : World) (S I : Nat → Prop) (d : Nat) (fv : Value) (vs : List Value) (P : List Pkt) : Prop where
  at_ : w.heap[d]? = some (.cells #[fv] t (0, 0))
  pv : PV w S I fv vs P
  sd : S d
  id : ¬ I d
  rd : ∀ k, fv.ownBlock = some k → k ≠ d
def HAt (t : TypeId) (w : World) (S : Nat → Prop) (d : Nat) (P : List Pkt) : Prop := ∃ I fv vs, HV t w S I d fv vs P
theorem NV.hv {w : World} {S I : Nat → Prop} {d : Nat} {fv : Value} {vs : List Value} {P : List Pkt} (h : NV w S I d fv vs P) : HV 57 w S I d fv vs P :=
  ⟨h.at_, ⟨h.len, h.row, h.each, h.is, h.lt, fun k hk => ⟨(h.r k hk).1, (h.r k hk).2.1⟩⟩, h.sd, h.id, fun k hk => (h.r k hk).2.2⟩
theorem HV.nv {w : World} {S I : Nat → Prop} {d : Nat} {fv : Value} {vs : List Value} {P : List Pkt} (h : HV 57 w S I d fv vs P) : NV w S I d fv vs P :=
  ⟨h.at_, h.pv.len, h.pv.row, h.pv.each, h.sd, h.id, h.pv.it, h.pv.lt, fun k hk => ⟨(h.pv.r k hk).1, (h.pv.r k hk).2, h.rd k hk⟩⟩
theorem NAt.iff {w : World} {S : Nat → Prop} {d : Nat} {P : List Pkt} : NAt w S d P ↔ HAt 57 w S d P :=
  ⟨fun ⟨I, fv, vs, h⟩ => ⟨I, fv, vs, h.hv⟩, fun ⟨I, fv, vs, h⟩ => ⟨I, fv, vs, h.nv⟩⟩
section
variable {t : TypeId}
theorem HV.fr {X S S' I : Nat → Prop} {w w' : World} {d : Nat} {fv : Value} {vs : List Value} {P : List Pkt} (h : HV t w S I d fv vs P) (hf : Fr X w w') (hx : ∀ k, S k → ¬ X k) (hs : ∀ k, S k → S' k) (hl : ∀ k, S' k → k < w'.heap.size) : HV t w' S' I d fv vs P :=
  ⟨blk_fr hf h.at_ (hx d h.sd), h.pv.fr hf hx hs hl, hs d h.sd, h.id, h.rd⟩
theorem HAt.fr {X S S' : Nat → Prop} {w w' : World} {d : Nat} {P : List Pkt} (h : HAt t w S d P) (hf : Fr X w w') (hx : ∀ k, S k → ¬ X k) (hs : ∀ k, S k → S' k) (hl : ∀ k, S' k → k < w'.heap.size) : HAt t w' S' d P := by
  obtain ⟨I, fv, vs, h⟩ := h
  exact ⟨I, fv, vs, h.fr hf hx hs hl⟩
theorem HAt.lt {S : Nat → Prop} {w : World} {d : Nat} {P : List Pkt} (h : HAt t w S d P) : ∀ k, S k → k < w.heap.size := by
  obtain ⟨I, fv, vs, h⟩ := h
  exact h.pv.lt
theorem HAt.sd {S : Nat → Prop} {w : World} {d : Nat} {P : List Pkt} (h : HAt t w S d P) : S d := by
  obtain ⟨I, fv, vs, h⟩ := h
  exact h.sd
theorem HAt.below {S : Nat → Prop} {w w' : World} {d : Nat} {P : List Pkt} (h : HAt t w S d P) (hb : Below w.heap.size w w') : HAt t w' S d P :=
  h.fr (Fr.of_below hb) (fun _ _ h => h) (fun _ h => h) (fun k hk => Nat.lt_of_lt_of_le (h.lt k hk) hb.size)
/-- behind a call: new blocks are its own -/
def Ht (t : TypeId) (w W : World) (S : Nat → Prop) (d : Nat) (P : List Pkt) : Prop := HAt t W (fun k => S k ∨ Nw w W k) d P ∧ Fr S w W
theorem Nt.iff {w W : World} {S : Nat → Prop} {d : Nat} {P : List Pkt} : Nt w W S d P ↔ Ht 57 w W S d P := by unfold Nt Ht; rw [NAt.iff]
theorem Ht.stay {w w1 : World} {S : Nat → Prop} {d : Nat} {P : List Pkt} (hb : Below w.heap.size w w1) (h : HAt t w S d P) : Ht t w w1 S d P :=
  ⟨(h.below hb).fr (Fr.refl (fun _ => False) _) (fun _ _ h => h) (fun _ hk => .inl hk) (fun k hk => hk.elim (fun g => (h.below hb).lt k g) (fun g => g.2)), (Fr.of_below hb).mono fun _ _ h => h.elim⟩
theorem Ht.then_ {w w1 w2 : World} {S : Nat → Prop} {d : Nat} {P : List Pkt} (h : Ht t w w1 S d P) (hb : Below w1.heap.size w1 w2) : Ht t w w2 S d P :=
  ⟨(h.1.below hb).fr (Fr.refl (fun _ => False) _) (fun _ _ h => h) (fun k hk => hk.imp id fun g => ⟨g.1, Nat.lt_of_lt_of_le g.2 hb.size⟩) (fun k hk => by
      rcases hk with hk | hk
      · exact (h.1.below hb).lt k (.inl hk)
      · exact hk.2), h.2.trans ((Fr.of_below hb).mono fun _ _ h => h.elim)⟩
/-- a list of its own is put in -/
theorem HV.put {S S3 I I' : Nat → Prop} {w w3 : World} {d : Nat} {fv fv' : Value} {vs vs' : List Value} {P P' : List Pkt} (h : HV t w S I d fv vs P) (hf : Fr (fun k => S k ∧ k ≠ d) w w3) (h' : PV w3 S3 I' fv' vs' P') (hS : ∀ k, S3 k → S k ∨ Nw w w3 k) (hI : ¬ I' d) (hr : ∀ k, fv'.ownBlock = some k → k ≠ d) :
    Ht t w (w3.setCell ⟨d, 0, none⟩ fv') S d P' := by
  have hdl := h.pv.lt d h.sd
  have hd3 := blk_fr hf h.at_ (fun e => e.2 rfl)
  have hset : Fr (fun k => k = d) w3 (w3.setCell ⟨d, 0, none⟩ fv') := Fr.set_ _ _
  refine ⟨⟨I', fv', vs', ?_, ?_, .inl h.sd, hI, hr⟩, (hf.mono fun k _ hk => hk.1).trans (hset.mono fun k _ e => .inl (e ▸ h.sd))⟩
  · rw [blk_set hd3]; rfl
  · refine ⟨h'.len, own_fr h'.row hset (fun k hk => hr k hk), fun i u p hu hp => (h'.each i u p hu hp).fr hset (fun k hk e => hI (e ▸ hk)) (fun _ h => h), fun k hk => ?_, fun k hk => ?_, fun k hk => ⟨?_, (h'.r k hk).2⟩⟩
    · rcases hS k (h'.it k hk) with h1 | h1
      · exact .inl h1
      · exact .inr ⟨h1.1, by simpa using h1.2⟩
    · rcases hk with hk | hk
      · have := h.pv.lt k hk; have := hf.size; simp; omega
      · exact hk.2
    · rcases hS k (h'.r k hk).1 with h1 | h1
      · exact .inl h1
      · exact .inr ⟨h1.1, by simpa using h1.2⟩
/-- its list is changed in its place -/
theorem HV.turn {S S3 I I' : Nat → Prop} {w w3 : World} {d : Nat} {fv : Value} {vs vs' : List Value} {P P' : List Pkt} (h : HV t w S I d fv vs P) (hf : Fr (fun k => S k ∧ k ≠ d) w w3) (h' : PV w3 S3 I' fv vs' P') (hS : ∀ k, S3 k → S k ∨ Nw w w3 k) (hI : ¬ I' d) :
    Ht t w w3 S d P' := by
  refine ⟨⟨I', fv, vs', blk_fr hf h.at_ (fun e => e.2 rfl), ?_, .inl h.sd, hI, h.rd⟩, hf.mono fun k _ hk => hk.1⟩
  refine ⟨h'.len, h'.row, h'.each, fun k hk => hS k (h'.it k hk), fun k hk => ?_, fun k hk => ⟨hS k (h'.r k hk).1, (h'.r k hk).2⟩⟩
  rcases hk with hk | hk
  · have := h.pv.lt k hk; have := hf.size; omega
  · exact hk.2
end
end Go.Proofs.YtahpkknbejgnkaaDoor
