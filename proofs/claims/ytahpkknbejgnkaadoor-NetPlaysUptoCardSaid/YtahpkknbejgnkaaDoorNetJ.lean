/- Lists of datagrams as they lie. -/
import Derived.Test.YtahpkknbejgnkaaDoorNetI
namespace Go.Proofs.YtahpkknbejgnkaaDoor
open Go.RowKit
/-- a list of datagrams at v, all of it in blocks of T, its bytes in blocks of I -/
structure PV (w : World) (T I : Nat → Prop) (v : Value) (vs : List Value) (P : List Pkt) : Prop where
  len : vs.length = P.length
  row : w.ownsRow 0 32 6 v P.length (pktCells vs P)
  each : ∀ (i : Nat) (u : Value) (p : Pkt), vs[i]? = some u → P[i]? = some p → SlI w I u p.data
  it : ∀ k, I k → T k
  lt : ∀ k, T k → k < w.heap.size
  r : ∀ k, v.ownBlock = some k → T k ∧ ¬ I k
def PAt (w : World) (T : Nat → Prop) (v : Value) (P : List Pkt) : Prop := ∃ I vs, PV w T I v vs P
theorem PV.fr {X T T' I : Nat → Prop} {w w' : World} {v : Value} {vs : List Value} {P : List Pkt} (h : PV w T I v vs P) (hf : Fr X w w') (hx : ∀ k, T k → ¬ X k) (hs : ∀ k, T k → T' k) (hl : ∀ k, T' k → k < w'.heap.size) : PV w' T' I v vs P :=
  ⟨h.len, own_fr h.row hf (fun k hk => hx k (h.r k hk).1), fun i u p hu hp => (h.each i u p hu hp).fr hf (fun k hk => hx k (h.it k hk)) (fun _ h => h), fun k hk => hs k (h.it k hk), hl, fun k hk => ⟨hs k (h.r k hk).1, (h.r k hk).2⟩⟩
theorem PV.below {T I : Nat → Prop} {w w' : World} {v : Value} {vs : List Value} {P : List Pkt} (h : PV w T I v vs P) (hb : Below w.heap.size w w') : PV w' T I v vs P :=
  h.fr (Fr.of_below hb) (fun _ _ h => h) (fun _ h => h) (fun k hk => Nat.lt_of_lt_of_le (h.lt k hk) hb.size)
theorem PAt.fr {X T T' : Nat → Prop} {w w' : World} {v : Value} {P : List Pkt} (h : PAt w T v P) (hf : Fr X w w') (hx : ∀ k, T k → ¬ X k) (hs : ∀ k, T k → T' k) (hl : ∀ k, T' k → k < w'.heap.size) : PAt w' T' v P := by
  obtain ⟨I, vs, h⟩ := h
  exact ⟨I, vs, h.fr hf hx hs hl⟩
theorem PAt.below {T : Nat → Prop} {w w' : World} {v : Value} {P : List Pkt} (h : PAt w T v P) (hb : Below w.heap.size w w') : PAt w' T v P := by
  obtain ⟨I, vs, h⟩ := h
  exact ⟨I, vs, h.below hb⟩
theorem PAt.lt {T : Nat → Prop} {w : World} {v : Value} {P : List Pkt} (h : PAt w T v P) : ∀ k, T k → k < w.heap.size := by
  obtain ⟨I, vs, h⟩ := h
  exact h.lt
theorem PAt.form {T : Nat → Prop} {w : World} {v : Value} {P : List Pkt} (h : PAt w T v P) : ∃ A c, v = .slice A P.length c := by
  obtain ⟨I, vs, h⟩ := h
  exact own_form h.row
theorem PAt.nil (w : World) : PAt w (fun _ => False) (.slice none 0 0) [] :=
  ⟨fun _ => False, [], rfl, World.ownsRow_nil _ _ _ _, fun i u p hu hp => by simp at hu, fun _ h => h, fun _ h => h.elim, fun k hk => by cases hk⟩
/-- where a list that is not empty lies -/
theorem PV.lies {T I : Nat → Prop} {w : World} {v : Value} {vs : List Value} {P : List Pkt} (h : PV w T I v vs P) (h0 : 0 < P.length) : ∃ g cap, v = .slice (some ⟨g, 0, none⟩) P.length cap ∧ T g ∧ ¬ I g ∧ P.length ≤ cap ∧ g < w.heap.size ∧ ∀ j u, (pktCells vs P)[j]? = some u → w.cell? ⟨g, j, none⟩ = some u := by
  have hrow := h.row
  obtain ⟨hxl, ⟨_, h1⟩ | ⟨g, cap, cur, rfl, _, hg, hn, hm, hs, htake⟩⟩ := hrow
  · have := pktCells_length vs P h.len
    rw [h1] at this; simp at this; omega
  · obtain ⟨t1, t2⟩ := h.r g rfl
    refine ⟨g, cap, rfl, t1, t2, hn, blk_lt hg, fun j u hj => ?_⟩
    have hlt : j < P.length * 6 := by rw [← hxl]; exact (List.getElem?_eq_some_iff.1 hj).1
    rw [blk_cell hg, ← hj, ← htake, List.getElem?_take_of_lt hlt]
    simp
theorem PV.get {T I : Nat → Prop} {w : World} {g cap : Nat} {vs : List Value} {P : List Pkt} (h : PV w T I (.slice (some ⟨g, 0, none⟩) P.length cap) vs P) (i : Nat) (hi : i < P.length) :
    ∃ u, vs[i]? = some u ∧ SlI w I u P[i].data ∧ ∀ j v, (P[i].cells u)[j]? = some v → w.cell? ⟨g, i * 6 + j, none⟩ = some v := by
  have hv : vs[i]? = some (vs[i]'(by rw [h.len]; exact hi)) := List.getElem?_eq_getElem _
  refine ⟨_, hv, h.each i _ _ hv (List.getElem?_eq_getElem hi), fun j v hj => ?_⟩
  obtain ⟨g', cap', e, _, _, _, _, hc⟩ := h.lies (by omega)
  injection e with e1 e2 e3
  injection e1 with e1
  injection e1 with e1
  subst e1
  exact hc _ _ (pktCells_at vs P i j _ _ v h.len hv (List.getElem?_eq_getElem hi) hj)
theorem PV.one {T I : Nat → Prop} {w : World} {v : Value} {vs : List Value} {P : List Pkt} (h : PV w T I v vs P) : ∀ u ∈ pktCells vs P, u.oneCell' = true :=
  pk_one vs P fun i u p hu hp => by
    obtain ⟨A, c, rfl⟩ := (h.each i u p hu hp).sl.form
    rfl
/-- one more -/
theorem PV.more {T I J : Nat → Prop} {w w2 w3 w4 : World} {g cap : Nat} {v u : Value} {vs : List Value} {P : List Pkt} {p : Pkt} (h : PV w T I v vs P) (hb : Below w.heap.size w w2) (hu : SlI w2 J u p.data)
    (hJ : ∀ k, J k → I k ∨ (w.heap.size ≤ k ∧ k < w2.heap.size)) (hb3 : Below w2.heap.size w2 w3)
    (hown : w4.ownsRow 0 32 6 (.slice (some ⟨g, 0, none⟩) (P.length + 1) cap) (P.length + 1) (pktCells vs P ++ p.cells u)) (hg : w3.grownBy w4 v.ownBlock) (hat : v.ownBlock = some g ∨ w2.heap.size ≤ g) :
    PV w4 (fun k => T k ∨ Nw w w4 k) (fun k => I k ∨ J k) (.slice (some ⟨g, 0, none⟩) (P.length + 1) cap) (vs ++ [u]) (P ++ [p]) ∧ Fr (fun k => v.ownBlock = some k) w w4 := by
  have hf4 : Fr (fun k => v.ownBlock = some k) w3 w4 := Fr.of_grown hg
  have hb2 : Below w.heap.size w w3 := hb.trans (hb3.mono hb.size)
  have hfr : Fr (fun k => v.ownBlock = some k) w w4 := ((Fr.of_below hb2).mono fun _ _ h => h.elim).trans (hf4.mono fun k _ h => .inl h)
  have hgl := (World.ownsRow.lt hown g rfl).2
  have h4s : w2.heap.size ≤ w4.heap.size := Nat.le_trans hb3.size hf4.size
  refine ⟨⟨by simp [h.len], ?_, ?_, ?_, ?_, ?_⟩, hfr⟩
  · rw [List.length_append, pktCells_append _ _ _ _ h.len]
    have e : pktCells [u] [p] = p.cells u := by simp [pktCells]
    rw [e]
    exact hown
  · intro i x q hx hq
    by_cases hi : i < vs.length
    · rw [List.getElem?_append_left hi] at hx
      rw [List.getElem?_append_left (by rw [← h.len]; exact hi)] at hq
      exact (h.each i x q hx hq).fr hfr (fun k hk e => (h.r k e).2 hk) (fun k hk => .inl hk)
    · have hi2 : i = vs.length := by
        have := (List.getElem?_eq_some_iff.1 hx).1
        simp at this; omega
      subst hi2
      rw [List.getElem?_append_right (Nat.le_refl _), Nat.sub_self] at hx
      rw [List.getElem?_append_right (by rw [h.len]; exact Nat.le_refl _), h.len, Nat.sub_self] at hq
      injection hx with hx
      injection hq with hq
      subst hx hq
      refine (hu.fr (I' := J) (Fr.of_below hb3) (fun _ _ h => h) (fun _ h => h)).fr hf4 (fun k hk e => ?_) (fun k hk => .inr hk)
      rcases hJ k hk with h1 | h1
      · exact (h.r k e).2 h1
      · have := World.ownsRow.lt h.row k e; omega
  · rintro k (hk | hk)
    · exact .inl (h.it k hk)
    · rcases hJ k hk with h1 | h1
      · exact .inl (h.it k h1)
      · exact .inr ⟨h1.1, by omega⟩
  · rintro k (hk | hk)
    · have := h.lt k hk; have := hfr.size; omega
    · exact hk.2
  · intro k hk
    injection hk with hk
    have hk : g = k := hk
    subst hk
    have h1 : w.heap.size ≤ w2.heap.size := hb.size
    refine ⟨?_, ?_⟩
    · rcases hat with h2 | h2
      · exact .inl (h.r g h2).1
      · exact .inr ⟨by omega, hgl⟩
    · have hn : ∀ k, I k → ¬ k = g := fun x hx e => by
        rw [e] at hx
        rcases hat with h2 | h2
        · exact (h.r g h2).2 hx
        · have := h.lt g (h.it g hx); omega
      rintro (e | e)
      · exact hn g e rfl
      · rcases hJ g e with h3 | h3
        · exact hn g h3 rfl
        · rcases hat with h2 | h2
          · have := World.ownsRow.lt h.row g h2; omega
          · omega
/-- one less, in a row of its own -/
theorem PV.less {T I : Nat → Prop} {w w3 : World} {i : Nat} {v v' : Value} {vs : List Value} {P : List Pkt} (h : PV w T I v vs P) (hi : i < P.length) (hb : Below w.heap.size w w3)
    (hown : w3.ownsRow w.heap.size 32 6 v' (P.length - 1) ((pktCells vs P).take (i * 6) ++ (pktCells vs P).drop ((i + 1) * 6))) :
    PV w3 (fun k => T k ∨ Nw w w3 k) I v' (vs.eraseIdx i) (P.eraseIdx i) := by
  have hlen : (P.eraseIdx i).length = P.length - 1 := by rw [List.length_eraseIdx, if_pos hi]
  have hb' := h.below hb
  refine ⟨?_, ?_, ?_, fun k hk => .inl (h.it k hk), ?_, ?_⟩
  · rw [List.length_eraseIdx, List.length_eraseIdx, h.len]
  · rw [hlen, pktCells_erase _ _ _ h.len]
    exact own_base hown (Nat.zero_le _)
  · intro j u q hu hq
    rw [List.getElem?_eraseIdx] at hu hq
    split at hu
    · rw [if_pos (by assumption)] at hq
      exact hb'.each j u q hu hq
    · rw [if_neg (by assumption)] at hq
      exact hb'.each _ u q hu hq
  · rintro k (hk | hk)
    · exact hb'.lt k hk
    · exact hk.2
  · intro k hk
    obtain ⟨hg1, hg2⟩ := World.ownsRow.lt hown k hk
    exact ⟨.inr ⟨hg1, hg2⟩, fun e => by have := h.lt k (h.it k e); omega⟩
end Go.Proofs.YtahpkknbejgnkaaDoor
