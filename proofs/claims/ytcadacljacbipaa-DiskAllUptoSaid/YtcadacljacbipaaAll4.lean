/- A disk, when one of its slots has done a loose act. -/
import Derived.Test.YtcadacljacbipaaAll3
namespace Go.Proofs.Ytcadacljacbipaa
open Go.RowKit
theorem DV.done0 {w W : World} {S I I' T : Nat → Prop} {d : Nat} {l0 n0 a0 l1 n1 a1 nv' av' : Value} {D : Dk} {a : DAct} (h : DV w S I d l0 n0 a0 l1 n1 a1 D) (hd : DoneAt w W I' d 0 (dkCells l0 n0 a0 l1 n1 a1 D) a0 nv' av' D.s0.acts a (a.on D.s0.now))
    (hI : ∀ k, I k → I' k) (hT : ∀ k, I' k → I k ∨ T k) (hTS : ∀ k, T k → ¬ S k ∧ k < w.heap.size) : DAt W (fun k => S k ∨ T k ∨ Nw w W k) d (D.setSlot 0 (D.s0.do a)) ∧ Fr S w W := by
  have hX : ∀ k, I k → ¬ (k = d ∨ a0.ownBlock = some k) := fun k hk => by
    rintro (rfl | e)
    · exact h.id hk
    · exact (h.r0 k e).2.1 hk
  have hdl := h.lt d h.sd
  have hsz := hd.fr.size
  refine ⟨⟨fun k => I' k ∨ nv'.ownBlock = some k, l0, nv', av', l1, n1, a1, ?_⟩, hd.fr.mono fun k _ hk => hk.elim (fun e => e ▸ h.sd) (fun e => (h.r0 k e).1)⟩
  exact
    { at_ := hd.at_
      s0 := ⟨(h.s0.lasts.fr hd.fr hX (fun k hk => .inl (hI k hk))), ⟨by show SlB W nv' (D.s0.do a).now; rw [Dslot.now_do]; exact hd.now.sl, fun _ k hk => .inr hk⟩, hd.acts.fr (Fr.refl (fun _ => False) W) (fun _ _ h => h) (fun k hk => .inl hk) (fun _ _ h => h)⟩
      s1 := h.s1.fr hd.fr hX (fun k hk => .inl (hI k hk)) (fun k hk e => e.elim (h.r1 k hk).2.2 (fun e => h.rr k e hk))
      cur := h.cur
      sd := .inl h.sd
      id := by
        rintro (g | g)
        · rcases hT d g with g | g
          · exact h.id g
          · exact (hTS d g).1 h.sd
        · have := (World.ownsRow.lt hd.now d g).1; omega
      is := fun k hk => by
        rcases hk with g | g
        · rcases hT k g with g | g
          · exact .inl (h.is k g)
          · exact .inr (.inl g)
        · exact .inr (.inr (World.ownsRow.lt hd.now k g))
      lt := fun k hk => by
        rcases hk with g | g | g
        · have := h.lt k g; omega
        · have := (hTS k g).2; omega
        · exact g.2
      r0 := fun k hk => by
        rcases hd.rb k hk with e | e
        · refine ⟨.inl (h.r0 k e).1, ?_, (h.r0 k e).2.2⟩
          rintro (g | g)
          · rcases hT k g with g | g
            · exact (h.r0 k e).2.1 g
            · exact (hTS k g).1 (h.r0 k e).1
          · exact hd.ne k hk g
        · refine ⟨.inr (.inr ⟨e, hd.acts.lt k hk⟩), ?_, by omega⟩
          rintro (g | g)
          · rcases hT k g with g | g
            · have := h.lt k (h.is k g); omega
            · have := (hTS k g).2; omega
          · exact hd.ne k hk g
      r1 := fun k hk => by
        refine ⟨.inl (h.r1 k hk).1, ?_, (h.r1 k hk).2.2⟩
        rintro (g | g)
        · rcases hT k g with g | g
          · exact (h.r1 k hk).2.1 g
          · exact (hTS k g).1 (h.r1 k hk).1
        · have h1 := (World.ownsRow.lt hd.now k g).1
          have h2 := h.lt k (h.r1 k hk).1
          omega
      rr := fun k hk e => by
        rcases hd.rb k hk with g | g
        · exact h.rr k g e
        · have := h.lt k (h.r1 k e).1; omega }
theorem DV.done1 {w W : World} {S I I' T : Nat → Prop} {d : Nat} {l0 n0 a0 l1 n1 a1 nv' av' : Value} {D : Dk} {a : DAct} (h : DV w S I d l0 n0 a0 l1 n1 a1 D) (hd : DoneAt w W I' d 3 (dkCells l0 n0 a0 l1 n1 a1 D) a1 nv' av' D.s1.acts a (a.on D.s1.now))
    (hI : ∀ k, I k → I' k) (hT : ∀ k, I' k → I k ∨ T k) (hTS : ∀ k, T k → ¬ S k ∧ k < w.heap.size) : DAt W (fun k => S k ∨ T k ∨ Nw w W k) d (D.setSlot 1 (D.s1.do a)) ∧ Fr S w W := by
  have hX : ∀ k, I k → ¬ (k = d ∨ a1.ownBlock = some k) := fun k hk => by
    rintro (rfl | e)
    · exact h.id hk
    · exact (h.r1 k e).2.1 hk
  have hdl := h.lt d h.sd
  have hsz := hd.fr.size
  refine ⟨⟨fun k => I' k ∨ nv'.ownBlock = some k, l0, n0, a0, l1, nv', av', ?_⟩, hd.fr.mono fun k _ hk => hk.elim (fun e => e ▸ h.sd) (fun e => (h.r1 k e).1)⟩
  exact
    { at_ := hd.at_
      s0 := h.s0.fr hd.fr hX (fun k hk => .inl (hI k hk)) (fun k hk e => e.elim (h.r0 k hk).2.2 (fun e => h.rr k hk e))
      s1 := ⟨(h.s1.lasts.fr hd.fr hX (fun k hk => .inl (hI k hk))), ⟨by show SlB W nv' (D.s1.do a).now; rw [Dslot.now_do]; exact hd.now.sl, fun _ k hk => .inr hk⟩, hd.acts.fr (Fr.refl (fun _ => False) W) (fun _ _ h => h) (fun k hk => .inl hk) (fun _ _ h => h)⟩
      cur := h.cur
      sd := .inl h.sd
      id := by
        rintro (g | g)
        · rcases hT d g with g | g
          · exact h.id g
          · exact (hTS d g).1 h.sd
        · have := (World.ownsRow.lt hd.now d g).1; omega
      is := fun k hk => by
        rcases hk with g | g
        · rcases hT k g with g | g
          · exact .inl (h.is k g)
          · exact .inr (.inl g)
        · exact .inr (.inr (World.ownsRow.lt hd.now k g))
      lt := fun k hk => by
        rcases hk with g | g | g
        · have := h.lt k g; omega
        · have := (hTS k g).2; omega
        · exact g.2
      r0 := fun k hk => by
        refine ⟨.inl (h.r0 k hk).1, ?_, (h.r0 k hk).2.2⟩
        rintro (g | g)
        · rcases hT k g with g | g
          · exact (h.r0 k hk).2.1 g
          · exact (hTS k g).1 (h.r0 k hk).1
        · have h1 := (World.ownsRow.lt hd.now k g).1
          have h2 := h.lt k (h.r0 k hk).1
          omega
      r1 := fun k hk => by
        rcases hd.rb k hk with e | e
        · refine ⟨.inl (h.r1 k e).1, ?_, (h.r1 k e).2.2⟩
          rintro (g | g)
          · rcases hT k g with g | g
            · exact (h.r1 k e).2.1 g
            · exact (hTS k g).1 (h.r1 k e).1
          · exact hd.ne k hk g
        · refine ⟨.inr (.inr ⟨e, hd.acts.lt k hk⟩), ?_, by omega⟩
          rintro (g | g)
          · rcases hT k g with g | g
            · have := h.lt k (h.is k g); omega
            · have := (hTS k g).2; omega
          · exact hd.ne k hk g
      rr := fun k e hk => by
        rcases hd.rb k hk with g | g
        · exact h.rr k e g
        · have := h.lt k (h.r0 k e).1; omega }
end Go.Proofs.Ytcadacljacbipaa
