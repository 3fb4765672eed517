/- Things that have nothing to do with one another, each in blocks of its own. -/
import Derived.Test.YtkklonldplekcaaOwn
namespace Go.Proofs.Ytkklonldplekcaa
open Go.RowKit
/-- a thing in memory, in blocks of S -/
structure Thing where
  at_ : World → (Nat → Prop) → Prop
  fr : ∀ {X S S' : Nat → Prop} {w w' : World}, at_ w S → Fr X w w' → (∀ k, S k → ¬ X k) → (∀ k, S k → S' k) → (∀ k, S' k → k < w'.heap.size) → at_ w' S'
/-- a block with just these contents -/
def blkT (g : Nat) (o : Obj) : Thing := ⟨fun w S => w.heap[g]? = some o ∧ S g, fun h hf hx hs _ => ⟨blk_fr hf h.1 (hx _ h.2), hs _ h.2⟩⟩
/-- two things in the same blocks -/
def andT (s t : Thing) : Thing := ⟨fun w S => s.at_ w S ∧ t.at_ w S, fun h hf hx hs hl => ⟨s.fr h.1 hf hx hs hl, t.fr h.2 hf hx hs hl⟩⟩
/-- nothing -/
def noneT : Thing := ⟨fun _ _ => True, fun _ _ _ _ _ => trivial⟩
def New_ (w w' : World) (k : Nat) : Prop := w.heap.size ≤ k ∧ k < w'.heap.size
/-- these things, each in blocks of its own from B on; below B all is as in w0 -/
def Fam (B : Nat) (w0 w : World) (ts : List Thing) : Prop :=
  ∃ ρ : Nat → Nat, (∀ (i : Nat) (t : Thing), ts[i]? = some t → t.at_ w (fun k => ρ k = i + 1)) ∧ (∀ k, ρ k ≠ 0 → B ≤ k ∧ k < w.heap.size) ∧ Below B w0 w ∧ B ≤ w.heap.size
section
variable {B : Nat} {w0 w w' : World} {ts : List Thing}
theorem Fam.base (h : Fam B w0 w ts) : Below B w0 w := h.elim fun _ h => h.2.2.1
theorem Fam.size (h : Fam B w0 w ts) : B ≤ w.heap.size := h.elim fun _ h => h.2.2.2
theorem Fam.start (w : World) : Fam w.heap.size w w [] := ⟨fun _ => 0, fun i t h => by simp at h, fun k h => absurd rfl h, Below.refl _ _, Nat.le_refl _⟩
theorem Fam.below (h : Fam B w0 w ts) (hb : Below w.heap.size w w') : Fam B w0 w' ts := by
  obtain ⟨ρ, h1, h2, h3, h4⟩ := h
  refine ⟨ρ, fun i t ht => t.fr (h1 i t ht) (Fr.of_below hb) (fun _ _ h => h) (fun _ h => h) (fun k hk => ?_), fun k hk => ⟨(h2 k hk).1, Nat.lt_of_lt_of_le (h2 k hk).2 hb.size⟩, h3.trans (hb.mono h4), Nat.le_trans h4 hb.size⟩
  have := (h2 k (by omega)).2; have := hb.size; omega
/-- a call that turns one of them: new blocks are its own -/
theorem Fam.call (h : Fam B w0 w ts) {i : Nat} {t : Thing} (hi : ts[i]? = some t) : ∃ S : Nat → Prop, t.at_ w S ∧ (∀ k, S k → B ≤ k ∧ k < w.heap.size) ∧ ∀ (t' : Thing) (w' : World), t'.at_ w' (fun k => S k ∨ New_ w w' k) → Fr S w w' → Fam B w0 w' (ts.set i t') := by
  obtain ⟨ρ, h1, h2, h3, h4⟩ := h
  refine ⟨fun k => ρ k = i + 1, h1 i t hi, fun k hk => h2 k (by omega), fun t' w' ht' hf => ⟨fun k => if w.heap.size ≤ k ∧ k < w'.heap.size then i + 1 else ρ k, fun j u hu => ?_, fun k hk => ?_, h3.trans (hf.to_below (fun k hk e => by have := (h2 k (by omega)).1; omega) h4), Nat.le_trans h4 hf.size⟩⟩
  · by_cases hj : i = j
    · subst hj
      rw [List.getElem?_set_self (List.getElem?_eq_some_iff.1 hi).1] at hu
      injection hu with hu
      subst hu
      have e : (fun k => ρ k = i + 1 ∨ New_ w w' k) = (fun k => (if w.heap.size ≤ k ∧ k < w'.heap.size then i + 1 else ρ k) = i + 1) := by
        funext k
        apply propext
        by_cases hk : w.heap.size ≤ k ∧ k < w'.heap.size
        · rw [if_pos hk]; exact ⟨fun _ => rfl, fun _ => .inr hk⟩
        · rw [if_neg hk]; exact ⟨fun h => h.elim id fun h => absurd h hk, .inl⟩
      rw [← e]; exact ht'
    · rw [List.getElem?_set_ne hj] at hu
      have hold : ∀ k, ρ k = j + 1 → ¬ (w.heap.size ≤ k ∧ k < w'.heap.size) := fun k hk h => by have := (h2 k (by omega)).2; omega
      have e : (fun k => ρ k = j + 1) = (fun k => (if w.heap.size ≤ k ∧ k < w'.heap.size then i + 1 else ρ k) = j + 1) := by
        funext k
        apply propext
        by_cases hk : w.heap.size ≤ k ∧ k < w'.heap.size
        · rw [if_pos hk]; exact ⟨fun h => absurd hk (hold k h), fun h => by omega⟩
        · rw [if_neg hk]
      rw [← e]
      exact u.fr (h1 j u hu) hf (fun k hk e => by omega) (fun _ h => h) (fun k hk => by have := (h2 k (by omega)).2; have := hf.size; omega)
  · dsimp only at hk
    by_cases hn : w.heap.size ≤ k ∧ k < w'.heap.size
    · exact ⟨Nat.le_trans h4 hn.1, hn.2⟩
    · rw [if_neg hn] at hk
      exact ⟨(h2 k hk).1, by have := (h2 k hk).2; have := hf.size; omega⟩
/-- a new thing in new blocks -/
theorem Fam.add (h : Fam B w0 w ts) {t : Thing} (hb : Below w.heap.size w w') (ht : t.at_ w' (New_ w w')) : Fam B w0 w' (ts ++ [t]) := by
  have h' : Fam B w0 w (ts ++ [noneT]) := by
    obtain ⟨ρ, h1, h2, h3, h4⟩ := h
    refine ⟨fun k => if ρ k ≤ ts.length then ρ k else 0, fun i u hu => ?_, fun k hk => ?_, h3, h4⟩
    · by_cases hi : i < ts.length
      · rw [List.getElem?_append_left hi] at hu
        have e : (fun k => ρ k = i + 1) = (fun k => (if ρ k ≤ ts.length then ρ k else 0) = i + 1) := by
          funext k
          apply propext
          split
          · exact Iff.rfl
          · exact ⟨fun h => by omega, fun h => by omega⟩
        rw [← e]; exact h1 i u hu
      · rw [List.getElem?_append_right (by omega)] at hu
        have hz : i - ts.length = 0 := by
          have := (List.getElem?_eq_some_iff.1 hu).1
          simp at this; omega
        rw [hz] at hu
        injection hu with hu
        subst hu
        trivial
    · dsimp only at hk
      split at hk
      · exact h2 k hk
      · omega
  obtain ⟨S, _, hS, k⟩ := h'.call (i := ts.length) (t := noneT) (by simp)
  have := k t w' (t.fr ht (Fr.refl (fun _ => False) _) (fun _ _ h => h) (fun _ h => .inr h) (fun k hk => hk.elim (fun h => Nat.lt_of_lt_of_le (hS k h).2 hb.size) (fun h => h.2))) ((Fr.of_below hb).mono fun _ _ h => h.elim)
  simpa using this
/-- less is said of one -/
theorem Fam.weak (h : Fam B w0 w ts) {i : Nat} {t t' : Thing} (hi : ts[i]? = some t) (ht : ∀ S, t.at_ w S → t'.at_ w S) : Fam B w0 w (ts.set i t') := by
  obtain ⟨S, hS, hSB, k⟩ := h.call hi
  exact k t' w (t'.fr (ht S hS) (Fr.refl (fun _ => False) _) (fun _ _ h => h) (fun _ h => .inl h) (fun k hk => hk.elim (fun h => (hSB k h).2) (fun h => h.2))) (Fr.refl _ _)
/-- the last is let go -/
theorem Fam.drop {t : Thing} (h : Fam B w0 w (ts ++ [t])) : Fam B w0 w ts := by
  obtain ⟨ρ, h1, h2, h3, h4⟩ := h
  exact ⟨ρ, fun i u hu => h1 i u (by rw [List.getElem?_append_left (List.getElem?_eq_some_iff.1 hu).1]; exact hu), h2, h3, h4⟩
/-- the last takes the place of another -/
theorem Fam.move {t : Thing} (h : Fam B w0 w (ts ++ [t])) {i : Nat} (hi : i < ts.length) : Fam B w0 w (ts.set i t) := by
  obtain ⟨ρ, h1, h2, h3, h4⟩ := h
  refine ⟨fun k => if ρ k = ts.length + 1 then i + 1 else if ρ k = i + 1 then 0 else ρ k, fun j u hu => ?_, fun k hk => ?_, h3, h4⟩
  · by_cases hj : i = j
    · subst hj
      rw [List.getElem?_set_self hi] at hu
      injection hu with hu
      subst hu
      have := h1 ts.length t (by simp)
      have e : (fun k => ρ k = ts.length + 1) = (fun k => (if ρ k = ts.length + 1 then i + 1 else if ρ k = i + 1 then 0 else ρ k) = i + 1) := by
        funext k
        apply propext
        split
        · simp [*]
        · split <;> omega
      rw [← e]; exact this
    · rw [List.getElem?_set_ne hj] at hu
      have hjl := (List.getElem?_eq_some_iff.1 hu).1
      have := h1 j u (by rw [List.getElem?_append_left hjl]; exact hu)
      have e : (fun k => ρ k = j + 1) = (fun k => (if ρ k = ts.length + 1 then i + 1 else if ρ k = i + 1 then 0 else ρ k) = j + 1) := by
        funext k
        apply propext
        split
        · omega
        · split <;> omega
      rw [← e]; exact this
  · exact h2 k (fun e => hk (by dsimp only; rw [e, if_neg (by omega), if_neg (by omega)]))
theorem Fam.blk (h : Fam B w0 w ts) {i g : Nat} {o : Obj} (hi : ts[i]? = some (blkT g o)) : w.heap[g]? = some o ∧ B ≤ g := by
  obtain ⟨ρ, h1, h2, h3, h4⟩ := h
  have := h1 i _ hi
  exact ⟨this.1, (h2 g (by have := this.2; omega)).1⟩
/-- a store into a block -/
theorem Fam.store (h : Fam B w0 w ts) {i g j : Nat} {t : TypeId} {cs : Array Value} (hi : ts[i]? = some (blkT g (.cells cs t (0, 0)))) (v : Value) : Fam B w0 (w.setCell ⟨g, j, none⟩ v) (ts.set i (blkT g (.cells (cs.setIfInBounds j v) t (0, 0)))) := by
  obtain ⟨S, hS, _, k⟩ := h.call hi
  exact k _ _ ⟨blk_set hS.1 _ _, .inl hS.2⟩ ((Fr.set_ (g := g) j v).mono fun x _ e => e ▸ hS.2)
theorem Fam.new (h : Fam B w0 w ts) (o : Obj) : Fam B w0 (w.alloc o) (ts ++ [blkT w.heap.size o]) :=
  h.add ((Below.refl _ _).alloc (Nat.le_refl _) _) ⟨heap_alloc_new _ _, Nat.le_refl _, by simp⟩
end
end Go.Proofs.Ytkklonldplekcaa
