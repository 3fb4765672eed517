/- Things of the law's own beside a family; a thing that comes of another. -/
import Derived.Test.YtkklonldplekcaaFam
namespace Go.Proofs.Ytkklonldplekcaa
open Go.RowKit
theorem sl_fr0 {X : Nat → Prop} {w w1 : World} {v : Value} {l : List UInt8} (h : SlB w v l) (hf : Fr X w w1) (hx : 0 < l.length → ∀ k, v.ownBlock = some k → ¬ X k) : SlB w1 v l := by
  obtain ⟨A, c, rfl, h1, h2, h3⟩ := h
  refine ⟨A, c, rfl, h1, h2, fun h0 => ?_⟩
  obtain ⟨b, off, rfl, hc⟩ := h3 h0
  refine ⟨b, off, rfl, fun i hi => ?_⟩
  have hb := World.block_lt_of_cell? w _ (hc i hi)
  rw [World.cell?_of_block (w := w) (w' := w1) (a := ⟨b, off + i, none⟩) (hf.block b hb (hx h0 b rfl)), hc i hi]
theorem sl_lt {w : World} {v : Value} {l : List UInt8} (h : SlB w v l) (h0 : 0 < l.length) : ∀ k, v.ownBlock = some k → k < w.heap.size := by
  intro k hk
  obtain ⟨A, c, rfl, h1, h2, h3⟩ := h
  obtain ⟨b, off, rfl, hc⟩ := h3 h0
  have hb := World.block_lt_of_cell? w _ (hc 0 h0)
  injection hk with hk
  have hk : b = k := hk
  subst hk
  exact hb
theorem own_fr {X : Nat → Prop} {w w' : World} {base e s n : Nat} {v : Value} {xs : List Value} (h : w.ownsRow base e s v n xs) (hf : Fr X w w') (hx : ∀ k, v.ownBlock = some k → ¬ X k) : w'.ownsRow base e s v n xs :=
  own_block h fun k hk => hf.block k (World.ownsRow.lt h k hk).2 (hx k hk)
theorem set_app {α : Type} (ts L : List α) (t : α) (i : Nat) (hi : i < ts.length) : (ts ++ L).set i t = ts.set i t ++ L := by rw [List.set_append_left _ _ hi]
theorem get_app {α : Type} {ts L : List α} {i : Nat} {t : α} (h : ts[i]? = some t) : (ts ++ L)[i]? = some t := by rw [List.getElem?_append_left (List.getElem?_eq_some_iff.1 h).1]; exact h
theorem get_at {α : Type} (ts L : List α) (k : Nat) : (ts ++ L)[ts.length + k]? = L[k]? := by rw [List.getElem?_append_right (by omega)]; congr 1; omega
theorem set_at {α : Type} (ts L : List α) (t : α) (k : Nat) : (ts ++ L).set (ts.length + k) t = ts ++ L.set k t := by rw [List.set_append_right _ _ (by omega)]; congr 2; omega
theorem get_set {α : Type} {ts : List α} {i j : Nat} {t u : α} (h : ts[i]? = some t) (hij : i ≠ j) : (ts.set j u)[i]? = some t := by rw [List.getElem?_set_ne (Ne.symm hij)]; exact h
theorem get_self {α : Type} {ts : List α} {i : Nat} {u : α} (h : i < ts.length) : (ts.set i u)[i]? = some u := List.getElem?_set_self h
/-- bytes of the law's own -/
def rowT (v : Value) (l : List UInt8) : Thing := ⟨fun w S => OwnB w 0 v l ∧ ∀ k, v.ownBlock = some k → S k, fun h hf hx hs _ => ⟨h.1.fr hf (fun k hk => hx k (h.2 k hk)), fun k hk => hs k (h.2 k hk)⟩⟩
/-- a row of anything -/
def ownT (e : TypeId) (s : Nat) (v : Value) (n : Nat) (xs : List Value) : Thing := ⟨fun w S => w.ownsRow 0 e s v n xs ∧ ∀ k, v.ownBlock = some k → S k, fun h hf hx hs _ => ⟨own_fr h.1 hf (fun k hk => hx k (h.2 k hk)), fun k hk => hs k (h.2 k hk)⟩⟩
section
variable {B : Nat} {w0 w w' : World} {ts L : List Thing}
/-- the local things are let go -/
theorem Fam.back (h : Fam B w0 w (ts ++ L)) : Fam B w0 w ts := by
  obtain ⟨ρ, h1, h2, h3, h4⟩ := h
  exact ⟨ρ, fun i u hu => h1 i u (get_app hu), h2, h3, h4⟩
theorem Fam.blkL (h : Fam B w0 w (ts ++ L)) (k : Nat) {g : Nat} {o : Obj} (hk : L[k]? = some (blkT g o)) : w.heap[g]? = some o :=
  (h.blk (i := ts.length + k) (by rw [get_at]; exact hk)).1
theorem Fam.newL (h : Fam B w0 w (ts ++ L)) (o : Obj) : Fam B w0 (w.alloc o) (ts ++ (L ++ [blkT w.heap.size o])) := by
  rw [← List.append_assoc]; exact h.new o
theorem Fam.addL (h : Fam B w0 w (ts ++ L)) {t : Thing} (hb : Below w.heap.size w w') (ht : t.at_ w' (New_ w w')) : Fam B w0 w' (ts ++ (L ++ [t])) := by
  rw [← List.append_assoc]; exact h.add hb ht
theorem Fam.rowL {v : Value} {l : List UInt8} (h : Fam B w0 w (ts ++ L)) (hb : Below w.heap.size w w') (ho : OwnB w' w.heap.size v l) : Fam B w0 w' (ts ++ (L ++ [rowT v l])) :=
  h.addL hb ⟨own_base ho (Nat.zero_le _), fun k hk => World.ownsRow.lt ho k hk⟩
theorem Fam.rowAt {v : Value} {l : List UInt8} {i : Nat} (h : Fam B w0 w ts) (hi : ts[i]? = some (rowT v l)) : OwnB w 0 v l := by
  obtain ⟨S, hS, _⟩ := h.call hi
  exact hS.1
theorem Fam.rowAtL (h : Fam B w0 w (ts ++ L)) (k : Nat) {v : Value} {l : List UInt8} (hk : L[k]? = some (rowT v l)) : OwnB w 0 v l :=
  h.rowAt (i := ts.length + k) (by rw [get_at]; exact hk)
theorem Fam.own {e : TypeId} {s n : Nat} {v : Value} {xs : List Value} {i : Nat} (h : Fam B w0 w ts) (hi : ts[i]? = some (ownT e s v n xs)) : w.ownsRow 0 e s v n xs ∧ ∀ k, v.ownBlock = some k → B ≤ k ∧ k < w.heap.size := by
  obtain ⟨S, hS, hB, _⟩ := h.call hi
  exact ⟨hS.1, fun k hk => hB k (hS.2 k hk)⟩
/-- a row grows -/
theorem Fam.grow {e : TypeId} {s n m : Nat} {v v' : Value} {xs ys : List Value} {i : Nat} (h : Fam B w0 w ts) (hi : ts[i]? = some (ownT e s v n xs)) (ho : w'.ownsRow 0 e s v' m ys) (hg : w.grownBy w' v.ownBlock) (hn : ∀ k, v'.ownBlock = some k → v.ownBlock = some k ∨ w.heap.size ≤ k) : Fam B w0 w' (ts.set i (ownT e s v' m ys)) := by
  obtain ⟨S, hS, _, k⟩ := h.call hi
  refine k _ _ ⟨ho, fun j hj => ?_⟩ ((Fr.of_grown hg).mono fun j _ hj => hS.2 j hj)
  rcases hn j hj with h1 | h1
  · exact .inl (hS.2 j h1)
  · exact .inr ⟨h1, (World.ownsRow.lt ho j hj).2⟩
/-- a call leaves a new thing beside the one that it turns -/
theorem Fam.split (h : Fam B w0 w ts) {i : Nat} {t : Thing} (hi : ts[i]? = some t) : ∃ S : Nat → Prop, t.at_ w S ∧ (∀ k, S k → B ≤ k ∧ k < w.heap.size) ∧ (∀ (m : Nat) (u : Thing), m ≠ i → ts[m]? = some u → ∃ T : Nat → Prop, u.at_ w T ∧ ∀ k, T k → ¬ S k) ∧ ∀ (t' u : Thing) (w' : World), t'.at_ w' S → u.at_ w' (New_ w w') → Fr S w w' → Fam B w0 w' (ts.set i t' ++ [u]) := by
  obtain ⟨ρ, h1, h2, h3, h4⟩ := h
  have hil := (List.getElem?_eq_some_iff.1 hi).1
  refine ⟨fun k => ρ k = i + 1, h1 i t hi, fun k hk => h2 k (by omega), fun m u hm hu => ⟨fun k => ρ k = m + 1, h1 m u hu, fun k hk e => by omega⟩, fun t' u w' ht' hu hf => ⟨fun k => if w.heap.size ≤ k ∧ k < w'.heap.size then ts.length + 1 else if ρ k ≤ ts.length then ρ k else 0, fun j x hx => ?_, fun k hk => ?_, h3.trans (hf.to_below (fun k hk e => by have := (h2 k (by omega)).1; omega) h4), Nat.le_trans h4 hf.size⟩⟩
  · by_cases hj : j < ts.length
    · have e : (fun k => ρ k = j + 1) = (fun k => (if w.heap.size ≤ k ∧ k < w'.heap.size then ts.length + 1 else if ρ k ≤ ts.length then ρ k else 0) = j + 1) := by
        funext k
        apply propext
        by_cases hk : w.heap.size ≤ k ∧ k < w'.heap.size
        · rw [if_pos hk]
          exact ⟨fun h => by have := (h2 k (by omega)).2; omega, fun h => by omega⟩
        · rw [if_neg hk]
          split
          · exact Iff.rfl
          · exact ⟨fun h => by omega, fun h => by omega⟩
      rw [List.getElem?_append_left (by simpa using hj)] at hx
      rw [← e]
      by_cases hij : i = j
      · subst hij
        rw [List.getElem?_set_self hil] at hx
        injection hx with hx
        subst hx
        exact ht'
      · rw [List.getElem?_set_ne hij] at hx
        exact x.fr (h1 j x hx) hf (fun k hk e => by omega) (fun _ h => h) (fun k hk => by have := (h2 k (by omega)).2; have := hf.size; omega)
    · rw [List.getElem?_append_right (by simpa using hj)] at hx
      have hz : j - (ts.set i t').length = 0 := by
        have := (List.getElem?_eq_some_iff.1 hx).1
        simp at this ⊢; omega
      rw [hz] at hx
      injection hx with hx
      subst hx
      have hjl : j = ts.length := by simp at hz; omega
      subst hjl
      have e : New_ w w' = (fun k => (if w.heap.size ≤ k ∧ k < w'.heap.size then ts.length + 1 else if ρ k ≤ ts.length then ρ k else 0) = ts.length + 1) := by
        funext k
        apply propext
        by_cases hk : w.heap.size ≤ k ∧ k < w'.heap.size
        · rw [if_pos hk]; exact ⟨fun _ => rfl, fun _ => hk⟩
        · rw [if_neg hk]
          refine ⟨fun h => absurd h hk, fun h => ?_⟩
          split at h <;> omega
      rw [← e]
      exact hu
  · dsimp only at hk
    by_cases hn : w.heap.size ≤ k ∧ k < w'.heap.size
    · exact ⟨Nat.le_trans h4 hn.1, hn.2⟩
    · rw [if_neg hn] at hk
      split at hk
      · exact ⟨(h2 k hk).1, by have := (h2 k hk).2; have := hf.size; omega⟩
      · exact absurd rfl hk
/-- some of the things, each once, in any order -/
theorem Fam.pick (h : Fam B w0 w ts) (ts' : List Thing) (f : Nat → Nat) (hf : ∀ (i : Nat) (t : Thing), ts'[i]? = some t → ts[f i]? = some t) (hinj : ∀ i j, i < ts'.length → j < ts'.length → f i = f j → i = j) : Fam B w0 w ts' := by
  classical
  obtain ⟨ρ, h1, h2, h3, h4⟩ := h
  refine ⟨fun k => if h : ∃ i, i < ts'.length ∧ ρ k = f i + 1 then h.choose + 1 else 0, fun i t ht => ?_, fun k hk => ?_, h3, h4⟩
  · have hil := (List.getElem?_eq_some_iff.1 ht).1
    have e : (fun k => ρ k = f i + 1) = (fun k => (if h : ∃ i, i < ts'.length ∧ ρ k = f i + 1 then h.choose + 1 else 0) = i + 1) := by
      funext k
      apply propext
      refine ⟨fun hk => ?_, fun hk => ?_⟩
      · have hx : ∃ i, i < ts'.length ∧ ρ k = f i + 1 := ⟨i, hil, hk⟩
        rw [dif_pos hx]
        have := hinj _ _ hx.choose_spec.1 hil (by have := hx.choose_spec.2; omega)
        omega
      · by_cases hx : ∃ i, i < ts'.length ∧ ρ k = f i + 1
        · rw [dif_pos hx] at hk
          have := hx.choose_spec.2
          rw [show hx.choose = i by omega] at this
          exact this
        · rw [dif_neg hx] at hk; omega
    rw [← e]
    exact h1 (f i) t (hf i t ht)
  · dsimp only at hk
    by_cases hx : ∃ i, i < ts'.length ∧ ρ k = f i + 1
    · obtain ⟨i, _, hi⟩ := hx
      exact h2 k (by omega)
    · rw [dif_neg hx] at hk; exact absurd rfl hk
theorem Fam.mid {a b c : Thing} (h : Fam B w0 w (ts ++ [a, c, b])) : Fam B w0 w (ts ++ [a, b, c]) := by
  refine h.pick _ (fun i => if i = ts.length + 1 then ts.length + 2 else if i = ts.length + 2 then ts.length + 1 else i) (fun i t ht => ?_) (fun i j _ _ e => ?_)
  · by_cases hi : i < ts.length
    · rw [if_neg (by omega), if_neg (by omega)]
      rw [List.getElem?_append_left hi] at ht ⊢
      exact ht
    · obtain ⟨k, rfl⟩ : ∃ k, i = ts.length + k := ⟨i - ts.length, by omega⟩
      rw [get_at] at ht
      have hk := (List.getElem?_eq_some_iff.1 ht).1
      simp only [List.length_cons, List.length_nil] at hk
      obtain rfl | rfl | rfl : k = 0 ∨ k = 1 ∨ k = 2 := by omega
      · rw [if_neg (by omega), if_neg (by omega), get_at]; exact ht
      · rw [if_pos rfl, get_at]; exact ht
      · rw [if_neg (by omega), if_pos rfl, get_at]; exact ht
  · split at e <;> split at e <;> (try split at e) <;> (try split at e) <;> omega
theorem Fam.rot {a b c : Thing} (h : Fam B w0 w (ts ++ [c, a, b])) : Fam B w0 w (ts ++ [a, b, c]) := by
  refine h.pick _ (fun i => if i < ts.length then i else if i = ts.length + 2 then ts.length else i + 1) (fun i t ht => ?_) (fun i j _ _ e => ?_)
  · by_cases hi : i < ts.length
    · rw [if_pos hi]
      rw [List.getElem?_append_left hi] at ht ⊢
      exact ht
    · obtain ⟨k, rfl⟩ : ∃ k, i = ts.length + k := ⟨i - ts.length, by omega⟩
      rw [get_at] at ht
      have hk := (List.getElem?_eq_some_iff.1 ht).1
      simp only [List.length_cons, List.length_nil] at hk
      obtain rfl | rfl | rfl : k = 0 ∨ k = 1 ∨ k = 2 := by omega
      · rw [if_neg (by omega), if_neg (by omega), Nat.add_assoc, get_at]; exact ht
      · rw [if_neg (by omega), if_neg (by omega), Nat.add_assoc, get_at]; exact ht
      · rw [if_neg (by omega), if_pos rfl, show ts.length = ts.length + 0 from rfl, get_at]; exact ht
  · split at e <;> split at e <;> (try split at e) <;> (try split at e) <;> omega
theorem Fam.midL {a b c : Thing} (h : Fam B w0 w (ts ++ (L ++ [a, c, b]))) : Fam B w0 w (ts ++ (L ++ [a, b, c])) := by
  rw [← List.append_assoc] at h ⊢
  exact h.mid
theorem Fam.rotL {a b c : Thing} (h : Fam B w0 w (ts ++ (L ++ [c, a, b]))) : Fam B w0 w (ts ++ (L ++ [a, b, c])) := by
  rw [← List.append_assoc] at h ⊢
  exact h.rot
theorem Fam.storeL (h : Fam B w0 w (ts ++ L)) (k : Nat) {g : Nat} {t : TypeId} {cs : Array Value} (hk : L[k]? = some (blkT g (.cells cs t (0, 0)))) (j : Nat) (v : Value) : Fam B w0 (w.setCell ⟨g, j, none⟩ v) (ts ++ L.set k (blkT g (.cells (cs.setIfInBounds j v) t (0, 0)))) := by
  have := h.store (i := ts.length + k) (j := j) (by rw [get_at]; exact hk) v
  rw [set_at] at this
  exact this
/-- those in the middle are let go -/
theorem Fam.tail {M : List Thing} (h : Fam B w0 w (ts ++ (L ++ M))) : Fam B w0 w (ts ++ M) := by
  refine h.pick _ (fun i => if i < ts.length then i else i + L.length) (fun i t ht => ?_) (fun i j _ _ e => ?_)
  · by_cases hi : i < ts.length
    · rw [if_pos hi]
      rw [List.getElem?_append_left hi] at ht ⊢
      exact ht
    · obtain ⟨k, rfl⟩ : ∃ k, i = ts.length + k := ⟨i - ts.length, by omega⟩
      rw [get_at] at ht
      rw [if_neg (by omega), Nat.add_assoc, get_at, Nat.add_comm k, get_at]
      exact ht
  · split at e <;> split at e <;> omega
theorem Fam.tail2 {M N : List Thing} (h : Fam B w0 w (ts ++ (L ++ (M ++ N)))) : Fam B w0 w (ts ++ M) := by
  have h2 := h.tail
  rw [← List.append_assoc] at h2
  exact h2.back
end
end Go.Proofs.Ytkklonldplekcaa
