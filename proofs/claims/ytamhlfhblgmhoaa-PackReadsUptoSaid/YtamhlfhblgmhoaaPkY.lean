/- The state of the laws over two writers (or readers) and the law's book. -/
import Derived.Test.YtamhlfhblgmhoaaBkH
import Derived.Test.YtamhlfhblgmhoaaPackSizesW
namespace Go.Proofs.Ytamhlfhblgmhoaa
open Go.RowKit
/-- what stands in blocks of the roles p and q only -/
def Stab (p q : Nat) (A : World → (Nat → Nat) → Prop) : Prop := ∀ (X : Nat → Prop) (W W' : World) (ρ ρ' : Nat → Nat), A W ρ → Fr X W W' → (∀ k, k < W.heap.size → X k → ρ k ≠ p ∧ ρ k ≠ q) → (∀ k, k < W.heap.size → ρ k = p ∨ ρ k = q → ρ' k = ρ k) → A W' ρ'
def AW (g : Nat) (e : Int) (l : List UInt8) (W : World) (ρ : Nat → Nat) : Prop := ∃ v, WAt W g e v l ∧ ρ g = 4 ∧ ∀ k, v.ownBlock = some k → ρ k = 5
def AV (g : Nat) (e : Int) (l : List UInt8) (W : World) (ρ : Nat → Nat) : Prop := ∃ v, VAt W g e v l ∧ ρ g = 6 ∧ ∀ k, v.ownBlock = some k → ρ k = 7
theorem AW.stab (g : Nat) (e : Int) (l : List UInt8) : Stab 4 5 (AW g e l) := by
  rintro X W W' ρ ρ' ⟨v, h, h1, h2⟩ hf hx hr
  exact ⟨v, h.fr hf (fun hh => (hx g (blk_lt h.at_) hh).1 h1) (fun k hk hh => (hx k (h.lt k hk) hh).2 (h2 k hk)), by rw [hr g (blk_lt h.at_) (.inl h1)]; exact h1, fun k hk => by rw [hr k (h.lt k hk) (.inr (h2 k hk))]; exact h2 k hk⟩
theorem AV.stab (g : Nat) (e : Int) (l : List UInt8) : Stab 6 7 (AV g e l) := by
  rintro X W W' ρ ρ' ⟨v, h, h1, h2⟩ hf hx hr
  exact ⟨v, h.fr hf (fun hh => (hx g (blk_lt h.at_) hh).1 h1) (fun k hk hh => (hx k (h.lt k hk) hh).2 (h2 k hk)), by rw [hr g (blk_lt h.at_) (.inl h1)]; exact h1, fun k hk => by rw [hr k (h.lt k hk) (.inr (h2 k hk))]; exact h2 k hk⟩
structure PW (K : Nat → Prop) (w0 W : World) (ρ : Nat → Nat) (gb : Nat) (lv mv : Value) (ls ms : List Value) (A B : World → (Nat → Nat) → Prop) : Prop where
  bk : Bk W ρ gb lv mv ls ms
  a : A W ρ
  b : B W ρ
  fr : Fr (fun k => ¬ K k) w0 W
  rk : ∀ k, K k → ρ k = 9 ∧ k < w0.heap.size
  rf : ∀ k, W.heap.size ≤ k → ρ k = 8
def PWs (K : Nat → Prop) (w0 W : World) (gb n : Nat) (A B : World → (Nat → Nat) → Prop) : Prop := ∃ ρ lv mv ls ms, PW K w0 W ρ gb lv mv ls ms A B ∧ ls.length = n
section
variable {K : Nat → Prop} {w0 W W' : World} {gb n : Nat} {A B : World → (Nat → Nat) → Prop}
theorem PWs.below (h : PWs K w0 W gb n A B) (sa : Stab 4 5 A) (sb : Stab 6 7 B) (hb : Below W.heap.size W W') : PWs K w0 W' gb n A B := by
  obtain ⟨ρ, lv, mv, ls, ms, h, hn⟩ := h
  have hf := Fr.of_below hb
  exact ⟨ρ, lv, mv, ls, ms, ⟨h.bk.fr hf (fun _ _ h => h.elim), sa _ _ _ _ _ h.a hf (fun _ _ h => h.elim) (fun _ _ _ => rfl), sb _ _ _ _ _ h.b hf (fun _ _ h => h.elim) (fun _ _ _ => rfl),
    h.fr.trans (hf.mono fun _ _ h => h.elim), h.rk, fun k hk => h.rf k (Nat.le_trans hb.size hk)⟩, hn⟩
theorem PWs.take (h : PWs K w0 W gb n A B) (sa : Stab 4 5 A) (sb : Stab 6 7 B) (hb : Below W.heap.size W W') (N : Nat → Prop) (hN : ∀ k, N k → W.heap.size ≤ k ∧ k < W'.heap.size) : PWs (fun k => K k ∨ N k) W' W' gb n A B := by
  obtain ⟨ρ, lv, mv, ls, ms, h, hn⟩ := h
  have hf := Fr.of_below hb
  classical
  have hlt : ∀ k, k < W.heap.size → (if N k then 9 else ρ k) = ρ k := fun k hk => by
    rw [if_neg]
    intro hh
    have := (hN k hh).1
    omega
  refine ⟨fun k => if N k then 9 else ρ k, lv, mv, ls, ms, ⟨(h.bk.role hlt).fr hf (fun _ _ h => h.elim), sa _ _ _ _ _ h.a hf (fun _ _ h => h.elim) (fun k hk _ => hlt k hk), sb _ _ _ _ _ h.b hf (fun _ _ h => h.elim) (fun k hk _ => hlt k hk),
    Fr.refl _ _, ?_, ?_⟩, hn⟩
  · rintro k (hk | hk)
    · have h1 := h.rk k hk
      have h2 := h.fr.size
      have h3 := hb.size
      exact ⟨by rw [hlt k (by omega)]; exact h1.1, by omega⟩
    · exact ⟨by rw [if_pos hk], (hN k hk).2⟩
  · intro k hk
    rw [if_neg]
    · exact h.rf k (Nat.le_trans hb.size hk)
    · intro hh
      have := (hN k hh).2
      omega
theorem PWs.drop {K1 : Nat → Prop} {w1 : World} (h : PWs K1 w1 W gb n A B) (hK : ∀ k, K k → K1 k) (hl : ∀ k, K k → k < w0.heap.size) (hf : Fr (fun k => ¬ K k) w0 w1) : PWs K w0 W gb n A B := by
  obtain ⟨ρ, lv, mv, ls, ms, h, hn⟩ := h
  exact ⟨ρ, lv, mv, ls, ms, ⟨h.bk, h.a, h.b, hf.trans (h.fr.mono fun k _ hh => .inl fun hk => hh (hK k hk)), fun k hk => ⟨(h.rk k (hK k hk)).1, hl k hk⟩, h.rf⟩, hn⟩
theorem PWs.fr (h : PWs K w0 W gb n A B) : Fr (fun k => ¬ K k) w0 W := by obtain ⟨ρ, lv, mv, ls, ms, h, hn⟩ := h; exact h.fr
theorem PWs.lt (h : PWs K w0 W gb n A B) : ∀ k, K k → k < w0.heap.size := by obtain ⟨ρ, lv, mv, ls, ms, h, hn⟩ := h; exact fun k hk => (h.rk k hk).2
theorem PWs.kept (h : PWs K w0 W gb n A B) (hn : n ≤ 1048576) :
    Calls Try.prog 14 #[.pointer (some ⟨gb, 0, none⟩)] W fun r w' => r = .returned (.bool true) ∧ w' = W := by
  obtain ⟨ρ, lv, mv, ls, ms, h, rfl⟩ := h
  exact kept_any W ρ gb lv mv ls ms h.bk hn
theorem PWs.hold (h : PWs K w0 W gb n A B) (sa : Stab 4 5 A) (sb : Stab 6 7 B) (u : Value) (l : List UInt8) (ho : OwnB W 0 u l) (hu : ∀ k, u.ownBlock = some k → K k) (hn : n ≤ 1048576) (hl : l.length ≤ 1048576000) :
    Calls Try.prog 26 #[.pointer (some ⟨gb, 0, none⟩), u] W fun r W' => r = .returned (.tuple #[]) ∧ PWs (fun k => K k ∧ u.ownBlock ≠ some k) w0 W' gb (n + 1) A B := by
  obtain ⟨ρ, lv, mv, ls, ms, h, rfl⟩ := h
  refine (hold_any W ρ gb lv mv ls ms u l h.bk ho (fun k hk => by have := (h.rk k (hu k hk)).1; omega) hn hl).mono ?_
  rintro r W' ⟨rfl, ρ', lv', mv', x, hbk, hf, hr⟩
  refine ⟨rfl, fun k => if k < W'.heap.size then ρ' k else 8, lv', mv', ls ++ [u], ms ++ [x], ⟨hbk.role fun k hk => by rw [if_pos hk], ?_, ?_, ?_, ?_, ?_⟩, by simp⟩
  · refine sa _ _ _ _ _ h.a hf (fun k hk hx => ?_) (fun k hk hx => ?_)
    · rcases hx with hx | hx | hx | hx
      · omega
      · omega
      · omega
      · have := (h.rk k (hu k hx)).1; omega
    · have := hf.size
      rw [if_pos (by omega), hr k hk fun e => by have := (h.rk k (hu k e)).1; omega]
  · refine sb _ _ _ _ _ h.b hf (fun k hk hx => ?_) (fun k hk hx => ?_)
    · rcases hx with hx | hx | hx | hx
      · omega
      · omega
      · omega
      · have := (h.rk k (hu k hx)).1; omega
    · have := hf.size
      rw [if_pos (by omega), hr k hk fun e => by have := (h.rk k (hu k e)).1; omega]
  · refine (h.fr.mono fun k _ hh => fun hk => hh hk.1).trans (hf.mono fun k _ hx => .inl fun hk => ?_)
    have := (h.rk k hk.1).1
    rcases hx with hx | hx | hx | hx
    · omega
    · omega
    · omega
    · exact hk.2 hx
  · intro k hk
    have h1 := h.rk k hk.1
    have h2 := h.fr.size
    have h3 := hf.size
    exact ⟨by rw [if_pos (by omega), hr k (by omega) hk.2]; exact h1.1, h1.2⟩
  · intro k hk
    rw [if_neg (by omega)]
end
section
variable {K : Nat → Prop} {w0 W : World} {gb n g : Nat} {e e' : Int} {l l' : List UInt8} {f : Nat} {args : Array Value}
theorem PWs.wcall {B : World → (Nat → Nat) → Prop} (h : PWs K w0 W gb n (AW g e l) B) (sb : Stab 6 7 B)
    (C : ∀ v, WAt W g e v l → (∀ k, K k → k ≠ g ∧ v.ownBlock ≠ some k) → Calls Try.prog f args W fun r W' => r = .returned (.tuple #[]) ∧ Left W W' g v e' l') :
    Calls Try.prog f args W fun r W' => r = .returned (.tuple #[]) ∧ PWs K w0 W' gb n (AW g e' l') B := by
  obtain ⟨ρ, lv, mv, ls, ms, h, hn⟩ := h
  obtain ⟨v, ha, h1, h2⟩ := h.a
  refine (C v ha fun k hk => ⟨fun e => by have := (h.rk k hk).1; subst e; omega, fun e => by have := (h.rk k hk).1; have := h2 k e; omega⟩).mono ?_
  rintro r W' ⟨rfl, v', hv', hf, hp⟩
  have hr : ∀ k, k < W.heap.size → (if v'.ownBlock = some k then 5 else ρ k) = ρ k := fun k hk => by
    split
    · rename_i e
      rcases hp k e with h | h
      · exact (h2 k h).symm
      · omega
    · rfl
  have hX : ∀ k, WX g v k → ρ k = 4 ∨ ρ k = 5 := fun k hx => by
    rcases hx with hx | hx
    · subst hx; exact .inl h1
    · exact .inr (h2 k hx)
  refine ⟨rfl, fun k => if v'.ownBlock = some k then 5 else ρ k, lv, mv, ls, ms, ⟨(h.bk.role hr).fr hf (fun k hk hx => by rw [hr k hk]; have := hX k hx; omega), ⟨v', hv', ?_, fun k hk => if_pos hk⟩, sb _ _ _ _ _ h.b hf (fun k hk hx => by have := hX k hx; omega) (fun k hk _ => hr k hk), h.fr.trans (hf.mono fun k _ hx => .inl fun hk => by have := hX k hx; have := (h.rk k hk).1; omega), fun k hk => ?_, fun k hk => ?_⟩, hn⟩
  · exact (if_neg hv'.ne).trans h1
  · have h3 := h.rk k hk
    have h4 := h.fr.size
    exact ⟨by rw [hr k (by omega)]; exact h3.1, h3.2⟩
  · refine (if_neg fun e => ?_).trans (h.rf k (Nat.le_trans hf.size hk))
    have := hv'.lt k e
    omega
theorem PWs.vcall {A : World → (Nat → Nat) → Prop} (h : PWs K w0 W gb n A (AV g e l)) (sa : Stab 4 5 A)
    (C : ∀ v, VAt W g e v l → (∀ k, K k → k ≠ g ∧ v.ownBlock ≠ some k) → Calls Try.prog f args W fun r W' => r = .returned (.tuple #[]) ∧ VLeft W W' g v e' l') :
    Calls Try.prog f args W fun r W' => r = .returned (.tuple #[]) ∧ PWs K w0 W' gb n A (AV g e' l') := by
  obtain ⟨ρ, lv, mv, ls, ms, h, hn⟩ := h
  obtain ⟨v, ha, h1, h2⟩ := h.b
  refine (C v ha fun k hk => ⟨fun e => by have := (h.rk k hk).1; subst e; omega, fun e => by have := (h.rk k hk).1; have := h2 k e; omega⟩).mono ?_
  rintro r W' ⟨rfl, v', hv', hf, hp⟩
  have hr : ∀ k, k < W.heap.size → (if v'.ownBlock = some k then 7 else ρ k) = ρ k := fun k hk => by
    split
    · rename_i e
      rcases hp k e with h | h
      · exact (h2 k h).symm
      · omega
    · rfl
  have hX : ∀ k, WX g v k → ρ k = 6 ∨ ρ k = 7 := fun k hx => by
    rcases hx with hx | hx
    · subst hx; exact .inl h1
    · exact .inr (h2 k hx)
  refine ⟨rfl, fun k => if v'.ownBlock = some k then 7 else ρ k, lv, mv, ls, ms, ⟨(h.bk.role hr).fr hf (fun k hk hx => by rw [hr k hk]; have := hX k hx; omega), sa _ _ _ _ _ h.a hf (fun k hk hx => by have := hX k hx; omega) (fun k hk _ => hr k hk), ⟨v', hv', ?_, fun k hk => if_pos hk⟩, h.fr.trans (hf.mono fun k _ hx => .inl fun hk => by have := hX k hx; have := (h.rk k hk).1; omega), fun k hk => ?_, fun k hk => ?_⟩, hn⟩
  · exact (if_neg hv'.ne).trans h1
  · have h3 := h.rk k hk
    have h4 := h.fr.size
    exact ⟨by rw [hr k (by omega)]; exact h3.1, h3.2⟩
  · refine (if_neg fun e => ?_).trans (h.rf k (Nat.le_trans hf.size hk))
    have := hv'.lt k e
    omega
end
end Go.Proofs.Ytamhlfhblgmhoaa
