/- What a crash is about: the disk that is found, the choices that are left. -/
import Derived.Test.YtcadacljacbipaaDkQ
namespace Go.Proofs.Ytcadacljacbipaa
open Go.RowKit
/-- a disk without loose acts, in blocks of S -/
structure Cl (W : World) (S : Nat → Prop) (fd i : Nat) (x y : List UInt8) (l0 n0 l1 n1 : Value) : Prop where
  at_ : W.heap[fd]? = some (.cells (dkCells l0 n0 (.slice none 0 0) l1 n1 (.slice none 0 0) (Dk.load x y i)) 71 (0, 0))
  l0 : SlI W (fun k => S k ∧ k ≠ fd) l0 x
  n0 : SlI W (fun k => S k ∧ k ≠ fd) n0 x
  l1 : SlI W (fun k => S k ∧ k ≠ fd) l1 y
  n1 : SlI W (fun k => S k ∧ k ≠ fd) n1 y
  sd : S fd
  lt : ∀ k, S k → k < W.heap.size
theorem Cl.dat {W : World} {S : Nat → Prop} {fd i : Nat} {x y : List UInt8} {l0 n0 l1 n1 : Value} (h : Cl W S fd i x y l0 n0 l1 n1) (hi : i < 2) : DAt W S fd (Dk.load x y i) := by
  refine ⟨fun k => S k ∧ k ≠ fd, l0, n0, .slice none 0 0, l1, n1, .slice none 0 0, ?_⟩
  exact
    { at_ := h.at_
      s0 := ⟨h.l0, h.n0, ActsAt.nil _ _⟩
      s1 := ⟨h.l1, h.n1, ActsAt.nil _ _⟩
      cur := hi
      sd := h.sd
      id := fun g => g.2 rfl
      is := fun k g => g.1
      lt := h.lt
      r0 := fun k hk => by simp [Value.ownBlock] at hk
      r1 := fun k hk => by simp [Value.ownBlock] at hk
      rr := fun k hk => by simp [Value.ownBlock] at hk }
theorem Cl.fr {X S S' : Nat → Prop} {W W' : World} {fd i : Nat} {x y : List UInt8} {l0 n0 l1 n1 : Value} (h : Cl W S fd i x y l0 n0 l1 n1) (hf : Fr X W W') (hx : ∀ k, S k → ¬ X k) (hs : ∀ k, S k → S' k) (hl : ∀ k, S' k → k < W'.heap.size) : Cl W' S' fd i x y l0 n0 l1 n1 := by
  have a : ∀ k, (S k ∧ k ≠ fd) → ¬ X k := fun k g => hx k g.1
  have b : ∀ k, (S k ∧ k ≠ fd) → (S' k ∧ k ≠ fd) := fun k g => ⟨hs k g.1, g.2⟩
  exact ⟨blk_fr hf h.at_ (hx fd h.sd), h.l0.fr hf a b, h.n0.fr hf a b, h.l1.fr hf a b, h.n1.fr hf a b, hs fd h.sd, hl⟩
theorem Cl.put0 {W : World} {S : Nat → Prop} {fd i : Nat} {x y z : List UInt8} {l0 n0 l1 n1 u v : Value} (h : Cl W S fd i x y l0 n0 l1 n1) (hu : SlI W (fun k => S k ∧ k ≠ fd) u z) (hv : SlI W (fun k => S k ∧ k ≠ fd) v z) :
    Cl (((W.setCell ⟨fd, 0, none⟩ u).setCell ⟨fd, 1, none⟩ v).setCell ⟨fd, 2, none⟩ (.slice none 0 0)) S fd i z y u v l1 n1 := by
  have hf : Fr (fun k => k = fd) W (((W.setCell ⟨fd, 0, none⟩ u).setCell ⟨fd, 1, none⟩ v).setCell ⟨fd, 2, none⟩ (.slice none 0 0)) := (Fr.set_ _ _).trans (((Fr.set_ _ _).trans ((Fr.set_ _ _).mono fun k _ hk => .inl hk)).mono fun k _ hk => .inl hk)
  have a : ∀ k, (S k ∧ k ≠ fd) → ¬ (k = fd) := fun k g => g.2
  exact ⟨blk_set (blk_set (blk_set h.at_ _ _) _ _) _ _, hu.fr hf a (fun _ h => h), hv.fr hf a (fun _ h => h), h.l1.fr hf a (fun _ h => h), h.n1.fr hf a (fun _ h => h), h.sd, fun k hk => Nat.lt_of_lt_of_le (h.lt k hk) hf.size⟩
theorem Cl.put1 {W : World} {S : Nat → Prop} {fd i : Nat} {x y z : List UInt8} {l0 n0 l1 n1 u v : Value} (h : Cl W S fd i x y l0 n0 l1 n1) (hu : SlI W (fun k => S k ∧ k ≠ fd) u z) (hv : SlI W (fun k => S k ∧ k ≠ fd) v z) :
    Cl (((W.setCell ⟨fd, 3, none⟩ u).setCell ⟨fd, 4, none⟩ v).setCell ⟨fd, 5, none⟩ (.slice none 0 0)) S fd i x z l0 n0 u v := by
  have hf : Fr (fun k => k = fd) W (((W.setCell ⟨fd, 3, none⟩ u).setCell ⟨fd, 4, none⟩ v).setCell ⟨fd, 5, none⟩ (.slice none 0 0)) := (Fr.set_ _ _).trans (((Fr.set_ _ _).trans ((Fr.set_ _ _).mono fun k _ hk => .inl hk)).mono fun k _ hk => .inl hk)
  have a : ∀ k, (S k ∧ k ≠ fd) → ¬ (k = fd) := fun k g => g.2
  exact ⟨blk_set (blk_set (blk_set h.at_ _ _) _ _) _ _, h.l0.fr hf a (fun _ h => h), h.n0.fr hf a (fun _ h => h), hu.fr hf a (fun _ h => h), hv.fr hf a (fun _ h => h), h.sd, fun k hk => Nat.lt_of_lt_of_le (h.lt k hk) hf.size⟩
/-- the blocks of what is found -/
def FB (w W : World) (c : Nat) (k : Nat) : Prop := w.heap.size ≤ k ∧ k ≠ c ∧ k < W.heap.size
/-- a crash under way: the disk itself, the choices, the disk that is found -/
structure CrAt (w : World) (S : Nat → Prop) (d c fd : Nat) (D : Dk) (x y : List UInt8) (cs : List Int) (W : World) : Prop where
  fr : Fr (fun k => k = d) w W
  dd : DAt W S d { D with dead := true }
  sl : ∀ k, S k → k < w.heap.size
  lc : ∃ v, W.heap[c]? = some (.cells #[v] 24 (0, 0)) ∧ SlZ W v cs ∧ (0 < cs.length → ∀ k, v.ownBlock = some k → k < w.heap.size ∧ ¬ S k)
  c0 : w.heap.size ≤ c
  fd : ∃ l0 n0 l1 n1, Cl W (FB w W c) fd D.cur x y l0 n0 l1 n1
theorem CrAt.below {w W W' : World} {S : Nat → Prop} {d c fd : Nat} {D : Dk} {x y : List UInt8} {cs : List Int} (h : CrAt w S d c fd D x y cs W) (hb : Below W.heap.size W W') : CrAt w S d c fd D x y cs W' := by
  obtain ⟨v, h1, h2, h3⟩ := h.lc
  obtain ⟨l0, n0, l1, n1, hc⟩ := h.fd
  have hs := hb.size
  exact ⟨h.fr.trans ((Fr.of_below hb).mono fun _ _ h => h.elim), h.dd.below hb, h.sl, ⟨v, blk_keep hb h1 (blk_lt h1), h2.fr (Fr.of_below hb) (fun _ _ _ h => h), h3⟩, h.c0, l0, n0, l1, n1, hc.fr (Fr.of_below hb) (fun _ _ h => h) (fun k hk => ⟨hk.1, hk.2.1, by have := hk.2.2; omega⟩) (fun k hk => hk.2.2)⟩
/-- behind a choice -/
theorem CrAt.chosen {w W W' : World} {S : Nat → Prop} {d c fd : Nat} {D : Dk} {x y : List UInt8} {cs : List Int} {v v' : Value} (h : CrAt w S d c fd D x y cs W) (hc0 : W.heap[c]? = some (.cells #[v] 24 (0, 0))) (h1 : W'.heap[c]? = some (.cells #[v'] 24 (0, 0))) (h2 : SlZ W' v' cs.tail) (h3 : ∀ k, v'.ownBlock = some k → v.ownBlock = some k) (hf : Fr (fun k => k = c) W W') (hsz : W'.heap.size = W.heap.size) : CrAt w S d c fd D x y cs.tail W' := by
  obtain ⟨u, e1, e2, e3⟩ := h.lc
  rw [hc0] at e1
  injection e1 with e1
  injection e1 with e1
  have e1 : v = u := by simpa using e1
  subst e1
  obtain ⟨l0, n0, l1, n1, hc⟩ := h.fd
  have hlt : 0 < cs.tail.length → 0 < cs.length := fun h => by cases cs <;> simp_all
  exact ⟨h.fr.trans (hf.mono fun k _ e => .inr (by have := h.c0; have := h.fr.size; subst e; omega)), h.dd.fr hf (fun k hk e => by have := h.sl k hk; have := h.c0; omega) (fun _ h => h) (fun k hk => by have := h.dd.lt k hk; omega), h.sl, ⟨v', h1, h2, fun h0 k hk => e3 (hlt h0) k (h3 k hk)⟩, h.c0, l0, n0, l1, n1,
    hc.fr hf (fun k hk e => hk.2.1 e) (fun k hk => ⟨hk.1, hk.2.1, by rw [hsz]; exact hk.2.2⟩) (fun k hk => hk.2.2)⟩
end Go.Proofs.Ytcadacljacbipaa
