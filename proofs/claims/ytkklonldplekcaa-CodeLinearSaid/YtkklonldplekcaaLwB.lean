/- Things in another order; a row joins a list of rows. -/
import Derived.Test.YtkklonldplekcaaLwA
namespace Go.Proofs.Ytkklonldplekcaa
open Go.RowKit
section
variable {B : Nat} {w0 w w' : World} {ts : List Thing}
theorem Fam.swapMid {A L : List Thing} {a b : Thing} (h : Fam B w0 w (A ++ (a :: b :: L))) : Fam B w0 w (A ++ (b :: a :: L)) := by
  refine h.pick _ (fun i => if i = A.length then A.length + 1 else if i = A.length + 1 then A.length else i) (fun i t ht => ?_) (fun i j _ _ e => ?_)
  · by_cases hi : i < A.length
    · rw [if_neg (by omega), if_neg (by omega)]
      rw [List.getElem?_append_left hi] at ht ⊢
      exact ht
    · obtain ⟨k, rfl⟩ : ∃ k, i = A.length + k := ⟨i - A.length, by omega⟩
      rw [get_at] at ht
      match k, ht with
      | 0, ht => rw [if_pos (by omega), get_at]; exact ht
      | 1, ht => rw [if_neg (by omega), if_pos (by omega), show (A ++ (a :: b :: L))[A.length]? = (A ++ (a :: b :: L))[A.length + 0]? from rfl, get_at]; exact ht
      | k + 2, ht => rw [if_neg (by omega), if_neg (by omega), get_at]; exact ht
  · split at e <;> split at e <;> (try split at e) <;> (try split at e) <;> omega
theorem Fam.permA {l l' : List Thing} (hp : l.Perm l') : ∀ A : List Thing, Fam B w0 w (A ++ l) → Fam B w0 w (A ++ l') := by
  induction hp with
  | nil => intro A h; exact h
  | cons x _ ih =>
    intro A h
    have := ih (A ++ [x]) (by rw [List.append_assoc]; exact h)
    rw [List.append_assoc] at this
    exact this
  | swap x y l => intro A h; exact h.swapMid
  | trans _ _ ih1 ih2 => intro A h; exact ih2 A (ih1 A h)
theorem Fam.perm {l l' : List Thing} (h : Fam B w0 w l) (hp : l.Perm l') : Fam B w0 w l' := by
  have := Fam.permA hp [] h
  exact this
/-- a row that lies beside joins the list -/
theorem Fam.tell {v v' u : Value} {vs : List Value} {M : List (List UInt8)} {Y : List UInt8} (h : Fam B w0 w (ts ++ (gridT v vs M ++ [rowT u Y]))) (hl : vs.length = M.length) (ho : w'.ownsRow 0 22 1 v' (M.length + 1) (vs ++ [u])) (hg : w.grownBy w' v.ownBlock) (hn : ∀ k, v'.ownBlock = some k → v.ownBlock = some k ∨ w.heap.size ≤ k) : Fam B w0 w' (ts ++ gridT v' (vs ++ [u]) (M ++ [Y])) := by
  have h1 := h.grow (i := ts.length + 0) (e := 22) (s := 1) (n := M.length) (v := v) (xs := vs) (by rw [get_at]; rfl) ho hg hn
  rw [set_at] at h1
  unfold gridT at h1 ⊢
  rw [rowsT_snoc vs M u Y hl, List.length_append, List.length_singleton]
  exact h1
theorem Fam.listOwn {v : Value} {vs : List Value} {M : List (List UInt8)} (h : Fam B w0 w (gridT v vs M ++ ts)) : w.ownsRow 0 22 1 v M.length vs := (h.own (i := 0) rfl).1
theorem Fam.gridSl {v : Value} {vs : List Value} {M : List (List UInt8)} (h : Fam B w0 w (gridT v vs M ++ ts)) (hl : vs.length = M.length) : SlBB w v M := by
  have h3 := h.listOwn
  refine ⟨fun i => vs.getD i (.slice none 0 0), ?_, fun i hi => (h.rowAt (i := i + 1) (get_app (grid_at (Rv := v) hl hi))).sl⟩
  have e : vs = (List.range M.length).map fun i => vs.getD i (.slice none 0 0) := by
    apply List.ext_getElem
    · simp [hl]
    · intro i h4 h5
      simp [h4]
  rw [e] at h3
  simpa using own_sl h3
end
theorem grid_nil (w : World) : Fam w.heap.size w w (gridT (.slice none 0 0) [] [] ++ gridT (.slice none 0 0) [] []) := by
  have h1 := Fam.add (Fam.start w) (t := ownT 22 1 (.slice none 0 0) 0 []) (Below.refl _ _) ⟨World.ownsRow_nil _ _ _ _, fun k hk => by cases hk⟩
  have h2 := h1.add (t := ownT 22 1 (.slice none 0 0) 0 []) (Below.refl _ _) ⟨World.ownsRow_nil _ _ _ _, fun k hk => by cases hk⟩
  exact h2
/-- a code's rows are linear -/
theorem comb_lin (f : UInt8) (F : List UInt8) (D O T : List (List UInt8)) (s t : Nat) (ht : t < s) (hO : O.length = D.length) (hT : T.length = D.length) (h : ∀ i, i < D.length → ent T i t = ent D i t ^^^ Gf.mul 0x1d f (ent O i t)) : (comb F T s).getD t 0 = (comb F D s).getD t 0 ^^^ Gf.mul 0x1d f ((comb F O s).getD t 0) := by
  rw [comb_get _ _ _ _ ht, comb_get _ _ _ _ ht, comb_get _ _ _ _ ht, hO, hT, Mx.mul_sm, ← Mx.sm_xor]
  refine Mx.sm_congr _ fun i hi => ?_
  show Gf.mul 0x1d (F.getD i 0) (ent T i t) = Gf.mul 0x1d (F.getD i 0) (ent D i t) ^^^ Gf.mul 0x1d f (Gf.mul 0x1d (F.getD i 0) (ent O i t))
  rw [h i hi, Gf.mul_xor, ← Gf.mul_assoc, Gf.mul_comm 0x1d (F.getD i 0) f, Gf.mul_assoc]
end Go.Proofs.Ytkklonldplekcaa
