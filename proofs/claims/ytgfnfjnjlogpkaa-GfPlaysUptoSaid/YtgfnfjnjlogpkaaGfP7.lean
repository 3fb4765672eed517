/- The calls that are handed lists: the state between them. -/
import Derived.Test.YtgfnfjnjlogpkaaGfP5
import Derived.Test.YtgfnfjnjlogpkaaGfP6
namespace Go.Proofs.Ytgfnfjnjlogpkaa
open Go.RowKit
def dotR (q : UInt8) (l m : List UInt8) : UInt8 := if l.length = m.length then dotN q l m l.length else 0
def shE (l m : List UInt8) : Int := if l.length = m.length then 0 else 12
def amR (q c : UInt8) (l m : List UInt8) : List UInt8 := if l.length = m.length then am q c 0 l m m.length else l
theorem amR_length (q c : UInt8) (l m : List UInt8) : (amR q c l m).length = l.length := by
  unfold amR; split
  · exact am_length _ _ _ _ _ _
  · rfl
theorem am_tail (q c : UInt8) (l t k : List UInt8) (n : Nat) (hn : n ≤ l.length) : am q c 0 (l ++ t) k n = am q c 0 l k n ++ t := by
  apply List.ext_getElem
  · simp [am]
  · intro j h1 h2
    have hj : j < (l ++ t).length := by simpa [am] using h1
    have e1 : (am q c 0 (l ++ t) k n)[j] = (am q c 0 (l ++ t) k n).getD j 0 := by simp [h1]
    rw [e1, am_get _ _ _ _ _ _ _ hj]
    by_cases hjl : j < l.length
    · rw [List.getElem_append_left (by rw [am_length]; exact hjl)]
      have e2 : (am q c 0 l k n)[j]'(by rw [am_length]; exact hjl) = (am q c 0 l k n).getD j 0 := by simp [am_length, hjl]
      rw [e2, am_get _ _ _ _ _ _ _ hjl]
      simp [List.getElem?_append_left hjl]
    · rw [if_neg (by omega), List.getElem_append_right (by rw [am_length]; omega)]
      simp only [am_length]
      simp [List.getElem?_append_right (show l.length ≤ j by omega)]
      simp at hj
      rw [List.getElem?_eq_getElem (by omega)]; rfl
theorem Dot_u (g : Nat) (q : UInt8) (u v : Value) (l m : List UInt8) (w : World) (h : FieldAt w g q) (hu : SlB w u l) (hv : SlB w v m) (h1 : l.length ≤ 140737488355328) (h2 : m.length ≤ 140737488355328) :
    Calls Try.prog 17 #[.pointer (some ⟨g, 0, none⟩), u, v] w fun e w' => e = .returned (.tuple #[B (dotR q l m), .int .i64 (shE l m)]) ∧ ∃ n, w' = w.drewN n := by
  by_cases he : l.length = m.length
  · rw [show dotR q l m = dotN q l m l.length from if_pos he, show shE l m = 0 from if_pos he]
    exact Dot_any g q u v l m w h hu hv he (by omega)
  · rw [show dotR q l m = 0 from if_neg he, show shE l m = 12 from if_neg he]
    obtain ⟨A, c, rfl⟩ := hu.form
    obtain ⟨A', c', rfl⟩ := hv.form
    refine (Dot_shape g A A' _ _ c c' he (by omega) (by omega) w).mono ?_
    rintro e w' ⟨rfl, rfl⟩
    exact ⟨rfl, 0, rfl⟩
theorem rDot_u (g : Nat) (q : UInt8) (u v : Value) (l m : List UInt8) (w : World) (h : RF w g q) (hu : SlB w u l) (hv : SlB w v m) (h1 : l.length ≤ 140737488355328) (h2 : m.length ≤ 140737488355328) :
    Calls Try.prog 45 #[.pointer (some ⟨g, 0, none⟩), u, v] w fun e w' => e = .returned (.tuple #[B (dotR q l m), .int .i64 (shE l m)]) ∧ ∃ n, w' = w.drewN n := by
  by_cases he : l.length = m.length
  · rw [show dotR q l m = dotN q l m l.length from if_pos he, show shE l m = 0 from if_pos he]
    exact rDot_any g q u v l m w h hu hv he (by omega)
  · rw [show dotR q l m = 0 from if_neg he, show shE l m = 12 from if_neg he]
    obtain ⟨A, c, rfl⟩ := hu.form
    obtain ⟨A', c', rfl⟩ := hv.form
    refine (rDot_shape g A A' _ _ c c' he (by omega) (by omega) w).mono ?_
    rintro e w' ⟨rfl, rfl⟩
    exact ⟨rfl, 0, rfl⟩
theorem rAddMul_u (g : Nat) (q c : UInt8) (u v : Value) (L k : List UInt8) (w : World) (h : RF w g q) (hu : SlB w u L) (hv : SlB w v k) (hmax : L.length ≤ 140737488355328) :
    Calls Try.prog 48 #[.pointer (some ⟨g, 0, none⟩), u, B c, v] w fun e w' => ∃ r, e = .returned (.tuple #[r, .int .i64 (shE L k)]) ∧ OwnB w' w.heap.size r (amR q c L k) ∧ Below w.heap.size w w' := by
  by_cases he : L.length = k.length
  · rw [show amR q c L k = am q c 0 L k k.length from if_pos he, show shE L k = 0 from if_pos he]
    exact rAddMul_any g q c u v L k w h hu hv he.symm hmax
  · rw [show amR q c L k = L from if_neg he, show shE L k = 12 from if_neg he]
    exact rAddMul_shape g u v L k c w hu hv he hmax
/-- two rows of the law's own, apart; all that was is as it was -/
structure LS (w1 W : World) (g1 n1 c1 g2 n2 c2 : Nat) (la lb : List UInt8) : Prop where
  b : Below w1.heap.size w1 W
  a : OwnB W w1.heap.size (.slice (some ⟨g1, 0, none⟩) n1 c1) la
  c : OwnB W w1.heap.size (.slice (some ⟨g2, 0, none⟩) n2 c2) lb
  ne : g1 ≠ g2
theorem LS.below {w1 W W' : World} {g1 n1 c1 g2 n2 c2 : Nat} {la lb : List UInt8} (h : LS w1 W g1 n1 c1 g2 n2 c2 la lb) (hb : Below W.heap.size W W') : LS w1 W' g1 n1 c1 g2 n2 c2 la lb :=
  ⟨h.b.trans (hb.mono h.b.size), h.a.below hb, h.c.below hb, h.ne⟩
theorem LS.drewN {w1 W : World} {g1 n1 c1 g2 n2 c2 : Nat} {la lb : List UInt8} (h : LS w1 W g1 n1 c1 g2 n2 c2 la lb) (n : Nat) : LS w1 (W.drewN n) g1 n1 c1 g2 n2 c2 la lb := h.below (below_drewN (Below.refl _ _) n)
theorem LS.grown {w1 W W' : World} {g1 n1 c1 g2 n2 c2 : Nat} {la lb la' : List UInt8} (h : LS w1 W g1 n1 c1 g2 n2 c2 la lb) (ha : OwnB W' w1.heap.size (.slice (some ⟨g1, 0, none⟩) n1 c1) la') (hg : W.grownBy W' (some g1)) : LS w1 W' g1 n1 c1 g2 n2 c2 la' lb :=
  ⟨OwnB.grown h.b h.a (Nat.le_refl _) h.b.size hg, ha, own_block h.c fun k hk => hg.block k (World.ownsRow.lt h.c k hk).2 fun e => by
    injection e with e
    have h1 : g2 = k := by simpa [Value.ownBlock] using hk
    exact h.ne (e.symm.trans h1.symm), h.ne⟩
theorem AddMul_ls (w1 W : World) (fg : Nat) (q c : UInt8) (hf : FieldAt w1 fg q) (g1 n1 c1 g2 n2 c2 : Nat) (L M t t' : List UInt8) (h : LS w1 W g1 n1 c1 g2 n2 c2 (L ++ t) (M ++ t')) (hL : L.length ≤ 140737488355328) (hc1 : L.length ≤ c1) :
    Calls Try.prog 18 #[.pointer (some ⟨fg, 0, none⟩), .slice (some ⟨g1, 0, none⟩) L.length c1, B c, .slice (some ⟨g2, 0, none⟩) M.length c2] W fun e w' => e = .returned (.int .i64 (shE L M)) ∧ LS w1 w' g1 n1 c1 g2 n2 c2 (amR q c L M ++ t) (M ++ t') ∧ W.grownBy w' (some g1) := by
  by_cases he : L.length = M.length
  · rw [show amR q c L M = am q c 0 L M M.length from if_pos he, show shE L M = 0 from if_pos he]
    have hM : SlB W (.slice (some ⟨g2, 0, none⟩) M.length c2) M := by
      have := OwnB.pre_ h.c M.length (by simp)
      rw [List.take_left] at this
      exact this.sl
    have hn1 := h.a.base_le.2
    have ha := h.a
    rw [hn1] at ha
    have hlt := hf.lt
    refine (AddMul_any fg q c W (hf.below h.b hf.lt) _ (L ++ t) w1.heap.size ha (some ⟨g1, 0, none⟩) 0 L.length c1 (fun _ => ⟨g1, c1, rfl, rfl, by have := h.a.base_le.1; omega⟩) (by simp) _ M hM he.symm (by omega) hc1).mono ?_
    rintro e w' ⟨rfl, ho, hg⟩
    rw [am_tail _ _ _ _ _ _ (by omega)] at ho
    rw [← hn1] at ho
    exact ⟨rfl, h.grown ho hg, hg⟩
  · rw [show amR q c L M = L from if_neg he, show shE L M = 12 from if_neg he]
    refine (AddMul_shape fg _ _ _ _ c1 c2 c he W).mono ?_
    rintro e w' ⟨rfl, rfl⟩
    exact ⟨rfl, h, rfl, rfl, rfl, Nat.le_refl _, fun _ _ _ => rfl⟩
theorem turned_ls (w1 W : World) (g1 n1 c1 g2 n2 c2 : Nat) (L lb t : List UInt8) (y : UInt8) (h : LS w1 W g1 n1 c1 g2 n2 c2 (L ++ t) lb) (hL : L.length ≤ 140737488355328) (hc1 : L.length ≤ c1) :
    Calls Try.prog 47 #[.slice (some ⟨g1, 0, none⟩) L.length c1, B y] W fun e w' => ∃ v, e = .returned v ∧ SlB w' v (L.map fun x => x + 1 + y) ∧ LS w1 w' g1 n1 c1 g2 n2 c2 ((L.map fun x => x + 1 + y) ++ t) lb := by
  refine (turned_any g1 n1 c1 _ L t y W h.a hL hc1).mono ?_
  rintro e w' ⟨v, rfl, ho, ha, hg⟩
  exact ⟨v, rfl, ho.sl, h.grown ha hg⟩
theorem LS.a_sl {w1 W : World} {g1 n1 c1 g2 n2 c2 : Nat} {L t lb : List UInt8} (h : LS w1 W g1 n1 c1 g2 n2 c2 (L ++ t) lb) : SlB W (.slice (some ⟨g1, 0, none⟩) L.length c1) L := by
  have := OwnB.pre_ h.a L.length (by simp)
  rw [List.take_left] at this
  exact this.sl
theorem LS.c_sl {w1 W : World} {g1 n1 c1 g2 n2 c2 : Nat} {la M t : List UInt8} (h : LS w1 W g1 n1 c1 g2 n2 c2 la (M ++ t)) : SlB W (.slice (some ⟨g2, 0, none⟩) M.length c2) M := by
  have := OwnB.pre_ h.c M.length (by simp)
  rw [List.take_left] at this
  exact this.sl
end Go.Proofs.Ytgfnfjnjlogpkaa
