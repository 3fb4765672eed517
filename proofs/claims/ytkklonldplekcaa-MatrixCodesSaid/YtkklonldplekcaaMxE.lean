/- The walks of package matrix: eliminate's scale. -/
import Derived.Test.YtkklonldplekcaaMxD
namespace Go.Proofs.Ytkklonldplekcaa
open Go.RowKit
theorem set_far {w : World} {a i g j : Nat} {v u : Value} (h : w.cell? ⟨a, i, none⟩ = some v) (hne : g ≠ a) : (w.setCell ⟨g, j, none⟩ u).cell? ⟨a, i, none⟩ = some v := by
  rw [World.cell?_setCell_other _ _ _ _ (by intro e; injection e with e1; exact hne e1)]; exact h
section
variable {B : Nat} {w0 w w' : World} {ts : List Thing} {fb rb fg R r c : Nat} {pv : Value} {piv : List Nat} {vs : List Value} {M : List (List UInt8)} {N : Nat}
/-- one byte of a row is turned -/
theorem EL.byte (h : EL B w0 w ts fb rb fg R r c pv piv vs M N) {i g n k : Nat} {L : List UInt8} (hi : i < r) (hv : vs.getD i (.slice none 0 0) = .slice (some ⟨g, 0, none⟩) n k) (hL : M.getD i [] = L) (j : Nat) (b : UInt8) : EL B w0 (w.setCell ⟨g, j, none⟩ (Go.Proofs.Ytkklonldplekcaa.B b)) ts fb rb fg R r c pv piv vs (M.set i (L.set j b)) N := by
  obtain ⟨v, L', e1, e2, _, _, _, li, gi⟩ := h.row i hi
  rw [hv] at e1
  rw [hL] at e2
  subst e1 e2
  obtain ⟨S, hS, _, kk⟩ := h.fam.call gi
  refine h.put hi (by rw [List.length_set]; exact li) ?_
  rw [hv]
  exact kk _ _ ⟨hS.1.set_ j b, fun x hx => .inl (hS.2 x hx)⟩ ((Fr.set_ (g := g) j _).mono fun x _ e => hS.2 x (by rw [e]; rfl))
theorem set_back (M : List (List UInt8)) (i : Nat) (A C : List UInt8) : (M.set i A).set i C = M.set i C := by rw [List.set_set]
theorem scale_next {q k x : UInt8} {L Li : List UInt8} {j : Nat} (h : L.length = N ∧ ∀ t, t < N → L.getD t 0 = if t < j then Gf.mul q (Li.getD t 0) k else Li.getD t 0) (hj : j < N) (hx : Li.getD j 0 = x) : (L.set j (Gf.mul q x k)).length = N ∧ ∀ t, t < N → (L.set j (Gf.mul q x k)).getD t 0 = if t < j + 1 then Gf.mul q (Li.getD t 0) k else Li.getD t 0 := by
  refine ⟨by rw [List.length_set]; exact h.1, fun t ht => ?_⟩
  rw [List.getD_eq_getElem?_getD, List.getElem?_set]
  by_cases e : j = t
  · subst e
    rw [if_pos rfl, if_pos (by omega), if_pos (by omega), hx]; rfl
  · rw [if_neg e, ← List.getD_eq_getElem?_getD, h.2 t ht]
    by_cases h1 : t < j
    · rw [if_pos h1, if_pos (by omega)]
    · rw [if_neg h1, if_neg (by omega)]
set_option maxRecDepth 100000 in
set_option maxHeartbeats 8000000 in
theorem scale_any (h : EL B w0 w ts fb rb fg R r c pv piv vs M N) (hB : B = w0.heap.size) {q : UInt8} (hF : FieldAt w0 fg q) (i : Nat) (hi : i < r) (k : UInt8) (_ : r ≤ 1024) (hN : N ≤ 1024) :
    Calls Try.prog 111 #[.int .i64 i, Go.Proofs.Ytkklonldplekcaa.B k, .pointer (some ⟨rb, 0, none⟩), .pointer (some ⟨fb, 0, none⟩)] w fun e w' => e = .returned (.tuple #[]) ∧ ∃ L', L'.length = N ∧ (∀ t, t < N → L'.getD t 0 = Gf.mul q ((M.getD i []).getD t 0) k) ∧ EL B w0 w' ts fb rb fg R r c pv piv vs (M.set i L') N := by
  have HF := hid (fun (W : World) (hb : Below w0.heap.size w0 W) => hF.below hb hF.lt)
  have HB := hid hB
  have HR := hid h.r
  obtain ⟨b1, b2⟩ := h.boxes
  obtain ⟨vi, Li, hvi, hLi, ci, fi, oi, li, gi⟩ := h.row i hi
  obtain ⟨Ai, ki, rfl⟩ := oi.form
  rw [li] at ci hvi
  have HV := hid hvi
  have HL := hid hLi
  have HLI := hid li
  have H0 : Hid (EL B w0 w ts fb rb fg R r c pv piv vs (M.set i Li) N) := hid (by
    have := h.put hi li (w' := w) (by
      rw [set_at, hvi, ← li]
      have e := grid_set (Rv := .slice (some ⟨R, 0, none⟩) r c) h.vl (show i < M.length by have := h.r; omega) Li
      rw [hvi, ← li] at e
      rw [e]
      have e2 : M.set i Li = M := by
        rw [← hLi]
        apply List.ext_getElem
        · simp
        · intro t h1 h2
          rw [List.getElem_set]
          split
          · rename_i e3; subst e3; rw [List.getD_eq_getElem?_getD, List.getElem?_eq_getElem h2]; rfl
          · rfl
      rw [e2]
      exact h.fam)
    exact this)
  have i0 : (0 : Int) ≤ (i : Int) := by omega
  have i1 : (i : Int) < (r : Int) := by omega
  rw [hLi]
  clear h hvi hLi oi li gi hF hB fi
  go_enter Try.func111, Try.ntmps111
  go_wp2
  clear b1 b2 ci
  go_loopw [6, 7, 13] (fun _ _ x wr => ∃ (j : Nat) (Lc : List UInt8), j ≤ N ∧ x = .int .i64 j ∧ (Lc.length = N ∧ ∀ t, t < N → Lc.getD t 0 = if t < j then Gf.mul q (Li.getD t 0) k else Li.getD t 0) ∧ EL B w0 wr ts fb rb fg R r c pv piv vs (M.set i Lc) N) (fun _ _ x _ => N - (intOf x).toNat)
  case atStart => exact ⟨0, Li, Nat.zero_le _, rfl, ⟨HLI.out, fun t _ => by rw [if_neg (by omega)]⟩, H0.out⟩
  case round =>
    clear H0
    obtain ⟨j, Lc, hj, rfl, hlc, he⟩ := hrel
    have HLC := hid hlc
    have HE := hid he
    by_cases hlt : j < N
    · obtain ⟨b1, b2⟩ := he.boxes
      obtain ⟨v, L, hv, hL, ci, fi, oi, li, gi⟩ := he.row i hi
      rw [HV.out] at hv
      subst hv
      have hLL : L = Lc := by rw [← hL, getD_set M i i Lc (by have := HR.out; omega), if_pos rfl]
      subst hLL
      obtain ⟨g, c', e, _, _, _⟩ := oi.some_ (by omega)
      rw [li] at e
      injection e with e1 _ e2
      subst e1 e2
      obtain ⟨x0, f0⟩ := oi.at_ j (by omega)
      have hx := HLC.out.2 j hlt
      rw [if_neg (by omega)] at hx
      rw [hx] at x0
      obtain ⟨x, hxx⟩ : ∃ x, Li.getD j 0 = x := ⟨_, rfl⟩
      rw [hxx] at x0
      have HX := hid hxx
      have HLL := hid hL
      have hfd := HF.out wr.drew (by have := he.fam.base; rw [HB.out] at this; exact this.drew)
      have HM := hid (Mul_any fg q x k wr.drew hfd)
      have hgR : g ≠ R ∧ g ≠ rb ∧ g ≠ fb := els_apart he gi
      obtain ⟨n1, n2, n3⟩ := hgR
      have i3 : (0 : Int) ≤ (j : Int) := by omega
      have i4 : (j : Int) < (N : Int) := by omega
      clear hlc he hL oi li gi fi hx hxx hfd
      go_wp2
      go_region_held3 (fun W => W.cell? ⟨fb, 0, none⟩ = some (.pointer (some ⟨fg, 0, none⟩)) ∧ W.cell? ⟨rb, 0, none⟩ = some (.slice (some ⟨R, 0, none⟩) r c) ∧ W.cell? ⟨R, i, none⟩ = some (.slice (some ⟨g, 0, none⟩) N ki))
        (first | exact ⟨b1, b2, ci⟩ | exact ⟨set_far b1 n3, set_far b2 n2, set_far ci n1⟩)
        ((go_at_call 37; (with_reducible refine HM.out.mono ?_); rintro e w3 ⟨rfl, nn, rfl⟩))
      all_goals
        have R1 := hid ((HE.out.below (below_drewN (Below.refl _ _) (1 + nn))).byte hi HV.out HLL.out j (Gf.mul q x k))
        rw [set_back] at R1
        have hnx : Hid ((L.set j (Gf.mul q x k)).length = N ∧ ∀ t, t < N → (L.set j (Gf.mul q x k)).getD t 0 = if t < j + 1 then Gf.mul q (Li.getD t 0) k else Li.getD t 0) := hid (scale_next HLC.out hlt HX.out)
        clear b1 b2 ci x0 f0 HM
        go_wp2
        go_roundw
        case rel => exact ⟨j + 1, _, by omega, by go_num, hnx.out, R1.out⟩
        case measure => simp [intOf]; omega
    · have HN1 : Hid (∀ t, t < N → Lc.getD t 0 = Gf.mul q (Li.getD t 0) k) := hid fun t ht => by rw [HLC.out.2 t ht, if_pos (by omega)]
      clear hlc he
      go_wp2
      go_returns
      exact ⟨rfl, Lc, HLC.out.1, HN1.out, HE.out⟩
end
end Go.Proofs.Ytkklonldplekcaa
