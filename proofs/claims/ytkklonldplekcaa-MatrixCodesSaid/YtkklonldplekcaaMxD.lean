/- The walks of package matrix: the three hands of eliminate. -/
import Derived.Test.YtkklonldplekcaaMxB
import Derived.Deep.CutBlock
import Derived.Handy
import Derived.RegionTactic
namespace Go.Proofs.Ytkklonldplekcaa
open Go.RowKit
theorem hcf_of (n : FuncId) (h : ∀ (args : Array Value) (w : World), (callFunc n args).run Try.prog w = .ok (.enter n args) w) : ∀ (args : Array Value) (w : World), (callFunc n args).run Try.prog w = .ok (.enter n args) w := h
section
variable {B : Nat} {w0 w : World} {ts : List Thing}
/-- two things change places -/
theorem Fam.swapAt (h : Fam B w0 w ts) {i j : Nat} {a b : Thing} (hi : ts[i]? = some a) (hj : ts[j]? = some b) : Fam B w0 w ((ts.set i b).set j a) := by
  have hil := (List.getElem?_eq_some_iff.1 hi).1
  have hjl := (List.getElem?_eq_some_iff.1 hj).1
  refine h.pick _ (fun t => if t = j then i else if t = i then j else t) (fun t u hu => ?_) (fun s t _ _ e => ?_)
  · by_cases h1 : t = j
    · subst h1
      rw [List.getElem?_set_self (by simpa using hjl)] at hu
      injection hu with hu
      subst hu
      rw [if_pos rfl]; exact hi
    · rw [List.getElem?_set_ne (Ne.symm h1)] at hu
      rw [if_neg h1]
      by_cases h2 : t = i
      · subst h2
        rw [List.getElem?_set_self hil] at hu
        injection hu with hu
        subst hu
        rw [if_pos rfl]; exact hj
      · rw [List.getElem?_set_ne (Ne.symm h2)] at hu
        rw [if_neg h2]; exact hu
  · split at e <;> split at e <;> (try split at e) <;> (try split at e) <;> omega
/-- the last two lists of things change places -/
theorem Fam.comm {A C : List Thing} (h : Fam B w0 w ((ts ++ A) ++ C)) : Fam B w0 w ((ts ++ C) ++ A) := by
  rw [List.append_assoc] at h ⊢
  refine h.pick _ (fun i => if i < ts.length then i else if i < ts.length + C.length then i + A.length else i - C.length) (fun i t ht => ?_) (fun i j hi hj e => ?_)
  · by_cases hi : i < ts.length
    · rw [if_pos hi]
      rw [List.getElem?_append_left hi] at ht ⊢
      exact ht
    · rw [if_neg hi]
      rw [List.getElem?_append_right (by omega)] at ht
      by_cases h2 : i < ts.length + C.length
      · rw [if_pos h2, List.getElem?_append_right (by omega), List.getElem?_append_right (by omega)]
        rw [List.getElem?_append_left (by omega)] at ht
        rw [← ht]; congr 1; omega
      · rw [if_neg h2, List.getElem?_append_right (by omega)]
        rw [List.getElem?_append_right (by omega)] at ht
        have := (List.getElem?_eq_some_iff.1 ht).1
        rw [List.getElem?_append_left (by omega), ← ht]; congr 1; omega
  · simp only [List.length_append] at hi hj
    split at e <;> split at e <;> (try split at e) <;> (try split at e) <;> omega
theorem AddMul_fam (h : Fam B w0 w ts) (hB : B = w0.heap.size) {fg : Nat} {q : UInt8} (hF : FieldAt w0 fg q) {i j : Nat} {v u : Value} {L K : List UInt8} (hi : ts[i]? = some (rowT v L)) (hj : ts[j]? = some (rowT u K)) (he : L.length = K.length) (hmax : L.length ≤ 140737488355328) (c : UInt8) :
    Calls Try.prog 70 #[.pointer (some ⟨fg, 0, none⟩), v, Go.Proofs.Ytkklonldplekcaa.B c, u] w fun e w' => e = .returned (.int .i64 0) ∧ Fam B w0 w' (ts.set i (rowT v (am q c 0 L K K.length))) := by
  obtain ⟨S, hS, hSB, k⟩ := h.call hi
  have hu := (h.rowAt hj).sl
  subst hB
  obtain ⟨A, cap, rfl⟩ := hS.1.form
  have hcap : L.length ≤ cap := by obtain ⟨A', c', e, h1, _⟩ := hS.1.sl; injection e with _ _ e3; omega
  refine (AddMul_any fg q c w (hF.below h.base hF.lt) (.slice A L.length cap) L 0 hS.1 A 0 L.length cap (fun h0 => ?_) (by omega) u K hu he.symm hmax hcap).mono ?_
  · obtain ⟨g, c', e, _, _, _⟩ := hS.1.some_ h0
    refine ⟨g, c', e, by injection e, fun e2 => ?_⟩
    have h1 := (hSB g (hS.2 g (by rw [e]; rfl))).1
    have h2 := hF.lt
    omega
  · rintro e w' ⟨he, ho, hg⟩
    exact ⟨he, k _ w' ⟨ho, fun x hx => .inl (hS.2 x hx)⟩ ((Fr.of_grown hg).mono fun x _ hx => hS.2 x hx)⟩
end
/-- what eliminate works on: the field's box, the rows' box, the pivots; behind them the rows -/
def Els (ts : List Thing) (fb rb fg R r c : Nat) (pv : Value) (piv : List Nat) : List Thing :=
  ts ++ [blkT fb (.cells #[.pointer (some ⟨fg, 0, none⟩)] 31 (0, 0)), blkT rb (.cells #[.slice (some ⟨R, 0, none⟩) r c] 35 (0, 0)), ownT 3 1 pv piv.length (piv.map fun (p : Nat) => .int .i64 (p : Int))]
structure EL (B : Nat) (w0 w : World) (ts : List Thing) (fb rb fg R r c : Nat) (pv : Value) (piv : List Nat) (vs : List Value) (M : List (List UInt8)) (N : Nat) : Prop where
  fam : Fam B w0 w (Els ts fb rb fg R r c pv piv ++ gridT (.slice (some ⟨R, 0, none⟩) r c) vs M)
  r : r = M.length
  vl : vs.length = M.length
  n : ∀ i, i < M.length → (M.getD i []).length = N
section
variable {B : Nat} {w0 w w' : World} {ts : List Thing} {fb rb fg R r c : Nat} {pv : Value} {piv : List Nat} {vs : List Value} {M : List (List UInt8)} {N : Nat}
theorem EL.below (h : EL B w0 w ts fb rb fg R r c pv piv vs M N) (hb : Below w.heap.size w w') : EL B w0 w' ts fb rb fg R r c pv piv vs M N := ⟨h.fam.below hb, h.r, h.vl, h.n⟩
theorem EL.boxes (h : EL B w0 w ts fb rb fg R r c pv piv vs M N) : w.cell? ⟨fb, 0, none⟩ = some (.pointer (some ⟨fg, 0, none⟩)) ∧ w.cell? ⟨rb, 0, none⟩ = some (.slice (some ⟨R, 0, none⟩) r c) := by
  have h1 := h.fam.back
  unfold Els at h1
  exact ⟨by rw [blk_cell (h1.blkL 0 rfl)]; rfl, by rw [blk_cell (h1.blkL 1 rfl)]; rfl⟩
/-- a row: its value, where it lies, its bytes -/
theorem EL.row (h : EL B w0 w ts fb rb fg R r c pv piv vs M N) (i : Nat) (hi : i < r) : ∃ v L, vs.getD i (.slice none 0 0) = v ∧ M.getD i [] = L ∧ w.cell? ⟨R, i, none⟩ = some v ∧ w.frozen? ⟨R, i, none⟩ = false ∧ OwnB w 0 v L ∧ L.length = N ∧ (Els ts fb rb fg R r c pv piv ++ gridT (.slice (some ⟨R, 0, none⟩) r c) vs M)[(Els ts fb rb fg R r c pv piv).length + (i + 1)]? = some (rowT v L) := by
  have hi' : i < M.length := by have := h.r; omega
  obtain ⟨c0, f0⟩ := h.fam.gridVal h.r h.vl i hi'
  exact ⟨_, _, rfl, rfl, c0, f0, h.fam.gridOwn h.vl i hi', h.n i hi', by rw [get_at]; exact grid_at h.vl hi'⟩
/-- a row's block is none of the others -/
theorem els_apart (h : EL B w0 w ts fb rb fg R r c pv piv vs M N) {i g n k : Nat} {L : List UInt8} (gi : (Els ts fb rb fg R r c pv piv ++ gridT (.slice (some ⟨R, 0, none⟩) r c) vs M)[(Els ts fb rb fg R r c pv piv).length + (i + 1)]? = some (rowT (.slice (some ⟨g, 0, none⟩) n k) L)) : g ≠ R ∧ g ≠ rb ∧ g ≠ fb := by
  obtain ⟨S, hS, _, ho, _⟩ := h.fam.split gi
  have hg := hS.2 g rfl
  have key : ∀ (m : Nat) (u : Thing) (x : Nat), m ≠ (Els ts fb rb fg R r c pv piv).length + (i + 1) → (Els ts fb rb fg R r c pv piv ++ gridT (.slice (some ⟨R, 0, none⟩) r c) vs M)[m]? = some u → (∀ T, u.at_ w T → T x) → g ≠ x := by
    rintro m u x hm hu hx rfl
    obtain ⟨T, hT, hTS⟩ := ho m u hm hu
    exact hTS g (hx T hT) hg
  have hl : (Els ts fb rb fg R r c pv piv).length = ts.length + 3 := by unfold Els; simp
  refine ⟨?_, ?_, ?_⟩
  · exact key ((Els ts fb rb fg R r c pv piv).length + 0) (ownT 22 1 (.slice (some ⟨R, 0, none⟩) r c) M.length vs) R (by omega) (by rw [get_at]; rfl) fun T hT => hT.2 R rfl
  · exact key (ts.length + 1) (blkT rb (.cells #[.slice (some ⟨R, 0, none⟩) r c] 35 (0, 0))) rb (by omega) (get_app (by unfold Els; rw [get_at]; rfl)) fun T hT => hT.2
  · exact key (ts.length + 0) (blkT fb (.cells #[.pointer (some ⟨fg, 0, none⟩)] 31 (0, 0))) fb (by omega) (get_app (by unfold Els; rw [get_at]; rfl)) fun T hT => hT.2
/-- a row's bytes are others now -/
theorem EL.put {L : List UInt8} (h : EL B w0 w ts fb rb fg R r c pv piv vs M N) {i : Nat} (hi : i < r) (hL : L.length = N) (hf : Fam B w0 w' ((Els ts fb rb fg R r c pv piv ++ gridT (.slice (some ⟨R, 0, none⟩) r c) vs M).set ((Els ts fb rb fg R r c pv piv).length + (i + 1)) (rowT (vs.getD i (.slice none 0 0)) L))) : EL B w0 w' ts fb rb fg R r c pv piv vs (M.set i L) N := by
  have hi' : i < M.length := by have := h.r; omega
  rw [set_at, grid_set h.vl hi' L] at hf
  refine ⟨hf, by rw [List.length_set]; exact h.r, by rw [List.length_set]; exact h.vl, fun t ht => ?_⟩
  rw [getD_set M i t L hi']
  split
  · exact hL
  · exact h.n t (by simpa using ht)
set_option maxRecDepth 100000 in
set_option maxHeartbeats 4000000 in
theorem add_any (h : EL B w0 w ts fb rb fg R r c pv piv vs M N) (hB : B = w0.heap.size) {q : UInt8} (hF : FieldAt w0 fg q) (i j : Nat) (hi : i < r) (hj : j < r) (k : UInt8) (_ : r ≤ 1024) (hN : N ≤ 1024) :
    Calls Try.prog 110 #[.int .i64 i, Go.Proofs.Ytkklonldplekcaa.B k, .int .i64 j, .pointer (some ⟨fb, 0, none⟩), .pointer (some ⟨rb, 0, none⟩)] w fun e w' => e = .returned (.tuple #[]) ∧ EL B w0 w' ts fb rb fg R r c pv piv vs (M.set i (am q k 0 (M.getD i []) (M.getD j []) N)) N := by
  have H := hid h
  obtain ⟨b1, b2⟩ := h.boxes
  obtain ⟨vi, Li, hvi, hLi, ci, fi, oi, li, gi⟩ := h.row i hi
  obtain ⟨vj, Lj, hvj, hLj, cj, fj, oj, lj, gj⟩ := h.row j hj
  obtain ⟨Ai, ki, rfl⟩ := oi.form
  obtain ⟨Aj, kj, rfl⟩ := oj.form
  have hfd := hid (h.below (Below.refl w.heap.size w).drew)
  have HA := hid (AddMul_fam hfd.out.fam hB hF gi gj (by rw [li, lj]) (by omega) k)
  have i0 : (0 : Int) ≤ (i : Int) := by omega
  have i1 : (i : Int) < (r : Int) := by omega
  have j0 : (0 : Int) ≤ (j : Int) := by omega
  have j1 : (j : Int) < (r : Int) := by omega
  rw [hLi, hLj]
  have HP : Hid (∀ w', Fam B w0 w' ((Els ts fb rb fg R r c pv piv ++ gridT (.slice (some ⟨R, 0, none⟩) r c) vs M).set ((Els ts fb rb fg R r c pv piv).length + (i + 1)) (rowT (.slice Ai Li.length ki) (am q k 0 Li Lj Lj.length))) → EL B w0 w' ts fb rb fg R r c pv piv vs (M.set i (am q k 0 Li Lj N)) N) := hid fun w' hf => by
    rw [lj] at hf
    refine hfd.out.put hi (by rw [am_length]; exact li) ?_
    rw [hvi]; exact hf
  clear h hvi hLi hvj hLj oi oj li lj gi gj fi fj
  go_enter Try.func110, Try.ntmps110
  go_still_tail 10, (by kernel_rfl)
  change wpList _ _ _ _ _ w.drew
  generalize w.drew = w1 at *
  go_wp2_with fail
  refine HA.out.mono ?_
  rintro e w2 ⟨rfl, h2⟩
  have R2 := hid (HP.out w2 h2)
  clear h2
  go_wp2
  go_returns
  exact ⟨rfl, R2.out⟩
theorem els_swap (h : EL B w0 w ts fb rb fg R r c pv piv vs M N) {i j : Nat} (hi : i < r) (hj : j < r) {vi vj : Value} (ei : vs.getD i (.slice none 0 0) = vi) (ej : vs.getD j (.slice none 0 0) = vj) : EL B w0 ((w.setCell ⟨R, i, none⟩ vj).setCell ⟨R, j, none⟩ vi) ts fb rb fg R r c pv piv ((vs.set i vj).set j vi) ((M.set i (M.getD j [])).set j (M.getD i [])) N := by
  obtain ⟨_, Li, e1, hLi, _, _, _, li, gi⟩ := h.row i hi
  obtain ⟨_, Lj, e2, hLj, _, _, _, lj, gj⟩ := h.row j hj
  rw [← e1, ei] at gi
  rw [← e2, ej] at gj
  have hr := h.r
  have h1 := h.fam.swapAt gi gj
  rw [set_at, set_at] at h1
  have e : ((gridT (.slice (some ⟨R, 0, none⟩) r c) vs M).set (i + 1) (rowT vj Lj)).set (j + 1) (rowT vi Li) = ownT 22 1 (.slice (some ⟨R, 0, none⟩) r c) M.length vs :: rowsT ((vs.set i vj).set j vi) ((M.set i Lj).set j Li) := by
    unfold gridT
    rw [List.set_cons_succ, List.set_cons_succ, rowsT_put vs M i vj Lj h.vl, rowsT_put _ _ j vi Li (by rw [List.length_set, List.length_set]; exact h.vl)]
  rw [e] at h1
  subst hr
  obtain ⟨S, hS, _, kk⟩ := h1.call (i := (Els ts fb rb fg R M.length c pv piv).length + 0) (by rw [get_at]; rfl)
  have hs1 := hS.1.stored i vj
  have hs2 := hs1.1.stored j vi
  have h2 := kk (ownT 22 1 (.slice (some ⟨R, 0, none⟩) M.length c) M.length ((vs.set i vj).set j vi)) ((w.setCell ⟨R, i, none⟩ vj).setCell ⟨R, j, none⟩ vi) ⟨hs2.1, fun t ht => .inl (hS.2 t ht)⟩ (((Fr.set_ (g := R) i vj).trans ((Fr.set_ (g := R) j vi).mono fun k _ e => .inl e)).mono fun k _ e => hS.2 k (by rw [e]; rfl))
  rw [set_at] at h2
  rw [hLi, hLj]
  refine ⟨?_, by simp, by simp [h.vl], fun t ht => ?_⟩
  · unfold gridT
    rw [List.length_set, List.length_set]
    exact h2
  · rw [getD_set _ j t Li (by simpa using hj)]
    split
    · exact li
    · rw [getD_set M i t Lj hi]
      split
      · exact lj
      · exact h.n t (by simpa using ht)
set_option maxRecDepth 100000 in
set_option maxHeartbeats 4000000 in
theorem swap_any (h : EL B w0 w ts fb rb fg R r c pv piv vs M N) (i j : Nat) (hi : i < r) (hj : j < r) (_ : r ≤ 1024) :
    Calls Try.prog 109 #[.int .i64 i, .int .i64 j, .pointer (some ⟨rb, 0, none⟩)] w fun e w' => e = .returned (.tuple #[]) ∧ ∃ vs', EL B w0 w' ts fb rb fg R r c pv piv vs' ((M.set i (M.getD j [])).set j (M.getD i [])) N := by
  obtain ⟨b1, b2⟩ := h.boxes
  obtain ⟨vi, Li, hvi, hLi, ci, fi, oi, li, gi⟩ := h.row i hi
  obtain ⟨vj, Lj, hvj, hLj, cj, fj, oj, lj, gj⟩ := h.row j hj
  obtain ⟨Ai, ki, rfl⟩ := oi.form
  obtain ⟨Aj, kj, rfl⟩ := oj.form
  have HS := hid (els_swap h hi hj hvi hvj)
  have hrb : rb ≠ R := by
    intro e
    have h1 := h.fam.back
    unfold Els at h1
    have h2 := h1.blkL 1 rfl
    have ho := (h.fam.own (i := (Els ts fb rb fg R r c pv piv).length + 0) (by rw [get_at]; rfl)).1
    obtain ⟨_, ⟨e, _⟩ | ⟨g, cap, cur, e3, _, hg, _⟩⟩ := ho
    · cases e
    · injection e3 with e1
      injection e1 with e1
      injection e1 with e1
      rw [← e1, ← e, h2] at hg
      injection hg with hg
      injection hg with _ e2
      exact absurd e2 (by decide)
  have i0 : (0 : Int) ≤ (i : Int) := by omega
  have i1 : (i : Int) < (r : Int) := by omega
  have j0 : (0 : Int) ≤ (j : Int) := by omega
  have j1 : (j : Int) < (r : Int) := by omega
  clear h hvi hLi hvj hLj oi oj li lj gi gj
  go_enter Try.func109, Try.ntmps109
  rcases Nat.decEq i j with hij | hij
  case' isTrue =>
    subst hij
    have e := Option.some.inj (ci.symm.trans cj)
    rw [← e] at HS
    clear e cj fj
  all_goals
    go_region
  all_goals
    go_returns
    exact ⟨rfl, _, HS.out.below (Below.refl _ _).drew⟩
end
end Go.Proofs.Ytkklonldplekcaa
