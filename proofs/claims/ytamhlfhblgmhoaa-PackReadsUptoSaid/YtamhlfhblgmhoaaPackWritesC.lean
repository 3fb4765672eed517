/- The calls of the law PackWrites: a copy with a mark behind it, what a writer tells, a size of the document. -/
import Derived.Test.YtamhlfhblgmhoaaPkY
import Derived.Test.YtamhlfhblgmhoaaPkO
namespace Go.Proofs.Ytamhlfhblgmhoaa
open Go.RowKit
theorem sl_fr0 {X : Nat → Prop} {w w1 : World} {v : Value} {l : List UInt8} (h : SlB w v l) (hf : Fr X w w1) (hx : 0 < l.length → ∀ k, v.ownBlock = some k → ¬ X k) : SlB w1 v l := by
  obtain ⟨A, c, rfl, h1, h2, h3⟩ := h
  refine ⟨A, c, rfl, h1, h2, fun h0 => ?_⟩
  obtain ⟨b, off, rfl, hc⟩ := h3 h0
  refine ⟨b, off, rfl, fun i hi => ?_⟩
  have hb := World.block_lt_of_cell? w _ (hc i hi)
  rw [World.cell?_of_block (w := w) (w' := w1) (a := ⟨b, off + i, none⟩) (hf.block b hb (hx h0 b rfl)), hc i hi]
theorem sl_lt {w : World} {v : Value} {l : List UInt8} (h : SlB w v l) (h0 : 0 < l.length) : ∀ k, v.ownBlock = some k → k < w.heap.size := by
  intro k hk
  obtain ⟨A, c, rfl, h1, h2, h3⟩ := h
  obtain ⟨b, off, rfl, hc⟩ := h3 h0
  have hb := World.block_lt_of_cell? w _ (hc 0 h0)
  injection hk with hk
  have hk : b = k := hk
  subst hk
  exact hb
set_option maxHeartbeats 1000000 in
theorem lent_any (v : Value) (l : List UInt8) (w : World) (h : SlB w v l) (hl : l.length + 1 ≤ 140737488355328) :
    Calls Try.prog 24 #[v] w fun e w' => ∃ g c, e = .returned (.slice (some ⟨g, 0, none⟩) (l.length + 1) c) ∧ OwnB w' w.heap.size (.slice (some ⟨g, 0, none⟩) (l.length + 1) c) (l ++ [77]) ∧ l.length + 1 ≤ c ∧ Below w.heap.size w w' := by
  have H := hid h
  obtain ⟨A, c, rfl⟩ := h.form
  clear h
  go_enter Try.func24, Try.ntmps24
  go_wp2_with (first
    | (at_builtin; refine wpList_appB rfl (.tmp 3) (.tmp 4) rfl w.heap.size _ _ [] l rfl rfl (by exact lit0 w) (by exact H.out.below ((Below.refl _ _).alloc (Nat.le_refl _) _)) (by simp only [List.length_nil]; omega) (by simp) ?_; intro v1 w1 ho1 hg1; rw [List.nil_append] at ho1; have HB := hid (OwnB.grown ((Below.refl w.heap.size w).alloc (Nat.le_refl _) _) (lit0 w) (Nat.le_refl _) (by simp) hg1); obtain ⟨A1, c1, rfl⟩ := ho1.form; have HO := hid ho1; clear ho1 hg1)
    | (at_builtin; refine wpList_appB rfl (.tmp 5) (.tmp 6) rfl w.heap.size _ _ l [77] rfl rfl (HO.out.alloc _) (by exact lit_sl w1 [77] (by simp)) (by simp only [List.length_cons, List.length_nil]; omega) (Nat.le_trans HB.out.size (by simp)) ?_; intro v2 w2 ho2 hg2; have HB2 := hid (OwnB.grown (HB.out.alloc HB.out.size _) (HO.out.alloc _) (Nat.le_refl _) (Nat.le_trans HB.out.size (by simp)) hg2); have HO2 := hid ho2; clear ho2 hg2))
  go_ret
  have ho := HO2.out
  obtain ⟨g, cap, e, _, hc, _⟩ := ho.some_ (by simp)
  rw [e] at ho ⊢
  simp only [List.length_append, List.length_cons, List.length_nil, Nat.zero_add] at ho hc ⊢
  exact ⟨g, cap, rfl, ho, hc, HB2.out⟩
theorem wData_any (g : Nat) (e : Int) (v : Value) (l : List UInt8) (w : World) (h : WAt w g e v l) (hlen : l.length ≤ 140737488355328) :
    Calls Try.prog 11 #[.pointer (some ⟨g, 0, none⟩)] w fun r w' => ∃ A c, r = .returned (.slice A (dataOf e l).length c) ∧ OwnB w' w.heap.size (.slice A (dataOf e l).length c) (dataOf e l) ∧ Below w.heap.size w w' := by
  by_cases he : e = 0
  · subst he
    exact Data_ok g v l w h hlen
  · refine (Data_no g e v l w he h).mono ?_
    rintro r w' ⟨rfl, rfl⟩
    have : dataOf e l = [] := if_neg he
    rw [this]
    exact ⟨none, 0, rfl, OwnB.nil _ _, Below.refl _ _⟩
set_option maxRecDepth 100000 in
set_option maxHeartbeats 1000000 in
theorem vSize_z (n : Int) (n1 : n ≤ 9223372036854775807) (w : World) :
    Calls Try.prog 15 #[.int .i64 n] w fun e w' => e = .returned (.tuple #[.int .i64 (sizeZ n), .int .i64 (serrZ n)]) ∧ Below w.heap.size w w' := by
  rcases Int.lt_or_le n 0 with hn | hn
  · have e1 : sizeZ n = 0 := if_pos hn
    have e2 : serrZ n = 33 := if_pos hn
    rw [e1, e2]
    clear e1 e2
    go_enter Try.func15, Try.ntmps15
    go_wp2
    go_ret2
    exact ⟨rfl, Below.refl _ _⟩
  · obtain ⟨k, rfl⟩ := Int.eq_ofNat_of_zero_le hn
    have e1 : sizeZ (k : Int) = ((Pk.form k).length : Int) := by unfold sizeZ; rw [if_neg (by omega)]; simp
    have e2 : serrZ (k : Int) = 0 := by unfold serrZ; rw [if_neg (by omega)]
    have H9 := Pk.form_nine k (by omega)
    rw [e1, e2]
    clear e1 e2
    go_enter Try.func15, Try.ntmps15
    go_wp2_with fail
    refine (vForm_any k (by omega) w).mono ?_
    rintro e w' ⟨A, c, rfl, ho, hb⟩
    have HB := hid hb
    clear ho hb
    go_wp2
    go_ret2
    exact ⟨rfl, HB.out⟩
end Go.Proofs.Ytamhlfhblgmhoaa
