
/- AddMul, over a window of an owned row. -/
import Derived.Test.YtkklonldplekcaaGfL
import Derived.Test.YtkklonldplekcaaByt
import Derived.Deep.RegionWith
namespace Go.Proofs.Ytkklonldplekcaa
open Go.RowKit

/-- the row L with c times k added from o on, the first i of k done -/
def am (q c : UInt8) (o : Nat) (L k : List UInt8) (i : Nat) : List UInt8 := (List.range L.length).map fun j => if o ≤ j ∧ j < o + i then L.getD j 0 ^^^ Gf.mul q c (k.getD (j - o) 0) else L.getD j 0
theorem am_length (q c : UInt8) (o : Nat) (L k : List UInt8) (i : Nat) : (am q c o L k i).length = L.length := by simp [am]
theorem am_get (q c : UInt8) (o : Nat) (L k : List UInt8) (i j : Nat) (hj : j < L.length) : (am q c o L k i).getD j 0 = if o ≤ j ∧ j < o + i then L.getD j 0 ^^^ Gf.mul q c (k.getD (j - o) 0) else L.getD j 0 := by
  simp [am, hj]
theorem am_zero (q c : UInt8) (o : Nat) (L k : List UInt8) : am q c o L k 0 = L := by
  apply List.ext_getElem
  · simp [am]
  · intro j h1 h2
    have hj : j < L.length := h2
    simp only [am, List.getElem_map, List.getElem_range]
    rw [if_neg (by omega)]
    simp [hj]
theorem am_succ (q c : UInt8) (o : Nat) (L k : List UInt8) (i : Nat) (hi : o + i < L.length) : (am q c o L k i).set (o + i) ((am q c o L k i).getD (o + i) 0 ^^^ Gf.mul q c (k.getD i 0)) = am q c o L k (i + 1) := by
  apply List.ext_getElem
  · simp [am]
  · intro j h1 h2
    have hj : j < L.length := by simpa [am] using h2
    have e : (am q c o L k i).getD (o + i) 0 = L.getD (o + i) 0 := by rw [am_get _ _ _ _ _ _ _ hi, if_neg (by omega)]
    simp only [e]
    rw [List.getElem_set]
    by_cases h : o + i = j
    · subst h
      simp [am]
    · rw [if_neg h]
      simp only [am, List.getElem_map, List.getElem_range]
      by_cases h2 : o ≤ j ∧ j < o + i
      · rw [if_pos h2, if_pos (by omega)]
      · rw [if_neg h2, if_neg (by omega)]
theorem grown_set (w : World) (g i : Nat) (v : Value) : w.grownBy (w.setCell ⟨g, i, none⟩ v) (some g) :=
  ⟨rfl, rfl, rfl, by simp, fun k hk hne => heap_setCell_other _ _ _ _ (by simpa using fun e => hne (by rw [e]))⟩
theorem grown_drewN (w : World) (n : Nat) (row : Option Nat) : w.grownBy (w.drewN n) row := ⟨rfl, rfl, rfl, Nat.le_refl _, fun _ _ _ => rfl⟩
theorem FieldAt.grown {w w' : World} {g : Nat} {q : UInt8} {row : Option Nat} (h : FieldAt w g q) (hg : w.grownBy w' row) (hne : some g ≠ row) : FieldAt w' g q := by
  have hl := h.lt
  obtain ⟨⟨e, l, hx, r⟩, hgen⟩ := h
  exact ⟨⟨e, l, (hg.block g hl hne).trans hx, r⟩, hgen⟩

theorem OwnB.drew_ {w : World} {base : Nat} {v : Value} {l : List UInt8} (h : OwnB w base v l) (n : Nat) : OwnB (w.drewN n) base v l := h.below (below_drewN (Below.refl _ _) n)
theorem AddMul_nil (v u : Value) (c : UInt8) (w : World) :
    Calls Try.prog 70 #[.pointer none, v, B c, u] w fun e w' => e = .returned (.int .i64 0) ∧ w' = w := by
  go_enter Try.func70, Try.ntmps70
  go_wp2
  go_ret
  exact ⟨rfl, rfl⟩
theorem AddMul_shape (fg : Nat) (A A' : Option Addr) (m m' k k' : Nat) (c : UInt8) (h : m ≠ m') (w : World) :
    Calls Try.prog 70 #[.pointer (some ⟨fg, 0, none⟩), .slice A m k, B c, .slice A' m' k'] w fun e w' => e = .returned (.int .i64 12) ∧ w' = w := by
  have h' : ((m : Int) == (m' : Int)) = false := by rw [beq_eq_false_iff_ne]; omega
  clear h
  go_enter Try.func70, Try.ntmps70
  go_wp2
  go_ret
  exact ⟨rfl, rfl⟩
set_option maxRecDepth 100000 in
set_option maxHeartbeats 1000000 in
theorem AddMul_any (fg : Nat) (q c : UInt8) (w : World) (hF : FieldAt w fg q) (v : Value) (L : List UInt8) (base : Nat) (ho : OwnB w base v L) (A : Option Addr) (o m cap : Nat)
    (hA : 0 < m → ∃ g c', v = .slice (some ⟨g, 0, none⟩) L.length c' ∧ A = some ⟨g, o, none⟩ ∧ fg ≠ g) (hom : o + m ≤ L.length) (s : Value) (k : List UInt8) (hs : SlB w s k) (hk : k.length = m) (hmax : m ≤ 140737488355328) (hcap : m ≤ cap) :
    Calls Try.prog 70 #[.pointer (some ⟨fg, 0, none⟩), .slice A m cap, B c, s] w fun e w' => e = .returned (.int .i64 0) ∧ OwnB w' base v (am q c o L k k.length) ∧ w.grownBy w' v.ownBlock := by
  obtain ⟨A', cs, rfl⟩ := hs.form
  subst hk
  have HS := hid hs
  have HF := hid hF
  have HO := hid ho
  have HA := hid hA
  have HM := hid hmax
  have HC := hid hom
  clear hs hF ho hA hmax hom
  go_enter Try.func70, Try.ntmps70
  go_wp2_with (refine wpList_appB rfl _ _ rfl w.heap.size (.slice none 0 0) (.slice A' k.length cs) [] k (by rfl) (by rfl) (OwnB.nil _ _) HS.out (by have := HM.out; simp; omega) (Nat.le_refl _) ?_; rintro v' w1 ho1 hg1)
  have HV := hid (show OwnB w1 base v L from own_block HO.out fun j hj => hg1.block j (World.ownsRow.lt HO.out j hj).2 (fun e => by cases e))
  have HF1 := hid (HF.out.grown (row := none) hg1 (fun e => by cases e))
  rw [List.nil_append] at ho1
  have HO1 := hid ho1
  have HG1 := hid (show w.grownBy w1 v.ownBlock from World.grownBy.but hg1 _)
  have HVL : Hid (∀ j, v.ownBlock = some j → j < w.heap.size) := hid fun j hj => (World.ownsRow.lt HO.out j hj).2
  obtain ⟨A1, c1, rfl⟩ := ho1.form
  clear ho1 hg1
  clear HO HF
  go_simp
  go_wp2
  go_loopw [23] (fun i wr => ∃ n : Nat, n ≤ k.length ∧ i = .int .i64 n ∧ OwnB wr base v (am q c o L k n) ∧ OwnB wr w.heap.size (.slice A1 k.length c1) k ∧ FieldAt wr fg q ∧ w.grownBy wr v.ownBlock) (fun i _ => k.length - (intOf i).toNat)
  case atStart => exact ⟨0, Nat.zero_le _, rfl, by rw [am_zero]; exact HV.out, HO1.out, HF1.out, HG1.out⟩
  case round =>
    obtain ⟨n, hn, rfl, hv, hw, hf, hg⟩ := hrel
    by_cases hlt : n < k.length
    · obtain ⟨g, c', rfl, rfl, hne⟩ := HA.out (by omega)
      have ho := HC.out
      have hd := hv.at_ (o + n) (by rw [am_length]; omega)
      obtain ⟨hd1, hd2⟩ := hd
      obtain ⟨g1, o1, rfl, h1⟩ := SlB.cells hw.sl (by omega)
      replace h1 := h1 n hlt
      have HR : Hid (am q c o L k (n + 1) = (am q c o L k n).set (o + n) ((am q c o L k n).getD (o + n) 0 ^^^ Gf.mul q c (k.getD n 0))) := (am_succ q c o L k n (by omega)).symm
      have HV1 := hid hv
      have HW1 := hid hw
      have HF2 := hid hf
      have HG2 := hid hg
      clear hv hw hf hg
      generalize (am q c o L k n).getD (o + n) 0 = x at *
      generalize k.getD n 0 = y at *
      have hne2 : g1 ≠ g := by
        have h1 := (World.ownsRow.lt HO1.out g1 rfl).1
        have h2 := HVL.out g rfl
        omega
      have hm := HM.out
      go_upto_region 9 with fail
      go_region_with (first | (go_at_call 37; refine Calls.mono (Mul_any fg q c y _ (HF2.out.any rfl)) ?_; rintro e w' ⟨rfl, nn, rfl⟩))
      all_goals
        go_simp
        go_wp2
        go_roundw
        case rel =>
          rw [xor8]
          have e2 := (HV1.out.drew_ (1 + nn)).set_ (o + n) (x ^^^ Gf.mul q c y)
          rw [← HR.out] at e2
          refine ⟨n + 1, by omega, by go_num, e2, ?_, ?_, ?_⟩
          · exact own_block (HW1.out.drew_ (1 + nn)) fun j hj => by
              simp only [Value.ownBlock, Option.some.injEq] at hj
              subst hj
              exact heap_setCell_other _ _ _ _ hne2
          · exact (HF2.out.drewN (1 + nn)).grown (grown_set _ g _ _) (by simpa using hne)
          · exact (HG2.out.trans (grown_drewN _ _ _)).trans (grown_set _ g _ _)
        case measure => simp [intOf]; omega
    · have hge : k.length ≤ n := by omega
      obtain rfl : n = k.length := by omega
      clear hlt
      have R := hid (⟨hv, hg⟩ : OwnB wr base v (am q c o L k k.length) ∧ w.grownBy wr v.ownBlock)
      clear hv hg hw hf
      go_wp2
      go_ret
      exact ⟨rfl, R.out⟩
end Go.Proofs.Ytkklonldplekcaa
