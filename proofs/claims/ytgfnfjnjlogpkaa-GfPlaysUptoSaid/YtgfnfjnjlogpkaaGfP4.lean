/- The law's lists: lent, whole, turned; the document's sum of lists. -/
import Derived.Test.YtgfnfjnjlogpkaaGfP3
import Derived.Deep.RegionWith
namespace Go.Proofs.Ytgfnfjnjlogpkaa
open Go.RowKit
set_option maxHeartbeats 1000000 in
theorem rAddMul_shape (g : Nat) (u v : Value) (L k : List UInt8) (c : UInt8) (w : World) (hu : SlB w u L) (hv : SlB w v k) (hne : L.length ≠ k.length) (hmax : L.length ≤ 140737488355328) :
    Calls Try.prog 48 #[.pointer (some ⟨g, 0, none⟩), u, B c, v] w fun e w' => ∃ r, e = .returned (.tuple #[r, .int .i64 12]) ∧ OwnB w' w.heap.size r L ∧ Below w.heap.size w w' := by
  obtain ⟨A, cu, rfl⟩ := hu.form
  obtain ⟨A', cv, rfl⟩ := hv.form
  have hb : ((L.length : Int) != (k.length : Int)) = true := by rw [bne_iff_ne]; omega
  have HU := hid hu
  clear hu hv hne
  go_enter Try.func48, Try.ntmps48
  go_wp2_with (at_builtin; refine wpList_appB rfl (.tmp 12) (.tmp 13) rfl w.heap.size _ _ [] L rfl rfl (by exact lit0 w) (by exact HU.out.below ((Below.refl _ _).alloc (Nat.le_refl _) _)) (by simp only [List.length_nil]; omega) (by simp) ?_; intro v1 w1 ho1 hg1; rw [List.nil_append] at ho1; have HB := hid (OwnB.grown ((Below.refl w.heap.size w).alloc (Nat.le_refl _) _) (lit0 w) (Nat.le_refl _) (by simp) hg1); have HO := hid ho1; clear ho1 hg1)
  go_ret2
  exact ⟨_, rfl, HO.out, HB.out⟩
set_option maxRecDepth 100000 in
set_option maxHeartbeats 2000000 in
theorem rAddMul_any (g : Nat) (q c : UInt8) (u v : Value) (L k : List UInt8) (w : World) (h : RF w g q) (hu : SlB w u L) (hv : SlB w v k) (hlk : k.length = L.length) (hmax : L.length ≤ 140737488355328) :
    Calls Try.prog 48 #[.pointer (some ⟨g, 0, none⟩), u, B c, v] w fun e w' => ∃ r, e = .returned (.tuple #[r, .int .i64 0]) ∧ OwnB w' w.heap.size r (am q c 0 L k k.length) ∧ Below w.heap.size w w' := by
  obtain ⟨A, cu, rfl⟩ := hu.form
  obtain ⟨A', cv, rfl⟩ := hv.form
  rw [hlk]
  have HLK := hid hlk
  have HU := hid hu
  have HV := hid hv
  have H := hid h
  clear h hu hv hlk
  go_enter Try.func48, Try.ntmps48
  go_wp2_with (at_builtin; refine wpList_appB rfl (.tmp 12) (.tmp 13) rfl w.heap.size _ _ [] L rfl rfl (by exact lit0 w) (by exact HU.out.below ((Below.refl _ _).alloc (Nat.le_refl _) _)) (by simp only [List.length_nil]; omega) (by simp) ?_; intro v1 w1 ho1 hg1; rw [List.nil_append] at ho1; have HB := hid (OwnB.grown ((Below.refl w.heap.size w).alloc (Nat.le_refl _) _) (lit0 w) (Nat.le_refl _) (by simp) hg1); obtain ⟨A1, c1, rfl⟩ := ho1.form; have HO := hid ho1; clear ho1 hg1)
  go_loopw [11] (fun i wr => ∃ n : Nat, n ≤ L.length ∧ i = .int .i64 n ∧ OwnB wr w.heap.size (.slice A1 L.length c1) (am q c 0 L k n) ∧ Below w.heap.size w wr) (fun i _ => L.length - (intOf i).toNat)
  case atStart => exact ⟨0, Nat.zero_le _, rfl, by rw [am_zero]; exact HO.out, HB.out⟩
  case round =>
    obtain ⟨n, hn, rfl, hv, hb⟩ := hrel
    by_cases hlt : n < L.length
    · obtain ⟨g1, cap, e, hg1, _, _⟩ := hv.some_ (by rw [am_length]; omega)
      rw [am_length] at e
      injection e with e1 _ e3
      subst e1 e3
      obtain ⟨hd1, hd2⟩ := hv.at_ n (by rw [am_length]; omega)
      obtain ⟨g2, o2, rfl, h2⟩ := SlB.cells (HV.out.below hb) (by rw [HLK.out]; omega)
      replace h2 := h2 n (by rw [HLK.out]; omega)
      have HR : Hid (am q c 0 L k (n + 1) = (am q c 0 L k n).set n ((am q c 0 L k n).getD n 0 ^^^ Gf.mul q c (k.getD n 0))) := hid (by have := (am_succ q c 0 L k n (by omega)).symm; rwa [Nat.zero_add] at this)
      have HV1 := hid hv
      have HB1 := hid hb
      clear hv hb
      generalize (am q c 0 L k n).getD n 0 = x at *
      generalize k.getD n 0 = y at *
      go_wp2
      go_region_with (first | (go_at_call 36; refine Calls.mono (rMul_any g q c y _ (H.out.below (HB1.out.trans (below_drewN (Below.refl _ _) 1)))) ?_; rintro e w' ⟨rfl, rfl⟩))
      all_goals
        go_simp
        go_wp2
        go_roundw
        case rel =>
          rw [xor8]
          have e2 := (HV1.out.drew).set_ n (x ^^^ Gf.mul q c y)
          rw [← HR.out] at e2
          exact ⟨n + 1, by omega, by go_num, e2, below_set (HB1.out.drew) hg1 n _⟩
        case measure => simp [intOf]; omega
    · obtain rfl : n = L.length := by omega
      have HV1 := hid hv
      have HB1 := hid hb
      clear hv hb
      go_wp2
      go_ret2
      exact ⟨_, rfl, HV1.out, HB1.out⟩
def tail2 : List UInt8 := [77, 78]
set_option maxHeartbeats 1000000 in
theorem lent_any (v : Value) (l : List UInt8) (w : World) (h : SlB w v l) (hl : l.length + 2 ≤ 140737488355328) :
    Calls Try.prog 44 #[v] w fun e w' => ∃ g c, e = .returned (.slice (some ⟨g, 0, none⟩) (l.length + 2) c) ∧ OwnB w' w.heap.size (.slice (some ⟨g, 0, none⟩) (l.length + 2) c) (l ++ [77, 78]) ∧ l.length + 2 ≤ c ∧ Below w.heap.size w w' := by
  have H := hid h
  obtain ⟨A, c, rfl⟩ := h.form
  clear h
  go_enter Try.func44, Try.ntmps44
  go_wp2_with (first
    | (at_builtin; refine wpList_appB rfl (.tmp 3) (.tmp 4) rfl w.heap.size _ _ [] l rfl rfl (by exact lit0 w) (by exact H.out.below ((Below.refl _ _).alloc (Nat.le_refl _) _)) (by simp only [List.length_nil]; omega) (by simp) ?_; intro v1 w1 ho1 hg1; rw [List.nil_append] at ho1; have HB := hid (OwnB.grown ((Below.refl w.heap.size w).alloc (Nat.le_refl _) _) (lit0 w) (Nat.le_refl _) (by simp) hg1); obtain ⟨A1, c1, rfl⟩ := ho1.form; have HO := hid ho1; clear ho1 hg1)
    | (at_builtin; refine wpList_appB rfl (.tmp 5) (.tmp 6) rfl w.heap.size _ _ l [77, 78] rfl rfl (HO.out.alloc _) (by exact lit_sl w1 [77, 78] (by simp)) (by simp only [List.length_cons, List.length_nil]; omega) (Nat.le_trans HB.out.size (by simp)) ?_; intro v2 w2 ho2 hg2; have HB2 := hid (OwnB.grown (HB.out.alloc HB.out.size _) (HO.out.alloc _) (Nat.le_refl _) (Nat.le_trans HB.out.size (by simp)) hg2); have HO2 := hid ho2; clear ho2 hg2))
  go_ret
  have ho := HO2.out
  obtain ⟨g, cap, e, _, hc, _⟩ := ho.some_ (by simp)
  rw [e] at ho ⊢
  simp only [List.length_append, List.length_cons, List.length_nil, Nat.zero_add] at ho hc ⊢
  exact ⟨g, cap, rfl, ho, hc, HB2.out⟩
end Go.Proofs.Ytgfnfjnjlogpkaa
