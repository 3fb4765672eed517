/- The copies of the generator's rows: slices.Clone, code.Rows. -/
import Derived.Test.YtkklonldplekcaaCdC
import Derived.Laws.Entries
namespace Go.Proofs.Ytkklonldplekcaa
open Go.RowKit
theorem lit0_ (w : World) : OwnB (w.alloc (.cells #[] 5 (0, 0))) w.heap.size (.slice (some ⟨w.heap.size, 0, none⟩) 0 0) [] := by
  rcases litB w [] with h | h
  · exact h
  · simp at h
set_option maxHeartbeats 1000000 in
theorem Clone_any (v : Value) (l : List UInt8) (w : World) (h : SlB w v l) (hl : l.length ≤ 140737488355328) :
    Calls Try.prog 83 #[v] w fun e w' => ∃ v', e = .returned v' ∧ OwnB w' w.heap.size v' l ∧ Below w.heap.size w w' := by
  have hq := fun (a : Option Addr) (n c : Nat) (w : World) => Lib.run_eql_slice_nil (P := Try.prog) w 22 5 a n c 0 0 Try.underlying22
  obtain ⟨A, c, rfl⟩ := h.form
  cases A with
  | none =>
    obtain ⟨_, _, e, h1, h2, _⟩ := h
    injection e with e1 _ e3
    subst e1 e3
    have hc := h2 rfl
    obtain rfl : l = [] := List.length_eq_zero_iff.1 (by omega)
    subst hc
    go_enter Try.func83, Try.ntmps83
    go_wp2
    go_ret
    exact ⟨_, rfl, OwnB.nil _ _, Below.refl _ _⟩
  | some a =>
    have H := hid h
    clear h
    go_enter Try.func83, Try.ntmps83
    go_wp2_with (at_builtin; refine wpList_appB rfl (.tmp 5) (.tmp 6) rfl w.heap.size _ _ [] l rfl rfl (by exact lit0_ w) (by exact H.out.below ((Below.refl _ _).alloc (Nat.le_refl _) _)) (by simp only [List.length_nil]; omega) (by simp) ?_; intro v1 w1 ho1 hg1; rw [List.nil_append] at ho1; have HB := hid (OwnB.grown ((Below.refl w.heap.size w).alloc (Nat.le_refl _) _) (lit0_ w) (Nat.le_refl _) (by simp) hg1); have HO := hid ho1; clear ho1 hg1)
    go_ret
    exact ⟨_, rfl, HO.out, HB.out⟩
set_option maxRecDepth 100000 in
set_option maxHeartbeats 8000000 in
theorem CodeRows_any (w : World) (c n k : Nat) (G : List (List UInt8)) (h : CodeAt w c n k G) :
    Calls Try.prog 43 #[.pointer (some ⟨c, 0, none⟩)] w fun e w' => ∃ A cp, e = .returned (.slice A n cp) ∧ ToldN w.heap.size w w' [] G n (.slice A n cp) := by
  have H := hid h
  have hk1 := h.k1
  have hkn := h.kn
  have hn := h.n255
  have HGL := hid h.len
  obtain ⟨fg, R, o, cp, hfd, _, _, _, c3, hrow⟩ := h.cells
  have HROW := hid hrow
  clear h hfd hrow
  go_enter Try.func43, Try.ntmps43
  go_wp2
  clear c3
  go_loopw [3, 5, 13] (fun l _ x wr => ∃ i : Nat, i ≤ n ∧ x = .int .i64 i ∧ ToldN w.heap.size w wr [] G i l) (fun _ _ x _ => n - (intOf x).toNat)
  case atStart => exact ⟨0, Nat.zero_le _, rfl, ToldN.start w G⟩
  case round =>
    obtain ⟨i, hi, rfl, ht⟩ := hrel
    have hel : i ≤ G.length := by rw [HGL.out]; exact hi
    obtain ⟨vs, hvl, hf, ho, A, cl, rfl⟩ := ht.own hel
    have HVL := hid hvl
    have HF := hid hf
    have HO := hid ho
    have HT := hid ht
    clear hvl hf ho ht hel
    by_cases hlt : i < n
    · obtain ⟨A1, q1, e0, s1⟩ := HROW.out i hlt
      have e1 : wr.cell? ⟨R, o + i, none⟩ = some (.slice A1 k q1) := (HF.out.base.cell (World.block_lt_of_cell? w _ e0)).trans e0
      obtain ⟨Fi, hFi⟩ : ∃ Fi, G.getD i [] = Fi := ⟨_, rfl⟩
      have hFl := H.out.row i hlt
      rw [hFi] at s1 hFl
      have HFI := hid hFi
      have CS := hid (Clone_any _ Fi wr (s1.below HF.out.base) (by omega))
      have i0 : (0 : Int) ≤ (i : Int) := by omega
      have i1 : (i : Int) < (n : Int) := by omega
      have HFL := hid hFl
      clear e0 s1 hFi hFl
      go_wp2_with fail
      refine CS.out.mono ?_
      rintro e w3 ⟨y, rfl, hy, hb⟩
      obtain ⟨Ay, cy, e2⟩ := hy.form
      rw [HFL.out] at e2
      subst e2
      have HY : Hid (OwnB w3 wr.heap.size (.slice Ay k cy) (G.getD i [])) := hid (by rw [HFI.out]; exact hy)
      have HB3 := hid hb
      have HO3 : Hid ((w3.alloc (.cells #[.slice Ay k cy] 22 (0, 0))).ownsRow 0 22 1 (.slice A i cl) i vs) := hid (World.ownsRow.alloc (own_fr HO.out (Fr.of_below HB3.out) (fun _ _ h => h)) _)
      have hin : i ≤ 1099511627776 := by omega
      clear hy hb CS e1
      go_wp2_with (at_builtin; refine wpList_appG rfl (.tmp 17) (.tmp 20) rfl (.slice A i cl) i vs Ay k cy w3.heap.size 22 rfl rfl HO3.out (heap_alloc_new _ _) hin ?_; intro g9 cap9 w9 ho9 hg9 hn9; have H9 := hid (told_next HVL.out HF.out (show i < G.length by rw [HGL.out]; exact hlt) HB3.out HY.out ((Below.refl _ _).alloc (Nat.le_refl _) (.cells #[.slice Ay k cy] 22 (0, 0))) ho9 hg9 hn9); clear ho9 hg9 hn9)
      go_roundw
      case rel => exact ⟨i + 1, by omega, by go_num, H9.out.n⟩
      case measure => simp [intOf]; omega
    · obtain rfl : n = i := by omega
      go_wp2
      go_ret
      exact ⟨A, cl, rfl, HT.out⟩
end Go.Proofs.Ytkklonldplekcaa
