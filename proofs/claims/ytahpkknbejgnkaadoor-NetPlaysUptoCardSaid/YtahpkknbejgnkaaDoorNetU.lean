/- Send that refuses; Send of nil. -/
import Derived.Test.YtahpkknbejgnkaaDoorNetT
namespace Go.Proofs.YtahpkknbejgnkaaDoor
open Go.RowKit
set_option maxHeartbeats 2000000 in
theorem Send_nil (w : World) (p : Pkt) (v : Value) : Calls Tryd.prog 22 #[.pointer none, p.val v] w fun e w' => e = .returned (.int .i64 0) ∧ Below w.heap.size w w' := by
  obtain ⟨fk, fi, tk, ti, l, lost⟩ := p
  unfold Pkt.val
  go_enter Tryd.func22, Tryd.ntmps22
  go_wp2
  go_ret
  exact ⟨rfl, (Below.refl _ _).alloc (Nat.le_refl _) _⟩
set_option maxRecDepth 100000 in
set_option maxHeartbeats 4000000 in
theorem Send_no (w : World) (d : Nat) (p : Pkt) (v : Value) (hv : SlB w v p.data) (he : sendE p ≠ 0) :
    Calls Tryd.prog 22 #[.pointer (some ⟨d, 0, none⟩), p.val v] w fun e w' => e = .returned (.int .i64 (sendE p)) ∧ Below w.heap.size w w' := by
  obtain ⟨fk, fi, tk, ti, l, lost⟩ := p
  obtain ⟨A, c, rfl⟩ := hv.form
  obtain ⟨b1, hb1⟩ : ∃ b, okNode fk fi = b := ⟨_, rfl⟩
  obtain ⟨b2, hb2⟩ : ∃ b, okNode tk ti = b := ⟨_, rfl⟩
  have H1 := hid hb1
  have H2 := hid hb2
  unfold sendE at he ⊢
  unfold Pkt.val
  simp only at he ⊢
  rw [hb1, hb2] at he ⊢
  clear hv hb1 hb2
  go_enter Tryd.func22, Tryd.ntmps22
  go_upto_region 1 with (fail)
  refine Code.seen (fun W => W.heap[w.heap.size]? = some (.cells #[.int .i64 fk, .int .i64 fi, .int .i64 tk, .int .i64 ti, .slice A l.length c, .bool lost] 32 (0, 0)) ∧ Below w.heap.size w W) ⟨heap_alloc_new _ _, (Below.refl _ _).alloc (Nat.le_refl _) _⟩ fun w1 Z1 => ?_
  have HK : Hid (∀ W, Below w1.heap.size w1 W → PkAt W w.heap.size fk fi tk ti (.slice A l.length c) lost) := hid fun W hb => pk_at (blk_keep hb Z1.out.1 (blk_lt Z1.out.1))
  have HB1 := hid Z1.out.2
  have HE := hid he
  clear Z1 he
  obtain ⟨x0, x1, -, -, -, -⟩ := HK.out w1 (Below.refl _ _)
  go_wp2_with fail
  refine (isNode_any fk fi w1).mono ?_
  rw [H1.out]
  rintro e w2 ⟨rfl, hb2⟩
  have HB2 := hid hb2
  clear x0 x1 hb2
  obtain ⟨-, -, x2, x3, -, -⟩ := HK.out w2 HB2.out
  cases b1
  · go_wp2_with fail
    go_ret
    exact ⟨by simp, below_then HB1.out HB2.out⟩
  · go_wp2_with fail
    refine (isNode_any tk ti w2).mono ?_
    rw [H2.out]
    rintro e w3 ⟨rfl, hb3⟩
    have HB3 := hid (below_then HB2.out hb3)
    clear x2 x3 hb3
    obtain ⟨-, -, -, -, x4, -⟩ := HK.out w3 HB3.out
    cases b2
    · go_wp2_with fail
      go_ret
      exact ⟨by simp, below_then HB1.out HB3.out⟩
    · have hl : 66000 < l.length := by
        rcases Nat.lt_or_ge 66000 l.length with h | h
        · exact h
        · exact absurd (by simp; omega) HE.out
      go_wp2_with fail
      go_ret
      exact ⟨by simp [], below_then HB1.out HB3.out⟩
end Go.Proofs.YtahpkknbejgnkaaDoor
