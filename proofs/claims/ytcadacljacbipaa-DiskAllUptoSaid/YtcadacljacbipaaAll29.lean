/- One step of the script, whatever it is. -/
import Derived.Test.YtcadacljacbipaaAll26
import Derived.Test.YtcadacljacbipaaAll28
namespace Go.Proofs.Ytcadacljacbipaa
open Go.RowKit

set_option maxRecDepth 100000 in
set_option maxHeartbeats 8000000 in
theorem one_other (B : Nat) (w0 w : World) (v : Value) (ps : List Pr) (k m : Nat) (h : All B w0 w v ps k m) (hB : B = w0.heap.size) (hk0 : k ≤ 2097152) (o : Dop) (va x y z : Value) (_ : m + o.m ≤ 4194304) (hk : o.kind < 1 ∨ 10 < o.kind) :
    Calls Try.prog 32 #[v, .agg #[.int .i64 o.kind, .int .i64 o.d, .int .i64 o.slot, va, .int .i64 o.n, .bool o.done, x, y, z]] w (OneE B w0 (k + 1) (m + o.m)) := by
  have HK := hid hk
  clear hk
  have H := hid h
  have HB0 := hid hB
  obtain ⟨A, c, rfl⟩ : ∃ A c, v = .slice A ps.length c := own_form (h.fam.own (i := 0) rfl).1
  obtain ⟨n, t, hnl, ht, ht1, ht2, ht3, ht4⟩ := idx_of (d := o.d) h.pos
  obtain ⟨⟨p, r, D⟩, hx⟩ : ∃ x, ps[n]? = some x := ⟨_, List.getElem?_eq_getElem hnl⟩
  have HX := hid hx
  have HMI := hid (h.mild _ (List.mem_of_getElem? hx))
  have HNM := hid (h.named _ (List.mem_of_getElem? hx))
  have hlen := h.len
  have hpos := h.pos
  have HT3 := hid ht3
  have HT4 := hid ht4
  clear h hB hx ht3 ht4
  go_enter Try.func32, Try.ntmps32
  go_upto_region 1 with (fail)
  obtain ⟨g, hg⟩ : ∃ g, w.heap.size = g := ⟨_, rfl⟩
  refine Code.seen (fun W => Fam B w0 W (things (.slice A ps.length c) ps ++ [blkT g (.cells #[.int .i64 o.kind, .int .i64 o.d, .int .i64 o.slot, va, .int .i64 o.n, .bool o.done, x, y, z] 51 (0, 0))])) (by rw [← hg]; exact H.out.fam.new _) fun w1 H1 => ?_
  rw [hg]
  clear hg
  obtain ⟨c0, c1, c2, c3, c4, c5, c6, c7, c8⟩ := op_cells (H1.out.blkL 0 rfl)
  have hlz : ((ps.length : Int) == 0) = false := by rw [beq_eq_false_iff_ne]; omega
  have hlz2 : ¬ (ps.length : Int) = 0 := by omega
  go_upto_if 25 with (fail)
  clear hlz2
  go_cut [6] (fun u wx => u = .int .i64 (n : Int) ∧ wx = w1)
  case first =>
    rcases Int.lt_or_le t 0 with hneg | hneg
    · have he := HT4.out hneg
      go_wp2_with fail
      go_meet
      exact ⟨rfl, rfl⟩
    · have he := HT3.out hneg
      go_wp2_with fail
      go_meet
      exact ⟨rfl, rfl⟩
  case rest =>
    obtain ⟨rfl, rfl⟩ := hcut
    obtain ⟨gv, rfl, q0, q1⟩ := H1.out.pair HX.out
    simp only at q0 q1
    have i0 : (0 : Int) ≤ (n : Int) := by omega
    have i1 : (n : Int) < (ps.length : Int) := by omega
    clear ht ht1 ht2 hlz HT3 HT4 c0 c1 c2 c3 c4 c5 c6 c7 c8
    go_upto_block 0 with (fail)
    obtain ⟨q, hq⟩ : ∃ q, wc.heap.size = q := ⟨_, rfl⟩
    refine Code.seen (fun W => Fam B w0 W (things (.slice (some ⟨gv, 0, none⟩) ps.length c) ps ++ [blkT g (.cells #[.int .i64 o.kind, .int .i64 o.d, .int .i64 o.slot, va, .int .i64 o.n, .bool o.done, x, y, z] 51 (0, 0)), blkT q (.cells #[.pointer (some ⟨p, 0, none⟩), .pointer (some ⟨r, 0, none⟩)] 59 (0, 0))])) (by rw [← hq]; exact H1.out.newL _) fun w2 H2 => ?_
    rw [hq]
    clear hq q0 q1
    obtain ⟨c0, c1, c2, c3, c4, c5, c6, c7, c8⟩ := op_cells (H2.out.blkL 0 rfl)
    obtain ⟨x0, x1⟩ := pr_cells (H2.out.blkL 1 rfl)
    rcases HK.out with hk | hk
    case' inl =>
      have hge : ¬ (1 : Int) ≤ o.kind := by omega
      have h48 : (o.kind == 8) = false := by rw [beq_eq_false_iff_ne]; omega
      have hge5 : ¬ (5 : Int) ≤ o.kind := by omega
      have h9 : (o.kind == 9) = false := by rw [beq_eq_false_iff_ne]; omega
      have h10 : (o.kind == 10) = false := by rw [beq_eq_false_iff_ne]; omega
    case' inr =>
      have hge : (1 : Int) ≤ o.kind := by omega
      have hn4 : ¬ o.kind ≤ 4 := by omega
      have h48 : (o.kind == 8) = false := by rw [beq_eq_false_iff_ne]; omega
      have hge5 : (5 : Int) ≤ o.kind := by omega
      have hn7 : ¬ o.kind ≤ 7 := by omega
      have h9 : (o.kind == 9) = false := by rw [beq_eq_false_iff_ne]; omega
      have h10 : (o.kind == 10) = false := by rw [beq_eq_false_iff_ne]; omega
    all_goals
      have R := hid (H.out.same H2.out.back (show m ≤ m + o.m by omega))
      go_wp2
      go_ret2
      exact ⟨_, _, rfl, R.out⟩
theorem one_any (B : Nat) (w0 w : World) (v : Value) (ps : List Pr) (k m : Nat) (h : All B w0 w v ps k m) (hB : B = w0.heap.size) (hk0 : k ≤ 2097152) (o : Dop) (va x y z : Value) (hm0 : m + o.m ≤ 4194304) (hva : SlB w0 va o.data) (hx0 : SlB w0 x o.sa) (hy0 : SlB w0 y o.sb) (hz0 : SlZ w0 z o.ch) (hn0 : -9223372036854775808 ≤ o.n) (hn : o.n ≤ 9223372036854775807) :
    Calls Try.prog 32 #[v, .agg #[.int .i64 o.kind, .int .i64 o.d, .int .i64 o.slot, va, .int .i64 o.n, .bool o.done, x, y, z]] w (OneE B w0 (k + 1) (m + o.m)) := by
  by_cases h1 : 5 ≤ o.kind ∧ o.kind ≤ 7
  · exact one_told B w0 w v ps k m h hB hk0 o va x y z hm0 h1.1 h1.2
  · by_cases h2 : o.four ∨ o.kind = 8
    · exact one_act B w0 w v ps k m h hB hk0 o va x y z hm0 h2 hva hn
    · by_cases h3 : o.kind = 9
      · exact one_crash B w0 w v ps k m h hB hk0 o va x y z hm0 h3 hz0
      · by_cases h4 : o.kind = 10
        · exact one_load B w0 w v ps k m h hB hk0 o va x y z hm0 h4 hx0 hy0 hn0
        · exact one_other B w0 w v ps k m h hB hk0 o va x y z hm0 (by unfold Dop.four at h2; omega)
end Go.Proofs.Ytcadacljacbipaa
