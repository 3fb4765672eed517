/- One step of the script: what is told. -/
import Derived.Test.YtcadacljacbipaaAll23
import Derived.Test.YtcadacljacbipaaAll21
namespace Go.Proofs.Ytcadacljacbipaa
open Go.RowKit

theorem op_cells {W : World} {g : Nat} {t : TypeId} {kd d sl v n dn x y z : Value} (h : W.heap[g]? = some (.cells #[kd, d, sl, v, n, dn, x, y, z] t (0, 0))) :
    W.cell? ⟨g, 0, none⟩ = some kd ∧ W.cell? ⟨g, 1, none⟩ = some d ∧ W.cell? ⟨g, 2, none⟩ = some sl ∧ W.cell? ⟨g, 3, none⟩ = some v ∧ W.cell? ⟨g, 4, none⟩ = some n ∧ W.cell? ⟨g, 5, none⟩ = some dn ∧ W.cell? ⟨g, 6, none⟩ = some x ∧ W.cell? ⟨g, 7, none⟩ = some y ∧ W.cell? ⟨g, 8, none⟩ = some z :=
  ⟨by rw [blk_cell h]; rfl, by rw [blk_cell h]; rfl, by rw [blk_cell h]; rfl, by rw [blk_cell h]; rfl, by rw [blk_cell h]; rfl, by rw [blk_cell h]; rfl, by rw [blk_cell h]; rfl, by rw [blk_cell h]; rfl, by rw [blk_cell h]; rfl⟩
theorem pr_cells {W : World} {g : Nat} {t : TypeId} {a b : Value} (h : W.heap[g]? = some (.cells #[a, b] t (0, 0))) : W.cell? ⟨g, 0, none⟩ = some a ∧ W.cell? ⟨g, 1, none⟩ = some b :=
  ⟨by rw [blk_cell h]; rfl, by rw [blk_cell h]; rfl⟩
theorem op_xy {W : World} {g : Nat} {t : TypeId} {kd d sl v n dn x y z : Value} (h : W.heap[g]? = some (.cells #[kd, d, sl, v, n, dn, x, y, z] t (0, 0))) :
    W.cell? ⟨g, 6, none⟩ = some x ∧ W.cell? ⟨g, 7, none⟩ = some y := ⟨by rw [blk_cell h]; rfl, by rw [blk_cell h]; rfl⟩
theorem mild_room {D : Dk} {k m : Nat} (h : D.mild k m) (hk : k ≤ 2097152) (hm : m ≤ 4194304) : D.s0.room + D.s1.room ≤ 140737488000000 ∧ D.pending ≤ 1099511627776 := by
  have h1 := h.room
  have h2 := h.acts
  unfold Dk.pending
  omega
set_option maxRecDepth 100000 in
set_option maxHeartbeats 8000000 in
theorem one_told (B : Nat) (w0 w : World) (v : Value) (ps : List Pr) (k m : Nat) (h : All B w0 w v ps k m) (hB : B = w0.heap.size) (hk0 : k ≤ 2097152) (o : Dop) (va x y z : Value) (hm0 : m + o.m ≤ 4194304) (h5 : 5 ≤ o.kind) (h7 : o.kind ≤ 7) :
    Calls Try.prog 32 #[v, .agg #[.int .i64 o.kind, .int .i64 o.d, .int .i64 o.slot, va, .int .i64 o.n, .bool o.done, x, y, z]] w (OneE B w0 (k + 1) (m + o.m)) := by
  have H := hid h
  have HB0 := hid hB
  obtain ⟨A, c, rfl⟩ : ∃ A c, v = .slice A ps.length c := own_form (h.fam.own (i := 0) rfl).1
  obtain ⟨n, t, hnl, ht, ht1, ht2, ht3, ht4⟩ := idx_of (d := o.d) h.pos
  obtain ⟨⟨p, r, D⟩, hx⟩ : ∃ x, ps[n]? = some x := ⟨_, List.getElem?_eq_getElem hnl⟩
  have HX := hid hx
  have HMI := hid (h.mild _ (List.mem_of_getElem? hx))
  have HNM := hid (h.named _ (List.mem_of_getElem? hx))
  have hlen := h.len
  have hpos := h.pos
  have HT3 := hid ht3
  have HT4 := hid ht4
  clear h hB hx ht3 ht4
  go_enter Try.func32, Try.ntmps32
  go_upto_region 1 with (fail)
  obtain ⟨g, hg⟩ : ∃ g, w.heap.size = g := ⟨_, rfl⟩
  refine Code.seen (fun W => Fam B w0 W (things (.slice A ps.length c) ps ++ [blkT g (.cells #[.int .i64 o.kind, .int .i64 o.d, .int .i64 o.slot, va, .int .i64 o.n, .bool o.done, x, y, z] 51 (0, 0))])) (by rw [← hg]; exact H.out.fam.new _) fun w1 H1 => ?_
  rw [hg]
  clear hg
  obtain ⟨c0, c1, c2, c3, c4, c5, c6, c7, c8⟩ := op_cells (H1.out.blkL 0 rfl)
  have hlz : ((ps.length : Int) == 0) = false := by rw [beq_eq_false_iff_ne]; omega
  have hlz2 : ¬ (ps.length : Int) = 0 := by omega
  go_upto_if 25 with (fail)
  clear hlz2
  go_cut [6] (fun u wx => u = .int .i64 (n : Int) ∧ wx = w1)
  case first =>
    rcases Int.lt_or_le t 0 with hneg | hneg
    · have he := HT4.out hneg
      go_wp2_with fail
      go_meet
      exact ⟨rfl, rfl⟩
    · have he := HT3.out hneg
      go_wp2_with fail
      go_meet
      exact ⟨rfl, rfl⟩
  case rest =>
    obtain ⟨rfl, rfl⟩ := hcut
    obtain ⟨gv, rfl, q0, q1⟩ := H1.out.pair HX.out
    simp only at q0 q1
    have i0 : (0 : Int) ≤ (n : Int) := by omega
    have i1 : (n : Int) < (ps.length : Int) := by omega
    clear ht ht1 ht2 hlz HT3 HT4 c0 c1 c2 c3 c4 c5 c6 c7 c8
    go_upto_block 0 with (fail)
    obtain ⟨q, hq⟩ : ∃ q, wc.heap.size = q := ⟨_, rfl⟩
    refine Code.seen (fun W => Fam B w0 W (things (.slice (some ⟨gv, 0, none⟩) ps.length c) ps ++ [blkT g (.cells #[.int .i64 o.kind, .int .i64 o.d, .int .i64 o.slot, va, .int .i64 o.n, .bool o.done, x, y, z] 51 (0, 0)), blkT q (.cells #[.pointer (some ⟨p, 0, none⟩), .pointer (some ⟨r, 0, none⟩)] 59 (0, 0))])) (by rw [← hq]; exact H1.out.newL _) fun w2 H2 => ?_
    rw [hq]
    clear hq q0 q1
    obtain ⟨c0, c1, c2, c3, c4, c5, c6, c7, c8⟩ := op_cells (H2.out.blkL 0 rfl)
    obtain ⟨x0, x1⟩ := pr_cells (H2.out.blkL 1 rfl)
    have hge : (1 : Int) ≤ o.kind := by omega
    have hn4 : ¬ o.kind ≤ 4 := by omega
    have h48 : (o.kind == 8) = false := by rw [beq_eq_false_iff_ne]; omega
    have hrm := mild_room HMI.out hk0 (by omega)
    simp only at hrm
    have HRM := hid hrm
    have HO := hid (things_at (v := .slice (some ⟨gv, 0, none⟩) ps.length c) HX.out)
    clear hrm
    go_wp2_with fail
    refine (told_fam H2.out (get_app HO.out.1) (get_app HO.out.2) _ _ _ _ _ _ _ _ _ HRM.out.1 HRM.out.2).mono ?_
    rintro e w3 ⟨rfl, hb3⟩
    have R := hid (H.out.same (H2.out.back.below hb3) (show m ≤ m + o.m by omega))
    clear hb3
    go_wp2
    go_ret2
    exact ⟨_, _, rfl, R.out⟩
end Go.Proofs.Ytcadacljacbipaa
