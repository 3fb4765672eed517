/- One step of the script: Load. -/
import Derived.Test.YtcadacljacbipaaAll25
import Derived.Test.YtcadacljacbipaaAll11
namespace Go.Proofs.Ytcadacljacbipaa
open Go.RowKit

theorem zcell {w : World} {b : Nat} {cs : Array Value} {t : TypeId} (h : w.heap[b]? = some (.cells cs t (0, 0))) (i : Nat) (v : Value) (hv : cs[i]? = some v) : w.cell? ⟨b, i, none⟩ = some v := by rw [blk_cell h]; exact hv
theorem load_mild1 {k m : Nat} (a b : List UInt8) (c : Nat) (h : a.length + b.length ≤ m) : (Dk.load a b c).mild k m := ⟨by simp [Dk.load, Dslot.room, sizes]; exact h, by simp [Dk.load], by simp [Dk.load]⟩
theorem xy_alloc {w : World} {g : Nat} {x y : Value} (h : w.cell? ⟨g, 6, none⟩ = some x ∧ w.cell? ⟨g, 7, none⟩ = some y) (o : Obj) : (w.alloc o).cell? ⟨g, 6, none⟩ = some x ∧ (w.alloc o).cell? ⟨g, 7, none⟩ = some y := by
  have hg := World.block_lt_of_cell? w _ h.1
  have hb := (Below.refl w.heap.size w).alloc (Nat.le_refl _) o
  exact ⟨(hb.cell (p := ⟨g, 6, none⟩) hg).trans h.1, (hb.cell (p := ⟨g, 7, none⟩) hg).trans h.2⟩
theorem xy_set {w : World} {g b j : Nat} {x y v : Value} (h : w.cell? ⟨g, 6, none⟩ = some x ∧ w.cell? ⟨g, 7, none⟩ = some y) (hne : b ≠ g) : (w.setCell ⟨b, j, none⟩ v).cell? ⟨g, 6, none⟩ = some x ∧ (w.setCell ⟨b, j, none⟩ v).cell? ⟨g, 7, none⟩ = some y := by
  have key : ∀ i, (w.setCell ⟨b, j, none⟩ v).cell? ⟨g, i, none⟩ = w.cell? ⟨g, i, none⟩ := fun i => World.cell?_setCell_other _ _ _ _ (by intro e; injection e with e; exact hne e)
  exact ⟨(key 6).trans h.1, (key 7).trans h.2⟩
set_option maxRecDepth 100000 in
set_option maxHeartbeats 8000000 in
theorem one_load (B : Nat) (w0 w : World) (v : Value) (ps : List Pr) (k m : Nat) (h : All B w0 w v ps k m) (hB : B = w0.heap.size) (hk0 : k ≤ 2097152) (o : Dop) (va x y z : Value) (hm0 : m + o.m ≤ 4194304) (hk : o.kind = 10) (hx0 : SlB w0 x o.sa) (hy0 : SlB w0 y o.sb) (_ : -9223372036854775808 ≤ o.n) :
    Calls Try.prog 32 #[v, .agg #[.int .i64 o.kind, .int .i64 o.d, .int .i64 o.slot, va, .int .i64 o.n, .bool o.done, x, y, z]] w (OneE B w0 (k + 1) (m + o.m)) := by
  have HXA := hid hx0
  have HYB := hid hy0
  have hge : (1 : Int) ≤ o.kind := by omega
  have hn4 : ¬ o.kind ≤ 4 := by omega
  have h48 : (o.kind == 8) = false := by rw [hk]; rfl
  have hge5 : (5 : Int) ≤ o.kind := by omega
  have hn7 : ¬ o.kind ≤ 7 := by omega
  have h9 : (o.kind == 9) = false := by rw [hk]; rfl
  have h10 : (o.kind == 10) = true := by rw [hk]; rfl
  clear hx0 hy0 hk
  have H := hid h
  have HB0 := hid hB
  obtain ⟨A, c, rfl⟩ : ∃ A c, v = .slice A ps.length c := own_form (h.fam.own (i := 0) rfl).1
  obtain ⟨n, t, hnl, ht, ht1, ht2, ht3, ht4⟩ := idx_of (d := o.d) h.pos
  obtain ⟨⟨p, r, D⟩, hx⟩ : ∃ x, ps[n]? = some x := ⟨_, List.getElem?_eq_getElem hnl⟩
  have HX := hid hx
  have HMI := hid (h.mild _ (List.mem_of_getElem? hx))
  have HNM := hid (h.named _ (List.mem_of_getElem? hx))
  have hlen := h.len
  have hpos := h.pos
  have HT3 := hid ht3
  have HT4 := hid ht4
  clear h hB hx ht3 ht4
  go_enter Try.func32, Try.ntmps32
  go_upto_region 1 with (fail)
  obtain ⟨g, hg⟩ : ∃ g, w.heap.size = g := ⟨_, rfl⟩
  refine Code.seen (fun W => Fam B w0 W (things (.slice A ps.length c) ps ++ [blkT g (.cells #[.int .i64 o.kind, .int .i64 o.d, .int .i64 o.slot, va, .int .i64 o.n, .bool o.done, x, y, z] 51 (0, 0))])) (by rw [← hg]; exact H.out.fam.new _) fun w1 H1 => ?_
  rw [hg]
  clear hg
  obtain ⟨c0, c1, c2, c3, c4, c5, c6, c7, c8⟩ := op_cells (H1.out.blkL 0 rfl)
  have hlz : ((ps.length : Int) == 0) = false := by rw [beq_eq_false_iff_ne]; omega
  have hlz2 : ¬ (ps.length : Int) = 0 := by omega
  go_upto_if 25 with (fail)
  clear hlz2
  go_cut [6] (fun u wx => u = .int .i64 (n : Int) ∧ wx = w1)
  case first =>
    rcases Int.lt_or_le t 0 with hneg | hneg
    · have he := HT4.out hneg
      go_wp2_with fail
      go_meet
      exact ⟨rfl, rfl⟩
    · have he := HT3.out hneg
      go_wp2_with fail
      go_meet
      exact ⟨rfl, rfl⟩
  case rest =>
    obtain ⟨rfl, rfl⟩ := hcut
    obtain ⟨gv, rfl, q0, q1⟩ := H1.out.pair HX.out
    simp only at q0 q1
    have i0 : (0 : Int) ≤ (n : Int) := by omega
    have i1 : (n : Int) < (ps.length : Int) := by omega
    clear ht ht1 ht2 hlz HT3 HT4 c0 c1 c2 c3 c4 c5 c6 c7 c8
    go_upto_block 0 with (fail)
    obtain ⟨q, hq⟩ : ∃ q, wc.heap.size = q := ⟨_, rfl⟩
    refine Code.seen (fun W => Fam B w0 W (things (.slice (some ⟨gv, 0, none⟩) ps.length c) ps ++ [blkT g (.cells #[.int .i64 o.kind, .int .i64 o.d, .int .i64 o.slot, va, .int .i64 o.n, .bool o.done, x, y, z] 51 (0, 0)), blkT q (.cells #[.pointer (some ⟨p, 0, none⟩), .pointer (some ⟨r, 0, none⟩)] 59 (0, 0))])) (by rw [← hq]; exact H1.out.newL _) fun w2 H2 => ?_
    rw [hq]
    clear hq q0 q1
    obtain ⟨c0, c1, c2, c3, c4, c5, c6, c7, c8⟩ := op_cells (H2.out.blkL 0 rfl)
    obtain ⟨x0, x1⟩ := pr_cells (H2.out.blkL 1 rfl)
    have hla : o.sa.length + 2 ≤ 140737488355328 := by unfold Dop.m at hm0; omega
    have hlb : o.sb.length + 2 ≤ 140737488355328 := by unfold Dop.m at hm0; omega
    go_upto_region 26 with (fail)
    go_cut [14] (fun u wx => ∃ b g1 g2 d1 d2, u = .pointer (some ⟨b, 0, none⟩) ∧ o.sa.length + 2 ≤ d1 ∧ o.sb.length + 2 ≤ d2 ∧ Fam B w0 wx (things (.slice (some ⟨gv, 0, none⟩) ps.length c) ps ++ ([blkT g (.cells #[.int .i64 o.kind, .int .i64 o.d, .int .i64 o.slot, va, .int .i64 o.n, .bool o.done, x, y, z] 51 (0, 0)), blkT q (.cells #[.pointer (some ⟨p, 0, none⟩), .pointer (some ⟨r, 0, none⟩)] 59 (0, 0))] ++ [rowT (.slice (some ⟨g1, 0, none⟩) (o.sa.length + 2) d1) (o.sa ++ [193, 194]), rowT (.slice (some ⟨g2, 0, none⟩) (o.sb.length + 2) d2) (o.sb ++ [193, 194]), blkT b (.cells #[.slice (some ⟨g1, 0, none⟩) o.sa.length d1, .slice (some ⟨g2, 0, none⟩) o.sb.length d2] 32 (0, 0))])))
    case first =>
      have HD := hid (H2.out.below (drew_below w2))
      have HXY := hid (op_xy (HD.out.blkL 0 rfl))
      have HNE2 : Hid (w2.heap.size ≠ g) := hid (fun e => by have := World.block_lt_of_cell? w2 _ c6; simp only at this; omega)
      have H2b := hid ((H2.out.newL (.cells #[.slice none 0 0, .slice none 0 0] 32)).below (drew_below _))
      have HXYb := hid (op_xy (H2b.out.blkL 0 rfl))
      go_region_held3 (fun W => W.cell? ⟨g, 6, none⟩ = some x ∧ W.cell? ⟨g, 7, none⟩ = some y)
        (first | with_reducible assumption | with_reducible exact HXY.out | with_reducible exact HXYb.out | with_reducible exact HXY3.out | with_reducible exact HXY4.out | with_reducible exact HXY5.out | with_reducible exact HXY6.out | with_reducible exact HXY7.out | with_reducible exact xy_alloc HXY4.out _ | with_reducible exact xy_alloc HXY3.out _ | with_reducible exact xy_alloc HXY.out _ | exact xy_set (xy_set (xy_alloc HXY4.out _) HNE4.out) HNE4.out | exact xy_set (xy_set HXY6.out HNE3.out) HNE3.out | exact xy_set (xy_set HXY7.out HNE2.out) HNE2.out)
        (first
          | (go_at_call 10; (with_reducible refine (wide_any x o.sa w2.drew (HD.out.sl0 HB0.out HXA.out) hla).mono ?_); rintro e w3 ⟨g1, d1, rfl, ho3, hc3, hb3⟩; have H3 := hid (HD.out.rowL hb3 ho3); have HXY3 := hid (op_xy (H3.out.blkL 0 rfl)); have HNE3 : Hid (w3.heap.size ≠ g) := hid (fun e => by have := World.block_lt_of_cell? w3 _ HXY3.out.1; simp only at this; omega))
          | (go_at_call 10; (with_reducible refine (wide_any x o.sa (w2.alloc (.cells #[.slice none 0 0, .slice none 0 0] 32)).drew (H2b.out.sl0 HB0.out HXA.out) hla).mono ?_); rintro e w5 ⟨g1, d1, rfl, ho3, hc3, hb3⟩; have H5 := hid (H2b.out.rowL hb3 ho3); have HXY5 := hid (op_xy (H5.out.blkL 0 rfl)))
          | (go_at_call 10; (with_reducible refine (wide_any y o.sb w3 (H3.out.sl0 HB0.out HYB.out) hlb).mono ?_); rintro e w4 ⟨g2, d2, rfl, ho4, hc4, hb4⟩; have H4 := hid (H3.out.rowL hb4 ho4); have HXY4 := hid (op_xy (H4.out.blkL 0 rfl)); have HNE4 : Hid (w4.heap.size ≠ g) := hid (fun e => by have := World.block_lt_of_cell? w4 _ HXY4.out.1; simp only at this; omega))
          | (go_at_call 10; (with_reducible refine (wide_any y o.sb (w3.alloc (.cells #[.slice none 0 0, .slice none 0 0] 32)) ((H3.out.newL _).sl0 HB0.out HYB.out) hlb).mono ?_); rintro e w6 ⟨g2, d2, rfl, ho4, hc4, hb4⟩; have H6 := hid ((H3.out.newL _).rowL hb4 ho4); have HXY6 := hid (op_xy (H6.out.blkL 0 rfl)); have hz := H6.out.blkL 3 rfl; have z0 := zcell hz 0 _ rfl; have z1 := zcell hz 1 _ rfl; have e0 := blk_frozen hz 0; have e1 := blk_frozen hz 1; clear hz)
          | (go_at_call 10; (with_reducible refine (wide_any y o.sb w5 (H5.out.sl0 HB0.out HYB.out) hlb).mono ?_); rintro e w7 ⟨g2, d2, rfl, ho4, hc4, hb4⟩; have H7 := hid (H5.out.rowL hb4 ho4); have HXY7 := hid (op_xy (H7.out.blkL 0 rfl)); have hz := H7.out.blkL 2 rfl; have z0 := zcell hz 0 _ rfl; have z1 := zcell hz 1 _ rfl; have e0 := blk_frozen hz 0; have e1 := blk_frozen hz 1; clear hz))
      · go_wp2_with fail
        go_meet
        exact ⟨w4.heap.size, g1, g2, d1, d2, rfl, hc3, hc4, H4.out.newL (.cells #[.slice (some ⟨g1, 0, none⟩) o.sa.length d1, .slice (some ⟨g2, 0, none⟩) o.sb.length d2] 32)⟩
      · go_wp2_with fail
        go_meet
        have h1 := (H6.out.storeL 3 rfl 0 (.slice (some ⟨g1, 0, none⟩) o.sa.length d1)).storeL 3 rfl 1 (.slice (some ⟨g2, 0, none⟩) o.sb.length d2)
        exact ⟨w3.heap.size, g1, g2, d1, d2, rfl, hc3, hc4, Fam.midL (L := [blkT g (.cells #[.int .i64 o.kind, .int .i64 o.d, .int .i64 o.slot, va, .int .i64 o.n, .bool o.done, x, y, z] 51 (0, 0)), blkT q (.cells #[.pointer (some ⟨p, 0, none⟩), .pointer (some ⟨r, 0, none⟩)] 59 (0, 0))]) h1⟩
      · go_wp2_with fail
        go_meet
        have h1 := (H7.out.storeL 2 rfl 0 (.slice (some ⟨g1, 0, none⟩) o.sa.length d1)).storeL 2 rfl 1 (.slice (some ⟨g2, 0, none⟩) o.sb.length d2)
        exact ⟨w2.heap.size, g1, g2, d1, d2, rfl, hc3, hc4, Fam.rotL (L := [blkT g (.cells #[.int .i64 o.kind, .int .i64 o.d, .int .i64 o.slot, va, .int .i64 o.n, .bool o.done, x, y, z] 51 (0, 0)), blkT q (.cells #[.pointer (some ⟨p, 0, none⟩), .pointer (some ⟨r, 0, none⟩)] 59 (0, 0))]) h1⟩
    case rest =>
      obtain ⟨b, g1, g2, d1, d2, rfl, hc1, hc2, h3⟩ := hcut
      have H3 := hid h3
      clear h3 c0 c1 c2 c3 c4 c5 c6 c7 c8 x0 x1
      obtain ⟨c0, c1, c2, c3, c4, c5, c6, c7, c8⟩ := op_cells (H3.out.blkL 0 rfl)
      have z0 := zcell (H3.out.blkL 4 rfl) 0 (.slice (some ⟨g1, 0, none⟩) o.sa.length d1) rfl
      have z1 := zcell (H3.out.blkL 4 rfl) 1 (.slice (some ⟨g2, 0, none⟩) o.sb.length d2) rfl
      have K3 := hid (wide_sl (H3.out.rowAtL 2 rfl))
      have K4 := hid (wide_sl (H3.out.rowAtL 3 rfl))
      by_cases hn01 : o.n = 0 ∨ o.n = 1
      · have HN01 := hid hn01
        clear hn01
        go_wp2_with fail
        refine (load_fam H3.out o.n HN01.out _ _ o.sa o.sb K3.out K4.out (by omega) (by omega)).mono ?_
        rintro e w4 ⟨fd, rfl, h4⟩
        rw [List.append_assoc] at h4
        have H4 := hid h4
        clear h4 c0 c1 c2 c3 c4 c5 c6 c7 c8 z0 z1
        obtain ⟨c0, c1, c2, c3, c4, c5, c6, c7, c8⟩ := op_cells (H4.out.blkL 0 rfl)
        go_wp2_with fail
        refine (rload_fam H4.out o.n HN01.out _ _ o.sa o.sb (H4.out.sl0 HB0.out HXA.out) (H4.out.sl0 HB0.out HYB.out) (by omega) (by omega)).mono ?_
        rintro e w5 ⟨fr, rfl, h5⟩
        rw [List.append_assoc] at h5
        have H5 := hid h5
        clear h5 c0 c1 c2 c3 c4 c5 c6 c7 c8
        have z0 := zcell (H5.out.blkL 4 rfl) 0 (.slice (some ⟨g1, 0, none⟩) o.sa.length d1) rfl
        have z1 := zcell (H5.out.blkL 4 rfl) 1 (.slice (some ⟨g2, 0, none⟩) o.sb.length d2) rfl
        obtain ⟨c0, c1, c2, c3, c4, c5, c6, c7, c8⟩ := op_cells (H5.out.blkL 0 rfl)
        go_upto_region 31 with (first | (go_at_call 43; (with_reducible refine (kept_any g1 d1 0 x o.sa _ (H5.out.rowAtL 2 rfl) hc1 (H5.out.sl0 HB0.out HXA.out) hla).mono ?_); rintro e w5 ⟨rfl, rfl⟩) | (go_at_call 43; (with_reducible refine (kept_any g2 d2 0 y o.sb _ (H5.out.rowAtL 3 rfl) hc2 (H5.out.sl0 HB0.out HYB.out) hlb).mono ?_); rintro e w5 ⟨rfl, rfl⟩))
        clear z0 z1 c0 c1 c2 c3 c4 c5 c6 c7 c8
        have z0 := zcell (H5.out.blkL 4 rfl) 0 (.slice (some ⟨g1, 0, none⟩) o.sa.length d1) rfl
        go_wp2_with fail
        refine (over_fam H5.out 2 rfl).mono ?_
        rintro e w6 ⟨rfl, h6⟩
        have H6 := hid h6
        clear h6 z0
        have z1 := zcell (H6.out.blkL 4 rfl) 1 (.slice (some ⟨g2, 0, none⟩) o.sb.length d2) rfl
        go_wp2_with fail
        refine (over_fam H6.out 3 rfl).mono ?_
        rintro e w7 ⟨rfl, h7⟩
        have H7 := hid h7
        clear h7 z1
        have hlz : ps.length ≤ 1099511627776 := by omega
        go_wp2_with (at_builtin; refine wpList_appPr rfl (.tmp 211) (.tmp 215) rfl (.slice (some ⟨gv, 0, none⟩) ps.length c) ps ⟨fd, fr, Dk.load o.sa o.sb o.n.toNat⟩ w7.heap.size 59 rfl rfl ((H7.out.new _).own (i := 0) rfl).1 (heap_alloc_new _ _) hlz ?_; intro g8 cap8 w8 ho8 hg8 hn8; have H8 := hid ((H7.out.newL (.cells #[.pointer (some ⟨fd, 0, none⟩), .pointer (some ⟨fr, 0, none⟩)] 59 (0, 0))).grow (i := 0) rfl ho8 hg8 hn8); clear ho8 hg8 hn8)
        have R := hid ((H.out.same H.out.fam (Nat.le_refl m)).more (x := ⟨fd, fr, Dk.load o.sa o.sb o.n.toNat⟩) (m' := m + o.m) hlen (by rw [things_snoc]; exact Fam.tail2 (ts := ownT 59 2 (.slice (some ⟨g8, 0, none⟩) (ps.length + 1) cap8) (ps.length + 1) (pairCells (ps ++ [⟨fd, fr, Dk.load o.sa o.sb o.n.toNat⟩])) :: pairsT ps) (L := [_, _, _, _, _]) (M := [_, _]) (N := [_]) H8.out) (by omega) (load_mild1 _ _ _ (by unfold Dop.m; omega)) (by simp [Dk.load]))
        go_wp2
        go_ret2
        exact ⟨_, _, rfl, R.out⟩
      · have hb0 : o.n ≠ 0 := fun e => hn01 (.inl e)
        have hb1 : o.n ≠ 1 := fun e => hn01 (.inr e)
        have HB01 := hid (And.intro hb0 hb1)
        have HBN := hid hn01
        clear hb0 hb1 hn01
        go_wp2_with fail
        refine (Load_bad (.slice none 0 0) o.n HB01.out.1 HB01.out.2 wc _ _).mono ?_
        rintro e w4 ⟨rfl, hb4⟩
        have H4 := hid (H3.out.below hb4)
        clear hb4 c0 c1 c2 c3 c4 c5 c6 c7 c8 z0 z1
        obtain ⟨c0, c1, c2, c3, c4, c5, c6, c7, c8⟩ := op_cells (H4.out.blkL 0 rfl)
        go_wp2_with fail
        refine (rLoad_bad _ _ o.n w4 HBN.out).mono ?_
        rintro e w5 ⟨rfl, hb5⟩
        have H5 := hid (H4.out.below hb5)
        clear hb5 c0 c1 c2 c3 c4 c5 c6 c7 c8
        have z0 := zcell (H5.out.blkL 4 rfl) 0 (.slice (some ⟨g1, 0, none⟩) o.sa.length d1) rfl
        have z1 := zcell (H5.out.blkL 4 rfl) 1 (.slice (some ⟨g2, 0, none⟩) o.sb.length d2) rfl
        obtain ⟨c0, c1, c2, c3, c4, c5, c6, c7, c8⟩ := op_cells (H5.out.blkL 0 rfl)
        go_upto_region 31 with (first | (go_at_call 43; (with_reducible refine (kept_any g1 d1 0 x o.sa _ (H5.out.rowAtL 2 rfl) hc1 (H5.out.sl0 HB0.out HXA.out) hla).mono ?_); rintro e w5 ⟨rfl, rfl⟩) | (go_at_call 43; (with_reducible refine (kept_any g2 d2 0 y o.sb _ (H5.out.rowAtL 3 rfl) hc2 (H5.out.sl0 HB0.out HYB.out) hlb).mono ?_); rintro e w5 ⟨rfl, rfl⟩))
        clear z0 z1 c0 c1 c2 c3 c4 c5 c6 c7 c8
        have z0 := zcell (H5.out.blkL 4 rfl) 0 (.slice (some ⟨g1, 0, none⟩) o.sa.length d1) rfl
        go_wp2_with fail
        refine (over_fam H5.out 2 rfl).mono ?_
        rintro e w6 ⟨rfl, h6⟩
        have H6 := hid h6
        clear h6 z0
        have z1 := zcell (H6.out.blkL 4 rfl) 1 (.slice (some ⟨g2, 0, none⟩) o.sb.length d2) rfl
        go_wp2_with fail
        refine (over_fam H6.out 3 rfl).mono ?_
        rintro e w7 ⟨rfl, h7⟩
        have H7 := hid h7
        clear h7 z1
        have R := hid (H.out.same H7.out.back (show m ≤ m + o.m by omega))
        go_wp2
        go_ret2
        exact ⟨_, _, rfl, R.out⟩
end Go.Proofs.Ytcadacljacbipaa
