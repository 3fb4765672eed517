/- One step of the script: a crash. -/
import Derived.Test.YtcadacljacbipaaAll27
import Derived.StillTailTactics
namespace Go.Proofs.Ytcadacljacbipaa
open Go.RowKit

theorem cr_cells {B : Nat} {w0 W : World} {ts L : List Thing} {g q gl n cl : Nat} {t t2 : TypeId} {kd d sl v nn dn x y z a b : Value} {lc : List Int} (h : Fam B w0 W (ts ++ L)) (h0 : L[0]? = some (blkT g (.cells #[kd, d, sl, v, nn, dn, x, y, z] t (0, 0)))) (h1 : L[1]? = some (blkT q (.cells #[a, b] t2 (0, 0))))
    (h2 : L[2]? = some (ownT 3 1 (.slice (some ⟨gl, 0, none⟩) (n + 1) cl) (n + 1) (lc.map (Value.int .i64)))) (hl : lc.length = n + 1) (h77 : lc.getD n 0 = 77) : W.cell? ⟨q, 1, none⟩ = some b ∧ W.cell? ⟨g, 8, none⟩ = some z ∧ W.cell? ⟨gl, n, none⟩ = some (.int .i64 77) := by
  refine ⟨by rw [blk_cell (h.blkL 1 h1)]; rfl, by rw [blk_cell (h.blkL 0 h0)]; rfl, ?_⟩
  rw [(own_zat (h.ownAtL 2 h2) rfl n (by omega)).1, h77]
theorem things_length (v : Value) (ps : List Pr) : (things v ps).length = 2 * ps.length + 1 := by simp [things, pairsT_length]
theorem dead_mild {D : Dk} {k m : Nat} (h : D.mild k m) : ({ D with dead := true } : Dk).mild k m := ⟨h.room, h.acts, h.done⟩
theorem pair_row {B : Nat} {w0 w : World} {v : Value} {ps : List Pr} {n : Nat} {x : Pr} {D : Dk} {L : List Thing} (hx : ps[n]? = some x) (h : Fam B w0 w (things v (ps.set n ⟨x.p, x.r, D⟩) ++ L)) : w.ownsRow 0 59 2 v ps.length (pairCells ps) :=
  (h.own (i := 0) (by show some (allT v _) = some (allT v ps); rw [allT_set D hx])).1
theorem pair_grow {B : Nat} {w0 w w' : World} {v v' : Value} {ps : List Pr} {n : Nat} {x y : Pr} {D : Dk} {L : List Thing} (hx : ps[n]? = some x) (h : Fam B w0 w (things v (ps.set n ⟨x.p, x.r, D⟩) ++ L)) (ho : w'.ownsRow 0 59 2 v' (ps.length + 1) (pairCells (ps ++ [y]))) (hg : w.grownBy w' v.ownBlock) (hn : ∀ k, v'.ownBlock = some k → v.ownBlock = some k ∨ w.heap.size ≤ k) : Fam B w0 w' ((ownT 59 2 v' (ps.length + 1) (pairCells (ps ++ [y])) :: pairsT (ps.set n ⟨x.p, x.r, D⟩)) ++ L) :=
  h.grow (i := 0) (by show some (allT v _) = some (allT v ps); rw [allT_set D hx]) ho hg hn
theorem pair_snoc {v : Value} {ps : List Pr} {n : Nat} {x y : Pr} {D : Dk} (hx : ps[n]? = some x) : things v (ps.set n ⟨x.p, x.r, D⟩ ++ [y]) = (ownT 59 2 v (ps.length + 1) (pairCells (ps ++ [y])) :: pairsT (ps.set n ⟨x.p, x.r, D⟩)) ++ [dT y.p y.D, rT y.r y.D] := by
  rw [things_snoc, pairCells_snoc, pairCells_snoc, pairCells_set ps n x D hx, List.length_set]
theorem crashed_mild {D : Dk} {k m : Nat} (h : D.mild k m) (cs : List Int) : (D.crashed cs).mild k m :=
  ⟨Nat.le_trans (crashed_room D cs) h.room, Nat.zero_le _, Nat.zero_le _⟩
theorem crashed_named (D : Dk) (cs : List Int) : (D.crashed cs).named = 0 := rfl
set_option maxRecDepth 100000 in
set_option maxHeartbeats 16000000 in
theorem one_crash (B : Nat) (w0 w : World) (v : Value) (ps : List Pr) (k m : Nat) (h : All B w0 w v ps k m) (hB : B = w0.heap.size) (hk0 : k ≤ 2097152) (o : Dop) (va x y z : Value) (hm0 : m + o.m ≤ 4194304) (hk : o.kind = 9) (hz0 : SlZ w0 z o.ch) :
    Calls Try.prog 32 #[v, .agg #[.int .i64 o.kind, .int .i64 o.d, .int .i64 o.slot, va, .int .i64 o.n, .bool o.done, x, y, z]] w (OneE B w0 (k + 1) (m + o.m)) := by
  have HZ := hid hz0
  have hge : (1 : Int) ≤ o.kind := by omega
  have hn4 : ¬ o.kind ≤ 4 := by omega
  have h48 : (o.kind == 8) = false := by rw [hk]; rfl
  have hge5 : (5 : Int) ≤ o.kind := by omega
  have hn7 : ¬ o.kind ≤ 7 := by omega
  have h9 : (o.kind == 9) = true := by rw [hk]; rfl
  have hcl : o.ch.length + 1 ≤ 4194304 := by unfold Dop.m at hm0; omega
  obtain ⟨Az, cz, rfl⟩ := hz0.form
  clear hz0 hk
  have H := hid h
  have HB0 := hid hB
  obtain ⟨A, c, rfl⟩ : ∃ A c, v = .slice A ps.length c := own_form (h.fam.own (i := 0) rfl).1
  obtain ⟨n, t, hnl, ht, ht1, ht2, ht3, ht4⟩ := idx_of (d := o.d) h.pos
  obtain ⟨⟨p, r, D⟩, hx⟩ : ∃ x, ps[n]? = some x := ⟨_, List.getElem?_eq_getElem hnl⟩
  have HX := hid hx
  have HMI := hid (h.mild _ (List.mem_of_getElem? hx))
  have HNM := hid (h.named _ (List.mem_of_getElem? hx))
  have hlen := h.len
  have hpos := h.pos
  have HT3 := hid ht3
  have HT4 := hid ht4
  clear h hB hx ht3 ht4
  go_enter Try.func32, Try.ntmps32
  go_upto_region 1 with (fail)
  obtain ⟨g, hg⟩ : ∃ g, w.heap.size = g := ⟨_, rfl⟩
  refine Code.seen (fun W => Fam B w0 W (things (.slice A ps.length c) ps ++ [blkT g (.cells #[.int .i64 o.kind, .int .i64 o.d, .int .i64 o.slot, va, .int .i64 o.n, .bool o.done, x, y, (.slice Az o.ch.length cz)] 51 (0, 0))])) (by rw [← hg]; exact H.out.fam.new _) fun w1 H1 => ?_
  rw [hg]
  clear hg
  obtain ⟨c0, c1, c2, c3, c4, c5, c6, c7, c8⟩ := op_cells (H1.out.blkL 0 rfl)
  have hlz : ((ps.length : Int) == 0) = false := by rw [beq_eq_false_iff_ne]; omega
  have hlz2 : ¬ (ps.length : Int) = 0 := by omega
  go_upto_if 25 with (fail)
  clear hlz2
  go_cut [6] (fun u wx => u = .int .i64 (n : Int) ∧ wx = w1)
  case first =>
    rcases Int.lt_or_le t 0 with hneg | hneg
    · have he := HT4.out hneg
      go_wp2_with fail
      go_meet
      exact ⟨rfl, rfl⟩
    · have he := HT3.out hneg
      go_wp2_with fail
      go_meet
      exact ⟨rfl, rfl⟩
  case rest =>
    obtain ⟨rfl, rfl⟩ := hcut
    obtain ⟨gv, rfl, q0, q1⟩ := H1.out.pair HX.out
    simp only at q0 q1
    have i0 : (0 : Int) ≤ (n : Int) := by omega
    have i1 : (n : Int) < (ps.length : Int) := by omega
    clear ht ht1 ht2 hlz HT3 HT4 c0 c1 c2 c3 c4 c5 c6 c7 c8
    go_upto_block 0 with (fail)
    obtain ⟨q, hq⟩ : ∃ q, wc.heap.size = q := ⟨_, rfl⟩
    refine Code.seen (fun W => Fam B w0 W (things (.slice (some ⟨gv, 0, none⟩) ps.length c) ps ++ [blkT g (.cells #[.int .i64 o.kind, .int .i64 o.d, .int .i64 o.slot, va, .int .i64 o.n, .bool o.done, x, y, (.slice Az o.ch.length cz)] 51 (0, 0)), blkT q (.cells #[.pointer (some ⟨p, 0, none⟩), .pointer (some ⟨r, 0, none⟩)] 59 (0, 0))])) (by rw [← hq]; exact H1.out.newL _) fun w2 H2 => ?_
    rw [hq]
    clear hq q0 q1
    obtain ⟨c0, c1, c2, c3, c4, c5, c6, c7, c8⟩ := op_cells (H2.out.blkL 0 rfl)
    obtain ⟨x0, x1⟩ := pr_cells (H2.out.blkL 1 rfl)
    have HO := hid (things_at (v := .slice (some ⟨gv, 0, none⟩) ps.length c) HX.out)
    have HF := hid (HMI.out.fits (n := 0) HNM.out (by omega) (by omega))
    simp only at HF
    go_upto_region 16 with (at_builtin; refine wpList_appZ rfl (.tmp 89) (.tmp 91) rfl w2.heap.size (.slice none 0 0) _ [] o.ch rfl rfl (OwnZ.nil _ _) (H2.out.sz0 HB0.out HZ.out) (by simp only [List.length_nil]; omega) (Nat.le_refl _) ?_; intro v1 w3 ho1 hg1; rw [List.nil_append] at ho1; have HB := hid (OwnZ.grown (Below.refl w2.heap.size w2) (OwnZ.nil w2 w2.heap.size) (Nat.le_refl _) (Nat.le_refl _) hg1); obtain ⟨A1, c1', rfl⟩ := own_form ho1; have HO1 := hid ho1; clear ho1 hg1)
    clear c0 c1 c2 c3 c4 c5 c6 c7 c8 x0 x1
    go_upto_region 17 with (at_builtin; refine wpList_appZ rfl (.tmp 93) (.tmp 94) rfl w2.heap.size (.slice A1 o.ch.length c1') _ o.ch [77] rfl rfl (HO1.out.alloc _) (by exact litZ w3 [77] (by decide)) (by simp only [List.length_cons, List.length_nil]; omega) (Nat.le_trans HB.out.size (by simp)) ?_; intro v2 w4 ho2 hg2; have HB2 := hid (OwnZ.grown (HB.out.alloc HB.out.size _) (HO1.out.alloc _) (Nat.le_refl _) (Nat.le_trans HB.out.size (by simp)) hg2); obtain ⟨gl, cl, rfl, hcl2⟩ := ho2.some_ (by simp); have HO2 := hid ho2; simp only [List.length_append, List.length_cons, List.length_nil, Nat.zero_add] at hcl2; clear ho2 hg2)
    refine Code.seen (fun W => Fam B w0 W (things (.slice (some ⟨gv, 0, none⟩) ps.length c) ps ++ ([blkT g (.cells #[.int .i64 o.kind, .int .i64 o.d, .int .i64 o.slot, va, .int .i64 o.n, .bool o.done, x, y, (.slice Az o.ch.length cz)] 51 (0, 0)), blkT q (.cells #[.pointer (some ⟨p, 0, none⟩), .pointer (some ⟨r, 0, none⟩)] 59 (0, 0))] ++ [ownT 3 1 (.slice (some ⟨gl, 0, none⟩) (o.ch.length + 1) cl) (o.ch.length + 1) ((o.ch ++ [77]).map (Value.int .i64))]))) ?_ fun w5 H5 => ?_
    · have := H2.out.addL (t := ownT 3 1 (.slice (some ⟨gl, 0, none⟩) (o.ch.length + 1) cl) (o.ch.length + 1) ((o.ch ++ [77]).map (Value.int .i64))) HB2.out ⟨own_base (by have := HO2.out; unfold OwnZ at this; simpa using this) (Nat.zero_le _), fun j hj => World.ownsRow.lt HO2.out j hj⟩
      exact this
    have hzn := HZ.out.r
    have HR := hid hzn
    have hcl3 : (o.ch.length : Int) ≤ (cl : Int) := by omega
    have HCL : Hid (o.ch.length ≤ cl) := hid (by omega)
    clear hzn HO2 HB2 HO1 HB
    obtain ⟨c0, c1, c2, c3, c4, c5, c6, c7, c8⟩ := op_cells (H5.out.blkL 0 rfl)
    obtain ⟨x0, x1⟩ := pr_cells (H5.out.blkL 1 rfl)
    go_still_tail 7, (by kernel_rfl)
    change wpList _ _ _ _ _ w5.drew
    have H5d := hid (H5.out.below (drew_below w5))
    clear c0 c1 c2 c3 c4 c5 c6 c7 c8 x0 x1
    generalize w5.drew = w6 at *
    have HPZ : Hid (SlZ w6 (.slice (some ⟨gl, 0, none⟩) o.ch.length cl) o.ch) := hid (by
      have := own_zpre (k := o.ch.length) (H5d.out.ownAtL 2 rfl) rfl (by simp) HCL.out (by rw [List.take_left]; exact HR.out)
      rwa [List.take_left] at this)
    go_wp2_with fail
    refine (crash_fam H5d.out (get_app HO.out.1) (m := (things (.slice (some ⟨gv, 0, none⟩) ps.length c) ps).length + 2) (g := gl) (v := .slice (some ⟨gl, 0, none⟩) (o.ch.length + 1) cl) (by rw [get_at]; rfl) (by rw [things_length]; omega) (.slice (some ⟨gl, 0, none⟩) o.ch.length cl) o.ch HF.out HPZ.out rfl rfl).mono ?_
    rintro e w7 ⟨fd, rfl, h7⟩
    rw [set_app _ _ _ _ (List.getElem?_eq_some_iff.1 HO.out.1).1, List.append_assoc] at h7
    have H7 := hid h7
    clear h7
    go_wp2
    go_loopw [13] (fun i wr => ∃ (j : Nat) (lc : List Int), j ≤ o.ch.length ∧ i = .int .i64 j ∧ (lc.length = o.ch.length + 1 ∧ ∀ t, j ≤ t → t < o.ch.length + 1 → lc.getD t 0 = (o.ch ++ [77]).getD t 0) ∧ Fam B w0 wr ((things (.slice (some ⟨gv, 0, none⟩) ps.length c) ps).set (2 * n + 1) (dT p { D with dead := true }) ++ ([blkT g (.cells #[.int .i64 o.kind, .int .i64 o.d, .int .i64 o.slot, va, .int .i64 o.n, .bool o.done, x, y, (.slice Az o.ch.length cz)] 51 (0, 0)), blkT q (.cells #[.pointer (some ⟨p, 0, none⟩), .pointer (some ⟨r, 0, none⟩)] 59 (0, 0))] ++ [ownT 3 1 (.slice (some ⟨gl, 0, none⟩) (o.ch.length + 1) cl) (o.ch.length + 1) (lc.map (Value.int .i64)), dT fd (D.crashed o.ch)]))) (fun i _ => o.ch.length - (intOf i).toNat)
    case atStart => exact ⟨0, o.ch ++ [77], Nat.zero_le _, rfl, ⟨by simp, fun _ _ _ => rfl⟩, H7.out⟩
    case round =>
      clear H7
      obtain ⟨j, lc, hj, rfl, hlc, hf⟩ := hrel
      have HLC := hid hlc
      have HFM := hid hf
      clear hlc hf
      obtain ⟨c0, c1, c2, c3, c4, c5, c6, c7, c8⟩ := op_cells (HFM.out.blkL 0 rfl)
      by_cases hlt : j < o.ch.length
      · obtain ⟨zb, zo, rfl, cz0⟩ := (HFM.out.sz0 HB0.out HZ.out).at_ j hlt
        have hzl := own_zat (HFM.out.ownAtL 2 rfl) rfl j (by have := HLC.out.1; omega)
        obtain ⟨z1, f1⟩ := hzl
        rw [HLC.out.2 j (Nat.le_refl _) (by omega), List.getD_eq_getElem?_getD, List.getElem?_append_left hlt, ← List.getD_eq_getElem?_getD] at z1
        obtain ⟨xj, hxj⟩ : ∃ xj, o.ch.getD j 0 = xj := ⟨_, rfl⟩
        rw [hxj] at cz0 z1
        clear hxj
        have i3 : (0 : Int) ≤ (j : Int) := by omega
        have i4 : (j : Int) < (o.ch.length : Int) := by omega
        have i5 : (j : Int) < (o.ch.length : Int) + 1 := by omega
        clear c0 c1 c2 c3 c4 c5 c6 c7
        go_wp2
        go_quiet (fail)
        have HN := hid (HFM.out.below (drewN_below wr nq))
        go_wp2
        go_roundw
        case rel => exact ⟨j + 1, lc.set j 5, by omega, by go_num, ⟨by rw [List.length_set]; exact HLC.out.1, fun t h1 h2 => by rw [List.getD_eq_getElem?_getD, List.getElem?_set_ne (by omega), ← List.getD_eq_getElem?_getD]; exact HLC.out.2 t (by omega) h2⟩, by have := HN.out.ownSetL 2 rfl j (.int .i64 5); rw [List.map_set]; exact this⟩
        case measure => simp [intOf]; omega
      · have hjn : j = o.ch.length := by omega
        have h77 : lc.getD o.ch.length 0 = 77 := by rw [HLC.out.2 o.ch.length (by omega) (by omega)]; simp
        have H77 := hid h77
        clear hjn h77
        obtain ⟨x0, x1⟩ := pr_cells (HFM.out.blkL 1 rfl)
        have z77 := (own_zat (HFM.out.ownAtL 2 rfl) rfl o.ch.length (by have := HLC.out.1; omega)).1
        rw [H77.out] at z77
        have i5 : (o.ch.length : Int) < (o.ch.length : Int) + 1 := by omega
        have hlz : ps.length ≤ 1099511627776 := by omega
        have HD := hid (HFM.out.below (drew_below wr))
        have HS0 := hid (cr_cells HD.out rfl rfl rfl HLC.out.1 H77.out)
        clear c0 c1 c2 c3 c4 c5 c6 c7
        go_upto_region 24 with (fail)
        go_region_held3 (fun W => W.cell? ⟨q, 1, none⟩ = some (.pointer (some ⟨r, 0, none⟩)) ∧ W.cell? ⟨g, 8, none⟩ = some (.slice Az o.ch.length cz) ∧ W.cell? ⟨gl, o.ch.length, none⟩ = some (.int .i64 77))
          (first | with_reducible assumption | with_reducible exact HS0.out | with_reducible exact HS8.out | with_reducible exact HS8a.out _ | with_reducible exact HS9.out)
          (first
            | (go_at_call 44; (with_reducible refine (rcrash_fam HD.out (get_app (get_set HO.out.2 (by omega))) HB0.out _ o.ch HF.out HZ.out).mono ?_); rintro e w8 ⟨fr, rfl, h8⟩; rw [set_app _ _ _ _ (by rw [List.length_set]; exact (List.getElem?_eq_some_iff.1 HO.out.2).1), things_set { D with dead := true } HX.out, List.append_assoc] at h8; have H8 := hid h8; have HS8 := hid (cr_cells H8.out rfl rfl rfl HLC.out.1 H77.out); have HS8a := hid (fun o' => cr_cells (H8.out.newL o') rfl rfl rfl HLC.out.1 H77.out); clear h8)
            | (refine step_appPr (by rfl) (.tmp 125) (.tmp 133) (by rfl) (.slice (some ⟨gv, 0, none⟩) ps.length c) ps ⟨fd, fr, D.crashed o.ch⟩ w8.heap.size 59 (by rfl) (by rfl) (pair_row HX.out (H8.out.newL _)) (heap_alloc_new _ _) hlz ?_; intro g9 cap9 w9 ho9 hg9 hn9; have H9 := hid (pair_grow HX.out (H8.out.newL (.cells #[.pointer (some ⟨fd, 0, none⟩), .pointer (some ⟨fr, 0, none⟩)] 59 (0, 0))) ho9 hg9 hn9); have HS9 := hid (cr_cells H9.out rfl rfl rfl HLC.out.1 H77.out); clear ho9 hg9 hn9))
        all_goals
          have R := hid ((H.out.turn (D' := { D with dead := true }) (m' := m + o.m) HX.out H8.out.back (by omega) (dead_mild (mild_more HMI.out (by omega))) HNM.out).more (x := ⟨fd, fr, D.crashed o.ch⟩) (m' := m + o.m) (by rw [List.length_set]; exact hlen) (by rw [pair_snoc HX.out]; exact Fam.tail2 (L := [_, _, _]) (M := [_, _]) (N := [_]) H9.out) (Nat.le_refl _) (crashed_mild (mild_more HMI.out (by omega)) o.ch) (by rw [crashed_named]; omega))
          clear c8 x0 x1 z77
          go_wp2
          go_ret2
          exact ⟨_, _, rfl, R.out⟩
end Go.Proofs.Ytcadacljacbipaa
