/- One step of the script: an act, or Stop. -/
import Derived.Test.YtcadacljacbipaaAll24
namespace Go.Proofs.Ytcadacljacbipaa
open Go.RowKit

theorem over_fam {B : Nat} {w0 w : World} {ts L : List Thing} (h : Fam B w0 w (ts ++ L)) (k : Nat) {g c : Nat} {l : List UInt8} (hk : L[k]? = some (rowT (.slice (some ⟨g, 0, none⟩) (l.length + 2) c) (l ++ [193, 194]))) :
    Calls Try.prog 23 #[.slice (some ⟨g, 0, none⟩) l.length c] w fun e w' => e = .returned (.tuple #[]) ∧ Fam B w0 w' (ts ++ L.set k noneT) := by
  obtain ⟨S, hS, hB, kk⟩ := h.call (i := ts.length + k) (by rw [get_at]; exact hk)
  have ho := OwnB.pre_ hS.1 l.length (by simp)
  rw [List.take_left] at ho
  refine (over_any _ l 0 w ho).mono ?_
  rintro e w' ⟨he, hf⟩
  have := kk noneT w' trivial (hf.mono fun j _ hj => hS.2 j hj)
  rw [set_at] at this
  exact ⟨he, this⟩
theorem Fam.sl0 {B : Nat} {w0 w : World} {ts : List Thing} {v : Value} {l : List UInt8} (h : Fam B w0 w ts) (hB : B = w0.heap.size) (hv : SlB w0 v l) : SlB w v l := by
  subst hB
  exact hv.below h.base
theorem Fam.sz0 {B : Nat} {w0 w : World} {ts : List Thing} {v : Value} {l : List Int} (h : Fam B w0 w ts) (hB : B = w0.heap.size) (hv : SlZ w0 v l) : SlZ w v l := by
  subst hB
  exact hv.fr (Fr.of_below h.base) (fun _ _ _ h => h)
theorem play_mild {D : Dk} {k m : Nat} (h : D.mild k m) (o : Dop) : (D.play o).mild (k + 1) (m + o.m) := by
  unfold Dk.play Dop.m
  split
  · unfold Dk.stop
    split
    · exact mild_more h (by omega)
    · exact ⟨by have := h.room; simp only; omega, by have := h.acts; simp only; omega, by have := h.done; simp only; omega⟩
  · exact mild_step h _ _ (by have := act_size o o.data; omega)
theorem play_named {D : Dk} (h : D.named ≤ 9223372036854775807) (o : Dop) (hn : o.n ≤ 9223372036854775807) : (D.play o).named ≤ 9223372036854775807 := by
  unfold Dk.play
  split
  · unfold Dk.stop
    split
    · exact h
    · simp only; omega
  · have := step_named D o.slot (o.act o.data); omega
set_option maxRecDepth 100000 in
set_option maxHeartbeats 8000000 in
theorem one_act (B : Nat) (w0 w : World) (v : Value) (ps : List Pr) (k m : Nat) (h : All B w0 w v ps k m) (hB : B = w0.heap.size) (hk0 : k ≤ 2097152) (o : Dop) (va x y z : Value) (hm0 : m + o.m ≤ 4194304) (hk : o.four ∨ o.kind = 8) (hva : SlB w0 va o.data) (hn : o.n ≤ 9223372036854775807) :
    Calls Try.prog 32 #[v, .agg #[.int .i64 o.kind, .int .i64 o.d, .int .i64 o.slot, va, .int .i64 o.n, .bool o.done, x, y, z]] w (OneE B w0 (k + 1) (m + o.m)) := by
  have HVA := hid hva
  have HK := hid hk
  have hn' := hn
  clear hva hk hn
  have H := hid h
  have HB0 := hid hB
  obtain ⟨A, c, rfl⟩ : ∃ A c, v = .slice A ps.length c := own_form (h.fam.own (i := 0) rfl).1
  obtain ⟨n, t, hnl, ht, ht1, ht2, ht3, ht4⟩ := idx_of (d := o.d) h.pos
  obtain ⟨⟨p, r, D⟩, hx⟩ : ∃ x, ps[n]? = some x := ⟨_, List.getElem?_eq_getElem hnl⟩
  have HX := hid hx
  have HMI := hid (h.mild _ (List.mem_of_getElem? hx))
  have HNM := hid (h.named _ (List.mem_of_getElem? hx))
  have hlen := h.len
  have hpos := h.pos
  have HT3 := hid ht3
  have HT4 := hid ht4
  clear h hB hx ht3 ht4
  go_enter Try.func32, Try.ntmps32
  go_upto_region 1 with (fail)
  obtain ⟨g, hg⟩ : ∃ g, w.heap.size = g := ⟨_, rfl⟩
  refine Code.seen (fun W => Fam B w0 W (things (.slice A ps.length c) ps ++ [blkT g (.cells #[.int .i64 o.kind, .int .i64 o.d, .int .i64 o.slot, va, .int .i64 o.n, .bool o.done, x, y, z] 51 (0, 0))])) (by rw [← hg]; exact H.out.fam.new _) fun w1 H1 => ?_
  rw [hg]
  clear hg
  obtain ⟨c0, c1, c2, c3, c4, c5, c6, c7, c8⟩ := op_cells (H1.out.blkL 0 rfl)
  have hlz : ((ps.length : Int) == 0) = false := by rw [beq_eq_false_iff_ne]; omega
  have hlz2 : ¬ (ps.length : Int) = 0 := by omega
  go_upto_if 25 with (fail)
  clear hlz2
  go_cut [6] (fun u wx => u = .int .i64 (n : Int) ∧ wx = w1)
  case first =>
    rcases Int.lt_or_le t 0 with hneg | hneg
    · have he := HT4.out hneg
      go_wp2_with fail
      go_meet
      exact ⟨rfl, rfl⟩
    · have he := HT3.out hneg
      go_wp2_with fail
      go_meet
      exact ⟨rfl, rfl⟩
  case rest =>
    obtain ⟨rfl, rfl⟩ := hcut
    obtain ⟨gv, rfl, q0, q1⟩ := H1.out.pair HX.out
    simp only at q0 q1
    have i0 : (0 : Int) ≤ (n : Int) := by omega
    have i1 : (n : Int) < (ps.length : Int) := by omega
    clear ht ht1 ht2 hlz HT3 HT4 c0 c1 c2 c3 c4 c5 c6 c7 c8
    go_upto_block 0 with (fail)
    obtain ⟨q, hq⟩ : ∃ q, wc.heap.size = q := ⟨_, rfl⟩
    refine Code.seen (fun W => Fam B w0 W (things (.slice (some ⟨gv, 0, none⟩) ps.length c) ps ++ [blkT g (.cells #[.int .i64 o.kind, .int .i64 o.d, .int .i64 o.slot, va, .int .i64 o.n, .bool o.done, x, y, z] 51 (0, 0)), blkT q (.cells #[.pointer (some ⟨p, 0, none⟩), .pointer (some ⟨r, 0, none⟩)] 59 (0, 0))])) (by rw [← hq]; exact H1.out.newL _) fun w2 H2 => ?_
    rw [hq]
    clear hq q0 q1
    obtain ⟨c0, c1, c2, c3, c4, c5, c6, c7, c8⟩ := op_cells (H2.out.blkL 0 rfl)
    obtain ⟨x0, x1⟩ := pr_cells (H2.out.blkL 1 rfl)
    have HO := hid (things_at (v := .slice (some ⟨gv, 0, none⟩) ps.length c) HX.out)
    have HF := hid (HMI.out.fits (n := o.data.length) HNM.out (by omega) (by unfold Dop.m at hm0; omega))
    have hdl : o.data.length + 2 ≤ 140737488355328 := by unfold Dop.m at hm0; omega
    simp only at HF
    rcases HK.out with h4 | h8
    case' inl =>
      have hge : (1 : Int) ≤ o.kind := h4.1
      have hle : o.kind ≤ 4 := h4.2
    case' inr =>
      have hge : (1 : Int) ≤ o.kind := by omega
      have hn4 : ¬ o.kind ≤ 4 := by omega
      have h48 : (o.kind == 8) = true := by rw [h8]; rfl
    all_goals
      first | clear h4 | clear h8
      go_wp2_with fail
      refine (wide_any _ o.data w2 (H2.out.sl0 HB0.out HVA.out) hdl).mono ?_
      rintro e w3 ⟨gw, cw, rfl, ho3, hc3, hb3⟩
      have H3 := hid (H2.out.rowL hb3 ho3)
      have HSW := hid (wide_sl ho3)
      clear ho3 hb3 c0 c1 c2 c3 c4 c5 c6 c7 c8 x0 x1
      obtain ⟨c0, c1, c2, c3, c4, c5, c6, c7, c8⟩ := op_cells (H3.out.blkL 0 rfl)
      obtain ⟨x0, x1⟩ := pr_cells (H3.out.blkL 1 rfl)
      go_wp2_with fail
      refine (play_fam H3.out (get_app HO.out.1) o _ x y z _ HF.out HK.out HSW.out).mono ?_
      rintro e w4 ⟨rfl, h4⟩
      rw [set_app _ _ _ _ (List.getElem?_eq_some_iff.1 HO.out.1).1] at h4
      have H4 := hid h4
      obtain ⟨pe, hpe⟩ : ∃ pe, D.playE o = pe := ⟨_, rfl⟩
      rw [hpe]
      have HPE := hid hpe
      clear h4 hpe c0 c1 c2 c3 c4 c5 c6 c7 c8 x0 x1
      obtain ⟨c0, c1, c2, c3, c4, c5, c6, c7, c8⟩ := op_cells (H4.out.blkL 0 rfl)
      obtain ⟨x0, x1⟩ := pr_cells (H4.out.blkL 1 rfl)
      go_wp2_with fail
      refine (rplay_fam H4.out (get_app (get_set HO.out.2 (by omega))) HB0.out o _ x y z HF.out HK.out HVA.out).mono ?_
      rw [HPE.out]
      rintro e w5 ⟨rfl, h5⟩
      rw [set_app _ _ _ _ (by rw [List.length_set]; exact (List.getElem?_eq_some_iff.1 HO.out.2).1), things_set _ HX.out] at h5
      have H5 := hid h5
      clear h5 c0 c1 c2 c3 c4 c5 c6 c7 c8 x0 x1
      obtain ⟨c0, c1, c2, c3, c4, c5, c6, c7, c8⟩ := op_cells (H5.out.blkL 0 rfl)
      have hbe : (pe == pe) = true := by simp
      go_wp2_with fail
      refine (kept_any gw cw 0 _ o.data w5 (H5.out.rowAtL 2 rfl) hc3 (H5.out.sl0 HB0.out HVA.out) hdl).mono ?_
      rintro e w5 ⟨rfl, rfl⟩
      go_wp2_with fail
      refine (over_fam H5.out 2 rfl).mono ?_
      rintro e w6 ⟨rfl, h6⟩
      have R := hid (H.out.turn HX.out h6.back (show m ≤ m + o.m by omega) (play_mild HMI.out o) (play_named HNM.out o hn'))
      clear h6 c0 c1 c2 c3 c4 c5 c6 c7 c8
      go_wp2
      go_ret2
      exact ⟨_, _, rfl, R.out⟩
end Go.Proofs.Ytcadacljacbipaa
