/- The law DiskAll, walked: every script of calls over any number of disks. -/
import Derived.Test.YtcadacljacbipaaAll29
namespace Go.Proofs.Ytcadacljacbipaa
open Go.RowKit Go.ChangeShapes Go.WideShapes
def sumM (ops : List Dop) (j : Nat) : Nat := ((ops.take j).map Dop.m).sum
theorem sumM_succ (ops : List Dop) (j : Nat) (o : Dop) (h : ops[j]? = some o) : sumM ops (j + 1) = sumM ops j + o.m := by
  unfold sumM
  obtain ⟨hj, rfl⟩ := List.getElem?_eq_some_iff.1 h
  rw [List.take_succ_eq_append_getElem hj, List.map_append, List.sum_append]
  simp only [List.map_cons, List.map_nil, List.sum_cons, List.sum_nil, Nat.add_zero]
theorem sumM_le (ops : List Dop) (j : Nat) : sumM ops j ≤ (ops.map Dop.m).sum := by
  have : ((ops.take j).map Dop.m).sum + ((ops.drop j).map Dop.m).sum = (ops.map Dop.m).sum := by
    rw [← List.sum_append, ← List.map_append, List.take_append_drop]
  unfold sumM
  omega
theorem m_length : ∀ ops : List Dop, ops.length ≤ (ops.map Dop.m).sum
  | [] => Nat.le_refl _
  | o :: l => by have := m_length l; simp only [List.map_cons, List.sum_cons, List.length_cons, Dop.m] at this ⊢; omega
theorem first_row (w : World) (p r : Nat) : (allT (.slice (some ⟨w.heap.size, 0, none⟩) 1 1) [⟨p, r, Dk.new⟩]).at_ (w.alloc (.cells #[.pointer (some ⟨p, 0, none⟩), .pointer (some ⟨r, 0, none⟩)] 59 (0, 0))) (New_ w (w.alloc (.cells #[.pointer (some ⟨p, 0, none⟩), .pointer (some ⟨r, 0, none⟩)] 59 (0, 0)))) := by
  refine ⟨⟨rfl, .inr ⟨w.heap.size, 1, #[.pointer (some ⟨p, 0, none⟩), .pointer (some ⟨r, 0, none⟩)], rfl, Nat.zero_le _, heap_alloc_new _ _, Nat.le_refl _, by decide, rfl, rfl⟩⟩, fun k hk => ?_⟩
  simp only [Value.ownBlock, Option.some.injEq] at hk
  subst hk
  exact ⟨Nat.le_refl _, by simp⟩
set_option maxRecDepth 100000 in
set_option maxHeartbeats 16000000 in
theorem DiskAll_walk (sv : Value) (ops : List Dop) (w : World) (hS : SlR Dop.R 9 w sv ops) (hM : (ops.map Dop.m).sum ≤ 1048576) :
    Calls Try.prog 7 #[sv] w fun e w' => e = .returned (.bool true) ∧ Below w.heap.size w w' := by
  have HS := hid hS
  have HM := hid hM
  have hlen : ops.length ≤ 1048576 := by have := m_length ops; omega
  obtain ⟨A, c, rfl, hlc⟩ : ∃ A c, sv = .slice A ops.length c ∧ ops.length ≤ c := by obtain ⟨A, c, _, e, h, _⟩ := hS; exact ⟨A, c, e, h⟩
  have H0 := hid (Fam.start w)
  have HSZ : Hid (Try.prog.cellsOf 51 = 9) := hid (by kernel_rfl)
  clear hS hM
  go_enter Try.func7, Try.ntmps7
  go_wp2_with fail
  refine (New_any w).mono ?_
  rintro e w1 ⟨d0, rfl, hb1, hd1⟩
  have H1 := hid (H0.out.add (t := dT d0 Dk.new) hb1 hd1)
  clear hb1 hd1
  go_wp2_with fail
  refine (none_any _).mono ?_
  rintro e w2 ⟨rfl, hb2⟩
  have H2 := hid (H1.out.below hb2)
  clear hb2
  go_wp2_with fail
  refine (rNew_any _).mono ?_
  rintro e w3 ⟨r0, rfl, hb3, hd3⟩
  have H3 := hid (H2.out.add (t := rT r0 Dk.new) hb3 hd3)
  clear hb3 hd3
  go_upto_region 5 with (fail)
  obtain ⟨g4, hg4⟩ : ∃ g, w3.heap.size = g := ⟨_, rfl⟩
  refine Code.seen (fun W => All w.heap.size w W (.slice (some ⟨g4, 0, none⟩) 1 1) [⟨d0, r0, Dk.new⟩] 0 0) ?_ fun w4 H4 => ?_
  · rw [← hg4]
    exact ⟨(Fam.rot (ts := []) (Fam.rot (ts := []) (H3.out.add (t := allT (.slice (some ⟨w3.heap.size, 0, none⟩) 1 1) [⟨d0, r0, Dk.new⟩]) ((Below.refl _ _).alloc (Nat.le_refl _) _) (first_row w3 d0 r0)))), by simp, by simp, fun x hx => by rw [List.mem_singleton] at hx; rw [hx]; exact new_mild, fun x hx => by rw [List.mem_singleton] at hx; rw [hx]; show (0 : Nat) ≤ _; decide⟩
  rw [hg4]
  clear hg4 H0 H1 H2 H3
  go_wp2
  go_loopw [4, 5, 6] (fun v ok i wr => ∃ (j : Nat) (ps : List Pr), j ≤ ops.length ∧ i = .int .i64 j ∧ ok = .bool true ∧ All w.heap.size w wr v ps j (sumM ops j)) (fun _ _ i _ => ops.length - (intOf i).toNat)
  case atStart => exact ⟨0, _, Nat.zero_le _, rfl, rfl, H4.out⟩
  case round =>
    clear H4
    obtain ⟨j, ps, hj, rfl, rfl, ha⟩ := hrel
    have HA := hid ha
    clear ha
    by_cases hlt : j < ops.length
    · obtain ⟨o, ho⟩ : ∃ o, ops[j]? = some o := ⟨_, List.getElem?_eq_getElem hlt⟩
      obtain ⟨b, off, rfl⟩ : ∃ b off, A = some ⟨b, off, none⟩ := by
        obtain ⟨A', c', ys, e1, _, _, _, h4⟩ := HS.out
        injection e1 with e1
        obtain ⟨b, off, eA, _⟩ := h4 (by omega)
        exact ⟨b, off, e1.trans eA⟩
      obtain ⟨ov, ox, oy, oz, hr, hov, hox, hoy, hoz, _, hon, _⟩ := dop_at HS.out j o ho
      obtain ⟨c0, c1, c2, c3, c4, c5, c6, c7, c8⟩ := dcells_at hr wr HA.out.fam.base
      have hsm := sumM_succ ops j o ho
      have hsl := sumM_le ops (j + 1)
      have HC := hid (one_any w.heap.size w wr _ ps j (sumM ops j) HA.out rfl (by omega) o ov ox oy oz (by have := HM.out; omega) hov hox hoy hoz hon.1 hon.2)
      rw [← hsm] at HC
      have i0 : (0 : Int) ≤ (j : Int) := by omega
      have i1 : (j : Int) < (ops.length : Int) := by omega
      clear hr hov hox hoy hoz hon ho hsm hsl
      go_wp2_with fail
      refine HC.out.mono ?_
      rintro e w5 ⟨v', ps', rfl, ha'⟩
      have HA' := hid ha'
      clear ha' c0 c1 c2 c3 c4 c5 c6 c7 c8 HC
      go_wp2
      go_roundw
      case rel => exact ⟨j + 1, ps', by omega, by go_num, rfl, HA'.out⟩
      case measure => simp [intOf]; omega
    · have HMM : Hid (sumM ops j ≤ 1048576) := hid (by have := sumM_le ops j; have := HM.out; omega)
      have hjl : j ≤ 1048576 := by omega
      have hpl : ps.length ≤ 1048577 := by have := HA.out.len; omega
      obtain ⟨Ap, cp, rfl⟩ : ∃ A c, _ = Value.slice A ps.length c := own_form (HA.out.fam.own (i := 0) rfl).1
      go_wp2
      go_loopw [5, 7] (fun ok i wr => ∃ (t : Nat), t ≤ ps.length ∧ i = .int .i64 t ∧ ok = .bool true ∧ All w.heap.size w wr (.slice Ap ps.length cp) ps j (sumM ops j)) (fun _ i _ => ps.length - (intOf i).toNat)
      case atStart => exact ⟨0, Nat.zero_le _, rfl, rfl, HA.out⟩
      case round =>
        clear HA
        obtain ⟨t, ht, rfl, rfl, ha⟩ := hrel
        have HA := hid ha
        clear ha
        by_cases hlt2 : t < ps.length
        · go_wp2
          go_loopw [5, 8] (fun ok i wr => ∃ (kd : Int), 5 ≤ kd ∧ kd ≤ 8 ∧ i = .int .i64 kd ∧ ok = .bool true ∧ All w.heap.size w wr (.slice Ap ps.length cp) ps j (sumM ops j)) (fun _ i _ => (8 - intOf i).toNat)
          case atStart => exact ⟨5, by omega, by omega, rfl, rfl, HA.out⟩
          case round =>
            clear HA
            obtain ⟨kd, hk5, hk8, rfl, rfl, ha⟩ := hrel
            have HA := hid ha
            clear ha
            by_cases hlt3 : kd ≤ 7
            · obtain ⟨⟨p, r, D⟩, hx⟩ : ∃ x, ps[t]? = some x := ⟨_, List.getElem?_eq_getElem hlt2⟩
              obtain ⟨gv, rfl, q0, q1⟩ := Fam.pair (L := []) (by rw [List.append_nil]; exact HA.out.fam) hx
              simp only at q0 q1
              have hat := things_at (v := .slice (some ⟨gv, 0, none⟩) ps.length cp) hx
              have hrm := mild_room (HA.out.mild _ (List.mem_of_getElem? hx)) (by omega) (by have := HMM.out; omega)
              simp only at hrm
              have HC := hid (told_fam HA.out.fam hat.1 hat.2 kd 1 0 0 (.slice none 0 0) (.slice none 0 0) (.slice none 0 0) (.slice none 0 0) false hrm.1 hrm.2)
              have i0 : (0 : Int) ≤ (t : Int) := by omega
              have i1 : (t : Int) < (ps.length : Int) := by omega
              clear hx hat hrm
              go_wp2_with fail
              refine HC.out.mono ?_
              rintro e w5 ⟨rfl, hb5⟩
              have HA5 : Hid (All w.heap.size w w5 (.slice (some ⟨gv, 0, none⟩) ps.length cp) ps j (sumM ops j)) := hid ⟨HA.out.fam.below hb5, HA.out.pos, HA.out.len, HA.out.mild, HA.out.named⟩
              clear hb5 q0 q1 HC
              go_wp2
              go_roundw
              case rel => exact ⟨kd + 1, by omega, by omega, rfl, rfl, HA5.out⟩
              case measure => simp [intOf]; omega
            · go_wp2
              go_roundw
              case rel => exact ⟨t + 1, by omega, by go_num, rfl, HA.out⟩
              case measure => simp [intOf]; omega
        · go_wp2
          go_ret
          exact ⟨rfl, HA.out.fam.base⟩
end Go.Proofs.Ytcadacljacbipaa
