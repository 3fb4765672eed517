/- The walk of the law PackBack. -/
import Derived.Test.YtamhlfhblgmhoaaPackBackD
namespace Go.Proofs.Ytamhlfhblgmhoaa
open Go.RowKit
def encs (l : List POp) : List UInt8 := (l.map POp.enc).flatten
theorem encs_snoc (l : List POp) (i : Nat) (o : POp) (h : l[i]? = some o) : encs (l.take (i + 1)) = encs (l.take i) ++ o.enc := by
  obtain ⟨hi, rfl⟩ := List.getElem?_eq_some_iff.1 h
  unfold encs
  rw [List.take_succ_eq_append_getElem hi, List.map_append, List.flatten_append]; simp only [List.map_cons, List.map_nil, List.flatten_cons, List.flatten_nil, List.append_nil]
theorem encs_drop (l : List POp) (i : Nat) (o : POp) (h : l[i]? = some o) : encs (l.drop i) = o.enc ++ encs (l.drop (i + 1)) := by
  obtain ⟨hi, rfl⟩ := List.getElem?_eq_some_iff.1 h
  unfold encs
  rw [List.drop_eq_getElem_cons hi, List.map_cons, List.flatten_cons]
theorem enc_len (o : POp) (n0 : -9223372036854775808 ≤ o.n) (n1 : o.n ≤ 9223372036854775807) (hm : o.m ≤ 1048576) : o.enc.length ≤ 4 * o.m ∧ o.s.toList.length = o.s.data.toList.length := by
  have hN := o.num_eq
  have hN9 : o.num ≤ 9223372036854775807 := by
    rcases Int.lt_or_le o.n 0 with h | h
    · have := hN.1 h; omega
    · have := hN.2 h; omega
  have hs : o.s.toList.length = o.s.data.toList.length := by rw [toList_eq]
  refine ⟨?_, hs⟩
  unfold POp.m at hm ⊢
  unfold POp.enc
  have h1 := Pk.form_nine _ hN9
  have h2 := Pk.form_nine o.l.length (by omega)
  have h3 := Pk.form_nine o.s.toList.length (by omega)
  split
  · omega
  split
  · simp; omega
  split
  · simp; omega
  split
  · simp; omega
  split
  · rw [List.length_append]; omega
  · simp
theorem encs_len (l : List POp) (h : ∀ o ∈ l, o.enc.length ≤ 4 * o.m) : (encs l).length ≤ 4 * (l.map POp.m).sum := by
  induction l with
  | nil => simp [encs]
  | cons a l ih =>
    have h1 := h a (by simp)
    have h2 := ih fun o ho => h o (by simp [ho])
    unfold encs at h2 ⊢
    simp only [List.map_cons, List.flatten_cons, List.length_append, List.sum_cons] at h2 ⊢
    omega
theorem m_le {l : List POp} {o : POp} (h : o ∈ l) : o.m ≤ (l.map POp.m).sum := by
  induction l with
  | nil => cases h
  | cons a l ih =>
    simp only [List.map_cons, List.sum_cons]
    rcases List.mem_cons.1 h with rfl | h
    · omega
    · have := ih h; omega
theorem op_size : (Try.prog.info? 41).map (·.size) = some 5 := by kernel_rfl
/-- an element of the script, as it lies -/
theorem op_at {w : World} {b off c n : Nat} {ops : List POp} (h : SlR POp.R 5 w (.slice (some ⟨b, off, none⟩) n c) ops) (i : Nat) (o : POp) (hi : ops[i]? = some o) :
    ∃ v, w.rangeAt b (off + i * 5) (o.vals v) ∧ SlB w v o.l := by
  obtain ⟨A, c', ys, e1, h1, h2, h3, h4⟩ := h
  injection e1 with e1 e2 e3
  have hil := (List.getElem?_eq_some_iff.1 hi).1
  obtain ⟨b', off', eA, hc⟩ := h4 (by omega)
  rw [← e1] at eA
  injection eA with eA
  injection eA with ea eb
  subst ea eb
  obtain ⟨_, ⟨v, hv, hs⟩, _⟩ := h3 i o hi
  refine ⟨v, fun j x hj => ?_, hs⟩
  have hj5 : j < 5 := (List.getElem?_eq_some_iff.1 hj).1
  have := hc i hil j hj5
  rw [hv, hj] at this
  rw [Nat.add_assoc]
  exact this
theorem cells_at {w : World} {b p : Nat} {o : POp} {v : Value} (h : w.rangeAt b p (o.vals v)) (W : World) (hb : Below w.heap.size w W) :
    W.cell? ⟨b, p, none⟩ = some (.int .i64 o.kind) ∧ W.cell? ⟨b, p + 1, none⟩ = some (.int .i64 o.n) ∧ W.cell? ⟨b, p + 2, none⟩ = some (B o.b) ∧ W.cell? ⟨b, p + 3, none⟩ = some v ∧ W.cell? ⟨b, p + 4, none⟩ = some (.string o.s) := by
  have key : ∀ (j : Nat) (x : Value), (o.vals v)[j]? = some x → W.cell? ⟨b, p + j, none⟩ = some x := fun j x hx =>
    (hb.cell (World.block_lt_of_cell? w _ (h j x hx))).trans (h j x hx)
  exact ⟨key 0 _ rfl, key 1 _ rfl, key 2 _ rfl, key 3 _ rfl, key 4 _ rfl⟩
set_option maxRecDepth 100000 in
set_option maxHeartbeats 4000000 in
theorem PackBack_walk (sv : Value) (ops : List POp) (w : World) (hS : SlR POp.R 5 w sv ops) (hM : (ops.map POp.m).sum + 1 ≤ 1048576) (hlen : ops.length ≤ 1048576) :
    Calls Try.prog 7 #[sv] w fun e w' => e = .returned (.bool true) ∧ Below w.heap.size w w' := by
  have HS := hid hS
  obtain ⟨A, c, rfl, hlc⟩ : ∃ A c, sv = .slice A ops.length c ∧ ops.length ≤ c := by obtain ⟨A, c, _, e, h, _⟩ := hS; exact ⟨A, c, e, h⟩
  have HOP : Hid (∀ (i : Nat) (o : POp), ops[i]? = some o → (-9223372036854775808 ≤ o.n ∧ o.n ≤ 9223372036854775807) ∧ o.s.toList.length ≤ 1048576 ∧ o.l.length ≤ 1048576 ∧ o.enc.length ≤ 4 * o.m) := hid fun i o hi => by
    obtain ⟨_, _, ys, _, _, _, h3, _⟩ := hS
    have hm := m_le (List.mem_of_getElem? hi)
    obtain ⟨_, _, n0, n1⟩ := h3 i o hi
    have he := enc_len o n0 n1 (by omega)
    refine ⟨⟨n0, n1⟩, ?_, ?_, he.1⟩
    · have hmo : o.m = o.l.length + o.s.data.toList.length + 3 := rfl
      rw [he.2]; omega
    · have hmo : o.m = o.l.length + o.s.data.toList.length + 3 := rfl
      omega
  have HEL : Hid (∀ i, (encs (ops.take i)).length ≤ 4194304) := hid fun i => by
    have h1 := encs_len (ops.take i) fun o ho => by
      obtain ⟨j, hj⟩ := List.mem_iff_getElem?.1 (List.mem_of_mem_take ho)
      exact (HOP.out j o hj).2.2.2
    have h2 : ((ops.take i).map POp.m).sum ≤ (ops.map POp.m).sum := by
      conv => rhs; rw [← List.take_append_drop i ops]
      rw [List.map_append, List.sum_append]; omega
    omega
  clear hS hM
  have HSZ := hid op_size
  go_enter Try.func7, Try.ntmps7
  go_wp2_with fail
  refine (NewWriter_any w).mono ?_
  rintro r w1 ⟨rfl, hw1, hb1, hs1⟩
  have HW1 := hid hw1
  have HB1 := hid hb1
  clear hw1 hb1 hs1
  obtain ⟨gw, hgw⟩ : ∃ x, x = w.heap.size := ⟨_, rfl⟩
  simp only [← hgw] at HW1 ⊢
  have HG := hid hgw
  clear hgw
  go_wp2_with fail
  refine (Uint_any gw 0 _ [] 300 (by omega) w1 HW1.out (by simp)).mono ?_
  rintro r w2 ⟨rfl, v2, hw2, hf2, hp2⟩
  have e0 : wput 0 [] (Pk.form 300) = [172, 2] := by unfold wput; rw [if_pos rfl, Pk.form_big 300 (by omega), Pk.form_small _ (by omega)]; rfl
  rw [e0] at hw2
  have HW2 : Hid (WAt w2 gw 0 v2 [172, 2]) := hid hw2
  have HB2 := hid (HB1.out.trans (hf2.to_below (fun k hk h => by
      rcases h with h | h
      · have := HG.out; omega
      · simp [Value.ownBlock] at h) HB1.out.size))
  have HV2 : Hid (∀ b, v2.ownBlock = some b → w.heap.size ≤ b) := hid fun b hb => by
    rcases hp2 b hb with h | h
    · simp [Value.ownBlock] at h
    · exact Nat.le_trans HB1.out.size h
  clear hw2 hf2 hp2 e0 HW1 HB1
  go_wp2
  go_loopw [4] (fun i wr => ∃ (j : Nat) (v : Value), j ≤ ops.length ∧ i = .int .i64 j ∧ WAt wr gw 0 v ([172, 2] ++ encs (ops.take j)) ∧ Below w.heap.size w wr ∧ (∀ b, v.ownBlock = some b → w.heap.size ≤ b)) (fun i _ => ops.length - (intOf i).toNat)
  case atStart => exact ⟨0, v2, Nat.zero_le _, rfl, HW2.out, HB2.out, HV2.out⟩
  case round =>
    clear HW2 HB2 HV2
    obtain ⟨j, v, hj, rfl, hw, hb, hv⟩ := hrel
    have HW := hid hw
    have HB := hid hb
    have HV := hid hv
    clear hw hb hv
    by_cases hlt : j < ops.length
    · obtain ⟨o, ho⟩ : ∃ o, ops[j]? = some o := ⟨_, List.getElem?_eq_getElem hlt⟩
      obtain ⟨b, off, rfl⟩ : ∃ b off, A = some ⟨b, off, none⟩ := by
        obtain ⟨A', c', ys, e1, _, _, _, h4⟩ := HS.out
        injection e1 with e1
        obtain ⟨b, off, eA, _⟩ := h4 (by omega)
        exact ⟨b, off, e1.trans eA⟩
      obtain ⟨ov, hr, hov⟩ := op_at HS.out j o ho
      have HRW := hid (cells_at hr)
      have HOV := hid hov
      have hj9 := HEL.out j
      obtain ⟨⟨n0, n1⟩, s0, l0, _⟩ := HOP.out j o ho
      have HN := hid (encs_snoc ops j o ho)
      have c0 := (HRW.out wr HB.out).1
      have c1 := (HRW.out wr HB.out).2.1
      have c2 := (HRW.out wr HB.out).2.2.1
      have c3 := (HRW.out wr HB.out).2.2.2.1
      have c4 := (HRW.out wr HB.out).2.2.2.2
      clear hov ho hr
      go_wp2_with (fail)
      refine (write_any gw v ov _ o wr n0 n1 HW.out (fun wx hx => ?_) ?_).mono ?_
      · refine HOV.out.below (HB.out.trans (hx.to_below (fun k hk h => ?_) HB.out.size))
        have hG := HG.out
        rcases h with h | h
        · omega
        · have := HV.out k h; omega
      · simp only [List.length_append, List.length_cons, List.length_nil]; omega
      rintro r w3 ⟨rfl, v3, hw3, hf3, hp3⟩
      rw [List.append_assoc, ← HN.out] at hw3
      have HW3 := hid hw3
      have HB3 := hid (HB.out.trans (hf3.to_below (fun k hk h => by
        have hG := HG.out
        rcases h with h | h
        · omega
        · have := HV.out k h; omega) HB.out.size))
      have HV3 : Hid (∀ b, v3.ownBlock = some b → w.heap.size ≤ b) := hid fun b hb => by
        rcases hp3 b hb with h | h
        · exact HV.out b h
        · exact Nat.le_trans HB.out.size h
      clear hw3 hf3 hp3 c0 c1 c2 c3 c4
      go_wp2
      go_roundw
      case rel => exact ⟨j + 1, v3, by omega, by go_num, HW3.out, HB3.out, HV3.out⟩
      case measure => simp [intOf]; omega
    · obtain rfl : j = ops.length := by omega
      have hD9 := HEL.out ops.length
      rw [List.take_length] at HW hD9
      obtain ⟨E, hE⟩ : ∃ E, encs ops = E := ⟨_, rfl⟩
      rw [hE] at HW hD9
      have HEE := hid hE
      clear hE hlt hj
      obtain ⟨D, hD⟩ : ∃ D, D = [172, 2] ++ E := ⟨_, rfl⟩
      rw [← hD] at HW
      have HD := hid hD
      have d1 : D.length ≤ 4194306 := by rw [hD]; simp only [List.length_append, List.length_cons, List.length_nil]; omega
      have d2 : 2 ≤ D.length := by rw [hD]; simp only [List.length_append, List.length_cons, List.length_nil]; omega
      clear hD hD9
      go_wp2_with (fail)
      refine (Data_ok gw v D wr HW.out (by omega)).mono ?_
      rintro r w4 ⟨A5, c5, rfl, ho5, hb5⟩
      obtain ⟨g5, _, e5, hg5, hc5, _⟩ := ho5.some_ (by omega)
      injection e5 with e5 e6 e7
      subst e5 e7
      clear e6
      have HO5 := hid ho5
      have HW5 := hid (HW.out.below hb5)
      have HB5 := hid (HB.out.trans (hb5.mono HB.out.size))
      clear ho5 hb5 HW HB HV
      go_wp2_with (fail)
      refine (wErr_any gw 0 v D w4 HW5.out).mono ?_
      rintro r w5 ⟨rfl, rfl⟩
      have z0 := (HO5.out.at_ 0 (by omega)).1
      have z1 := (HO5.out.at_ 1 (by omega)).1
      rw [show D.getD 0 0 = 172 by rw [HD.out]; rfl] at z0
      rw [show D.getD 1 0 = 2 by rw [HD.out]; rfl] at z1
      go_wp2_with (fail)
      clear z0 z1
      refine (NewReader_any _ D w5 HO5.out.sl (by omega)).mono ?_
      rintro r w6 ⟨gr, dv, rfl, hr, hgr, hdv, hb6, hg6⟩
      have HR6 := hid hr
      have HO6 := hid (HO5.out.below hb6)
      have HB6 := hid (HB5.out.trans (hb6.mono HB5.out.size))
      have HGR : Hid (w.heap.size ≤ gr) := hid (Nat.le_trans HB5.out.size hgr)
      have HGR6 := hid hg6
      clear hr hgr hdv hb6 hg6 HW5 HB5 HO5
      obtain ⟨M, hM⟩ : ∃ M, D.length = M + 1 := ⟨D.length - 1, by omega⟩
      have m1 : (D.length : Int) - 1 = (M : Int) := by omega
      have m2 : M ≤ c5 := by omega
      have m3 : M ≤ D.length := by omega
      have HM := hid hM
      clear hM
      have HT : Hid (D.take M = D.dropLast) := hid (by rw [List.dropLast_eq_take, HM.out]; rfl)
      go_wp2_with (fail)
      refine (NewReader_any _ (D.take M) w6 (HO6.out.sl.take_ M m3 m2) (by rw [List.length_take]; omega)).mono ?_
      rintro r w7 ⟨gs, dv2, rfl, hr, hgr, hdv, hb7, hg7⟩
      rw [HT.out] at hr
      have HR7 := hid (HR6.out.below hb7)
      have HS7 := hid hr
      have HB7 := hid (HB6.out.trans (hb7.mono HB6.out.size))
      have HGS : Hid (w.heap.size ≤ gs) := hid (Nat.le_trans HB6.out.size hgr)
      have HNE : Hid (gr ≠ gs ∧ dv2.ownBlock ≠ some gr ∧ dv.ownBlock ≠ some gs) := hid ⟨by have := HGR6.out; omega, fun h => by have := hdv _ h; have := HGR6.out; omega, fun h => by have := (World.ownsRow.lt HR6.out.own _ h).2; omega⟩
      clear hr hgr hdv hb7 hg7 HR6 HO6 HB6
      go_wp2_with (fail)
      have U1 := rUint_ok gr dv D 0 300 w7 HR7.out
      have e1 : Pk.num 300 0 0 (D.drop 0) = (300, 2, 0) := by rw [HD.out]; simp [Pk.num]
      rw [e1] at U1
      refine U1.mono ?_
      rintro r w8 ⟨rfl, hL⟩
      have HR8 := hid hL.1
      have HS8 := hid (HS7.out.fr hL.2 (fun h => HNE.out.1 h.symm) (fun b hb h => HNE.out.2.1 (by rw [hb, h])))
      have HB8 := hid (HB7.out.trans (hL.2.to_below (fun k hk h => by have := HGR.out; omega) HB7.out.size))
      clear hL U1 e1 HR7 HS7 HB7
      go_wp2_with (fail)
      refine (rUint_ok gs dv2 D.dropLast 0 300 w8 HS8.out).mono ?_
      rintro r w9 ⟨rfl, hL⟩
      have HS9 : Hid (∃ es ks, RAt w9 gs es dv2 D.dropLast ks ∧ (es = 30 ∨ (es = 0 ∧ E ≠ [] ∧ D.dropLast.drop ks = E.dropLast))) := hid (by
        by_cases hE : E = []
        · have e2 : Pk.num 300 0 0 (D.dropLast.drop 0) = (0, 0, 30) := by rw [HD.out, hE]; simp [Pk.num]
          rw [e2] at hL
          exact ⟨30, 0, hL.1, .inl rfl⟩
        · have e3 : D.dropLast = [172, 2] ++ E.dropLast := by rw [HD.out, List.dropLast_append_of_ne_nil hE]
          have e2 : Pk.num 300 0 0 (D.dropLast.drop 0) = (300, 2, 0) := by rw [e3]; simp [Pk.num]
          rw [e2] at hL
          exact ⟨0, 2, hL.1, .inr ⟨rfl, hE, by rw [e3]; rfl⟩⟩)
      have HR9 := hid (HR8.out.fr hL.2 HNE.out.1 (fun b hb h => HNE.out.2.2 (by rw [hb, h])))
      have HB9 := hid (HB8.out.trans (hL.2.to_below (fun k hk h => by have := HGS.out; omega) HB8.out.size))
      clear hL HR8 HS8 HB8
      go_wp2
      go_loopw [8] (fun i wr => ∃ (j k es ks : Nat), j ≤ ops.length ∧ i = .int .i64 j ∧ RAt wr gr 0 dv D k ∧ D.drop k = encs (ops.drop j) ∧ RAt wr gs es dv2 D.dropLast ks ∧ (es = 30 ∨ (es = 0 ∧ encs (ops.drop j) ≠ [] ∧ D.dropLast.drop ks = (encs (ops.drop j)).dropLast)) ∧ Below w.heap.size w wr) (fun i _ => ops.length - (intOf i).toNat)
      case atStart =>
        obtain ⟨es, ks, a1, a2⟩ := HS9.out
        obtain ⟨en, rfl⟩ : ∃ en : Nat, es = (en : Int) := by
          rcases a2 with a | a
          · exact ⟨30, a⟩
          · exact ⟨0, a.1⟩
        exact ⟨0, 2, en, ks, Nat.zero_le _, rfl, HR9.out, by rw [List.drop_zero, HEE.out, HD.out]; rfl, a1, by
          rw [List.drop_zero, HEE.out]
          rcases a2 with a | ⟨a, b⟩
          · exact .inl (by omega)
          · exact .inr ⟨by omega, b⟩, HB9.out⟩
      case round =>
        clear HR9 HS9 HB9
        obtain ⟨j, k, es, ks, hj, rfl, hr, hdk, hs, hcase, hb⟩ := hrel
        have HR := hid hr
        have HSS := hid hs
        have HDK := hid hdk
        have HCASE := hid hcase
        have HB := hid hb
        clear hr hs hdk hcase hb
        by_cases hlt : j < ops.length
        · obtain ⟨o, ho⟩ : ∃ o, ops[j]? = some o := ⟨_, List.getElem?_eq_getElem hlt⟩
          obtain ⟨b, off, rfl⟩ : ∃ b off, A = some ⟨b, off, none⟩ := by
            obtain ⟨A', c', ys, e1, _, _, _, h4⟩ := HS.out
            injection e1 with e1
            obtain ⟨b, off, eA, _⟩ := h4 (by omega)
            exact ⟨b, off, e1.trans eA⟩
          obtain ⟨ov, hr, hov⟩ := op_at HS.out j o ho
          have HRW := hid (cells_at hr)
          have HOV := hid hov
          obtain ⟨⟨n0, n1⟩, s0, l0, _⟩ := HOP.out j o ho
          have HN := hid (encs_drop ops j o ho)
          have c0 := (HRW.out wr HB.out).1
          have c1 := (HRW.out wr HB.out).2.1
          have c2 := (HRW.out wr HB.out).2.2.1
          have c3 := (HRW.out wr HB.out).2.2.2.1
          have c4 := (HRW.out wr HB.out).2.2.2.2
          clear hov ho hr
          go_wp2_with (fail)
          refine (read_ok o n0 n1 (encs (ops.drop (j + 1))) (by rw [HDK.out, HN.out]) HR.out (fun wx hx => HOV.out.below (HB.out.trans (hx.to_below (fun k hk h => by have := HGR.out; omega) HB.out.size))) s0 l0).mono ?_
          rintro r wa ⟨rfl, hL⟩
          have HRa := hid hL.1
          have HSa := hid (HSS.out.fr hL.2 (fun h => HNE.out.1 h.symm) (fun b hb h => HNE.out.2.1 (by rw [hb, h])))
          have HBa := hid (HB.out.trans (hL.2.to_below (fun k hk h => by have := HGR.out; omega) HB.out.size))
          have HDa := hid (enc_drop (HDK.out.trans HN.out))
          clear hL HR HSS c0 c1 c2 c3 c4
          go_wp2_with (fail)
          refine (rErr_any gr 0 dv D _ wa HRa.out).mono ?_
          rintro r wb ⟨rfl, rfl⟩
          have c0 := (HRW.out _ HBa.out).1
          have c1 := (HRW.out _ HBa.out).2.1
          have c2 := (HRW.out _ HBa.out).2.2.1
          have c3 := (HRW.out _ HBa.out).2.2.2.1
          have c4 := (HRW.out _ HBa.out).2.2.2.2
          go_wp2_with (fail)
          have X : Calls Try.prog 31 #[.pointer (some ⟨gs, 0, none⟩), .agg (o.vals ov).toArray] wb fun r w' => (∃ q, r = .returned (.bool q)) ∧ ∃ es' ks', RLeft wb w' gs dv2 D.dropLast ((es' : Nat) : Int) ks' ∧ (es' = 30 ∨ (es' = 0 ∧ encs (ops.drop (j + 1)) ≠ [] ∧ D.dropLast.drop ks' = (encs (ops.drop (j + 1))).dropLast)) := by
            have hvv : ∀ w1, Fr (fun b => b = gs) wb w1 → SlB w1 ov o.l := fun wx hx => HOV.out.below (HBa.out.trans (hx.to_below (fun k hk h => by have := HGS.out; omega) HBa.out.size))
            rcases HCASE.out with hc | ⟨hc, hne, hd⟩
            · subst hc
              exact (read_stop 30 (by decide) o n0 HSa.out hvv).mono fun r w' h => ⟨h.1, 30, ks, h.2, .inl rfl⟩
            · subst hc
              rw [HN.out] at hne hd
              by_cases hR : encs (ops.drop (j + 1)) = []
              · rw [hR, List.append_nil] at hne hd
                exact (read_short o n0 n1 hne hd HSa.out hvv s0 l0).mono fun r w' h => ⟨h.1, 30, ks, h.2, .inl rfl⟩
              · rw [List.dropLast_append_of_ne_nil hR] at hd
                exact (read_ok o n0 n1 _ hd HSa.out hvv s0 l0).mono fun r w' h => ⟨⟨_, h.1⟩, 0, _, h.2, .inr ⟨rfl, hR, enc_drop hd⟩⟩
          refine X.mono ?_
          rintro r wc ⟨⟨q, rfl⟩, es', ks', hL, hcase⟩
          have HSc := hid hL.1
          have HRc := hid (HRa.out.fr hL.2 HNE.out.1 (fun b hb h => HNE.out.2.2 (by rw [hb, h])))
          have HBc := hid (HBa.out.trans (hL.2.to_below (fun k hk h => by have := HGS.out; omega) HBa.out.size))
          have HCc := hid hcase
          clear hL hcase c0 c1 c2 c3 c4 X
          go_wp2
          go_roundw
          case rel => exact ⟨j + 1, _, es', ks', by omega, by go_num, HRc.out, HDa.out, HSc.out, HCc.out, HBc.out⟩
          case measure => simp [intOf]; omega
        · obtain rfl : j = ops.length := by omega
          have hdn : encs (ops.drop ops.length) = [] := by rw [List.drop_length]; rfl
          have hk := drop_nil (HDK.out.trans hdn)
          have hkk : k = D.length := by have := HR.out.le; omega
          have hes : es = 30 := by
            rcases HCASE.out with h | ⟨_, h, _⟩
            · exact h
            · exact absurd hdn h
          subst hes
          have HKK := hid hkk
          clear hdn hk hkk
          go_wp2_with (fail)
          refine (rEnd_ok gr dv D k wr HKK.out HR.out).mono ?_
          rintro r wa ⟨rfl, hL⟩
          have HRa := hid hL.1
          have HSa := hid (HSS.out.fr hL.2 (fun h => HNE.out.1 h.symm) (fun b hb h => HNE.out.2.1 (by rw [hb, h])))
          have HBa := hid (HB.out.trans (hL.2.to_below (fun k hk h => by have := HGR.out; omega) HB.out.size))
          rw [HKK.out] at HRa
          clear hL HR HSS
          go_wp2_with (fail)
          refine (rErr_any gr 0 dv D _ wa HRa.out).mono ?_
          rintro r wb ⟨rfl, rfl⟩
          go_wp2_with (fail)
          refine (rAt_any gr 0 dv D _ _ HRa.out).mono ?_
          rintro r wb ⟨rfl, rfl⟩
          go_wp2_with (fail)
          refine (rErr_any gs _ dv2 D.dropLast _ _ HSa.out).mono ?_
          rintro r wb ⟨rfl, rfl⟩
          go_wp2
          go_ret
          exact ⟨rfl, HBa.out⟩
end Go.Proofs.Ytamhlfhblgmhoaa
