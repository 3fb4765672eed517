/- The walk of the law SumAll. -/
import Derived.Test.YthadfebboagabaaDoorSumAllC
namespace Go.Proofs.YthadfebboagabaaDoor
open Go.RowKit

set_option maxRecDepth 100000 in
set_option maxHeartbeats 1000000 in
theorem SumAll_walk (pv : Value) (ps : List (List UInt8)) (a b : BitVec 32) (n m : Int) (hn : n ≤ 9223372036854775807) (hps : ps.length ≤ 1048576) (hpl : ∀ i, (ps.getD i []).length ≤ 1048576) (w : World) (hP : SlBB w pv ps) (hT : TabAt w) :
    Calls Tryd.prog 7 #[.agg #[pv, W32 a, W32 b, .int .i64 n, .int .i64 m]] w fun e w' => e = .returned (.bool true) ∧ Below w.heap.size w w' := by
  have HP := hid hP
  have HT := hid hT
  obtain ⟨F, ⟨A, c, rfl, hc, hnil, hA⟩, hF⟩ := hP
  have HF := hid hF
  have HA := hid (show Sl w (.slice A ps.length c) ps.length F from ⟨A, c, rfl, hc, hnil, hA⟩)
  clear hT hnil hA hF
  go_enter Tryd.func7, Tryd.ntmps7
  go_wp2
  go_quiet (fail)
  go_wp2
  go_loopw [7, 8] (fun gv i wr => ∃ (k : Nat) (vs : List Value), k ≤ ps.length ∧ i = .int .i64 k ∧ Given wr w.heap.size gv vs (ps.take k) ∧ En w wr) (fun _ i _ => ps.length - (intOf i).toNat)
  case atStart => exact ⟨0, [], Nat.zero_le _, rfl, Given.nil _ _, ((En.refl HT.out).alloc _).drewN _⟩
  case round =>
    obtain ⟨k, vs, hk, rfl, hG, hE⟩ := hrel
    have HG := hid hG
    have HE := hid hE
    clear hG hE
    by_cases hlt : k < ps.length
    · obtain ⟨A', c', e1, _, _, hA⟩ := HA.out.below HE.out.b
      injection e1 with e1 e2 e3
      subst e1 e3
      clear e2
      obtain ⟨b0, off, rfl, hcell⟩ := hA (by omega)
      replace hcell := hcell k hlt
      have HS : Hid (SlB wr (F k) (ps.getD k [])) := hid ((HF.out k hlt).below HE.out.b)
      have hl := hpl k
      have HN : Hid (ps.take (k + 1) = ps.take k ++ [ps.getD k []]) := by
        show _ = _; rw [List.take_succ_eq_append_getElem hlt]; simp [hlt]
      have hvs : vs.length = k := by rw [HG.out.len]; simp; omega
      generalize ps.getD k [] = l at *
      clear hA
      go_wp2_with fail
      refine (wide_any (F k) l wr HS.out (by omega)).mono ?_
      rintro e w2 ⟨u, rfl, hu, hb⟩
      obtain ⟨Au, cu, rfl⟩ := hu.sl.form
      have HU := hid hu
      have hu1 := hu.one
      have HG2 := hid (HG.out.below hb)
      have HE2 := hid (HE.out.next hb)
      have HNE : Hid (Value.ownBlock (.slice Au l.length cu) ≠ u7.ownBlock) := hid (by
        obtain ⟨k1, h1, h2, _⟩ := hu.block
        intro e
        have := (World.ownsRow.lt HG.out.own k1 (by rw [← e, h1])).2
        omega)
      have hsz := HE.out.b.size
      clear hu hb HS HG HE
      go_wp2_with (at_builtin; refine wpList_appX rfl (.tmp 36) (.tmp 42) rfl Tryd.underlying22 infoBB rfl w.heap.size _ _ vs.length 1 vs (fun _ => .slice Au l.length cu) rfl rfl (HG2.out.below ((Below.refl _ _).alloc (Nat.le_refl _) _)).own (by exact lit_one w2 (.slice Au l.length cu) _) (fun _ _ => hu1) (by omega) (by unfold maxLen; omega) (by exact Nat.le_trans HE2.out.b.size (by simp)) ?_; intro v3 w3 ho3 hg3 hp3; have HR := hid ((HG2.out.below ((Below.refl _ _).alloc (Nat.le_refl _) _)).push ((HU.out.lower hsz).below ((Below.refl _ _).alloc (Nat.le_refl _) _)) HNE.out (by simpa using ho3) hg3 hp3); have HE3 := hid (show En w w3 from ⟨((HE2.out.alloc _).b).grown hg3 (HE2.out.alloc _).b.size (fun k hk => (World.ownsRow.lt HG2.out.own k hk).1), HE2.out.t0⟩))
      go_roundw
      case rel => exact ⟨k + 1, _, by omega, by go_num, by rw [HN.out]; exact HR.out, HE3.out⟩
      case measure => simp [intOf]; omega
    · obtain rfl : k = ps.length := by omega
      rw [List.take_length] at HG
      go_wp2_with fail
      refine (Of_any u7 ps wr HE.out.t HG.out.bb (by omega) (fun i => by have := hpl i; omega)).mono ?_
      rintro e w' ⟨rfl, rfl⟩
      go_wp2_with fail
      refine (refOf_any _ ps wr (HP.out.below HE.out.b) (by omega) (fun i => by have := hpl i; omega)).mono ?_
      rintro e w' ⟨rfl, rfl⟩
      go_wp2_with fail
      refine (Join_z a b n hn wr HE.out.t).mono ?_
      rintro e w4 ⟨rfl, hb4⟩
      go_wp2_with fail
      refine (refJoin_z a b n hn w4).mono ?_
      rintro e w5 ⟨rfl, hb5⟩
      have HG5 := hid ((HG.out.below hb4).below hb5)
      have HE5 := hid ((HE.out.next hb4).next hb5)
      obtain ⟨Ag, cg, e0, hcg, _, _⟩ := HG5.out.sl
      subst e0
      clear hb4 hb5 HG HE hlt hk
      go_wp2
      go_loopw [13] (fun i wr => ∃ k : Nat, k ≤ ps.length ∧ i = .int .i64 k ∧ Below w5.heap.size w5 wr) (fun i _ => ps.length - (intOf i).toNat)
      case atStart => exact ⟨0, Nat.zero_le _, rfl, Below.refl _ _⟩
      case round =>
        obtain ⟨k, hk, rfl, hbl⟩ := hrel
        have HBL := hid hbl
        clear hbl
        have HE6 := hid (HE5.out.next HBL.out)
        have HG6 := hid (HG5.out.below HBL.out)
        by_cases hlt : k < ps.length
        · obtain ⟨A', c', e1, _, _, hA⟩ := HA.out.below HE6.out.b
          injection e1 with e1 e2 e3
          subst e1 e3
          clear e2
          obtain ⟨b0, off, rfl, hcell⟩ := hA (by omega)
          replace hcell := hcell k hlt
          obtain ⟨A', c', e1, _, _, hAg⟩ := HG6.out.sl
          injection e1 with e1 e2 e3
          subst e1 e3
          clear e2
          obtain ⟨bg, offg, rfl, hcellg⟩ := hAg (by omega)
          replace hcellg : wr.cell? ⟨bg, offg + k, none⟩ = some (vs.getD k undef) := hcellg k hlt
          have HS : Hid (SlB wr (F k) (ps.getD k [])) := hid ((HF.out k hlt).below HE6.out.b)
          have HW := hid (HG6.out.at_ k hlt)
          have hl := hpl k
          generalize ps.getD k [] = l at *
          generalize F k = pvk at *
          generalize vs.getD k undef = gvk at *
          clear hA hAg HG6
          go_wp2_with fail
          refine (refTurn_z pvk l n b hn wr HS.out (by omega)).mono ?_
          rintro e wa ⟨A3, c3, rfl, ho3, hb3⟩
          have cga := (hb3.cell (World.block_lt_of_cell? wr _ hcellg)).trans hcellg
          have cpa := (hb3.cell (World.block_lt_of_cell? wr _ hcell)).trans hcell
          clear hcell hcellg
          go_wp2_with fail
          refine (Turn_z gvk l n b hn wa (HW.out.below hb3).sl (by omega)).mono ?_
          rintro e wb ⟨A4, c4, rfl, ho4, hb4⟩
          have cgb := (hb4.cell (World.block_lt_of_cell? wa _ cga)).trans cga
          have cpb := (hb4.cell (World.block_lt_of_cell? wa _ cpa)).trans cpa
          have hLl := turnZ_length n b l
          obtain ⟨L, hL⟩ : ∃ L, turnZ n b l = L := ⟨_, rfl⟩
          have HL := hid hL
          rw [hL] at ho3 ho4 hLl ⊢
          clear hL
          have HS3 : Hid (SlB wa (.slice A3 L.length c3) L) := hid ho3.sl
          have HO4 := hid ho4
          have k1 := fun (n : Nat) => conv_str ((ho3.sl.below hb4).drewN n)
          have k2 := fun (n : Nat) => conv_str (ho4.sl.drewN n)
          have HWA := hid hb3
          have HAB := hid hb4
          have HWB := hid (hb3.trans (hb4.mono hb3.size))
          have HCG := hid cga
          have HCP := hid cpa
          clear ho4 hb4 ho3 hb3 cga cpa
          have hL6 : L.length ≤ 1048576 := by omega
          go_wp2
          go_quiet (first | (go_at_call 16; exact Calls.quiet_of_same ((kept_true gvk pvk l _ ((HW.out.below HWB.out).below (below_drewN (Below.refl _ _) _)) ((HS.out.below HWB.out).drewN _) (by omega)).mono (fun _ _ h => ⟨h.1, h.2.symm⟩))))
          clear k1 k2 cgb cpb
          go_wp2
          go_loopw [18] (fun i wx => ∃ (j : Nat) (l' : List UInt8), j ≤ L.length ∧ i = .int .i64 j ∧ l'.length = L.length ∧ OwnB wx wa.heap.size (.slice A4 L.length c4) l' ∧ Below wa.heap.size wa wx) (fun i _ => L.length - (intOf i).toNat)
          case atStart => exact ⟨0, L, Nat.zero_le _, rfl, rfl, HO4.out.below (below_drewN (Below.refl _ _) _), below_drewN HAB.out _⟩
          case round =>
            obtain ⟨j, l', hj, rfl, hl', ho, hb⟩ := hrel
            have HO := hid ho
            have HB := hid hb
            have HLL := hid hl'
            clear ho hb hl'
            by_cases hjl : j < L.length
            · obtain ⟨g, cc, eA, hg, _, _⟩ := HO.out.some_ (by rw [HLL.out]; omega)
              injection eA with eA e6 e7
              subst eA; subst e7
              clear e6
              obtain ⟨hc, hfr⟩ := HO.out.at_ j (by rw [HLL.out]; exact hjl)
              go_wp2
              go_roundw
              case rel => exact ⟨j + 1, l'.set j 9, by omega, by go_num, by rw [List.length_set]; exact HLL.out, HO.out.set_ j 9, below_set HB.out hg _ _⟩
              case measure => simp [intOf]; omega
            · obtain rfl : j = L.length := by omega
              go_wp2_with (at_builtin; refine wpList_appB rfl (.tmp 128) (.tmp 129) rfl wa.heap.size _ _ l' [9] rfl rfl (HO.out.alloc _) (by exact lit_sl wr [9] (by simp)) (by rw [HLL.out]; simp only [List.length_cons, List.length_nil]; omega) (by exact Nat.le_trans HB.out.size (by simp)) ?_; intro v6 w6 ho6 hg6; have hb6 := hid (OwnB.grown (HB.out.alloc HB.out.size _) (HO.out.alloc _) (Nat.le_refl _) (Nat.le_trans HB.out.size (by simp)) hg6); obtain ⟨A6, c6, rfl⟩ := ho6.form; rw [List.length_append, HLL.out]; have HW6 := hid (HWA.out.trans (hb6.out.mono HWA.out.size)); have cg6 := (hb6.out.cell (World.block_lt_of_cell? wa _ HCG.out)).trans HCG.out; have cp6 := (hb6.out.cell (World.block_lt_of_cell? wa _ HCP.out)).trans HCP.out; clear hg6 ho6)
              clear HO HB
              have T7 := Turn_z gvk l n b hn w6 (HW.out.below HW6.out).sl (by omega)
              rw [HL.out] at T7
              refine T7.mono ?_
              rintro e w7 ⟨A7, c7, rfl, ho7, hb7⟩
              have cg7 := (hb7.cell (World.block_lt_of_cell? w6 _ cg6)).trans cg6
              have cp7 := (hb7.cell (World.block_lt_of_cell? w6 _ cp6)).trans cp6
              have HW7 := hid (HW6.out.trans (hb7.mono HW6.out.size))
              have k1 := fun (n : Nat) => conv_str (((HS3.out.below hb6.out).below hb7).drewN n)
              have k2 := fun (n : Nat) => conv_str (ho7.sl.drewN n)
              clear cg6 cp6 ho7 T7
              go_wp2
              go_quiet (first | (go_at_call 16; exact Calls.quiet_of_same ((kept_true gvk pvk l _ ((HW.out.below HW7.out).below (below_drewN (Below.refl _ _) _)) ((HS.out.below HW7.out).drewN _) (by omega)).mono (fun _ _ h => ⟨h.1, h.2.symm⟩))))
              clear k1 k2 cg7 cp7
              go_wp2
              go_roundw
              case rel => exact ⟨k + 1, by omega, by go_num, below_drewN (HBL.out.trans (HW7.out.mono HBL.out.size)) _⟩
              case measure => simp [intOf]; omega
        · obtain rfl : k = ps.length := by omega
          go_wp2
          go_ret
          exact ⟨rfl, HE6.out.b⟩
end Go.Proofs.YthadfebboagabaaDoor
