/- The law NetOrder, walked: whatever is taken, dropped and doubled, what is in flight is what was sent, or doubles. -/
import Derived.Test.YtahpkknbejgnkaaDoorNetOrderC
namespace Go.Proofs.YtahpkknbejgnkaaDoor
open Go.RowKit
/-- a list of ints that can be read -/
def SlZ (w : World) (v : Value) (ps : List Int) : Prop := Sl w v ps.length fun i => .int .i64 (ps.getD i 0)
def Small (Q : List Pkt) : Prop := ∀ p ∈ Q, p.data.length ≤ 140737488355328
theorem Small.erase {Q : List Pkt} (h : Small Q) (i : Nat) : Small (Q.eraseIdx i) := fun p hp => h p (List.mem_of_mem_eraseIdx hp)
theorem Small.more {Q : List Pkt} (h : Small Q) (i : Nat) (hi : i < Q.length) : Small (Q ++ [Q[i]]) := fun p hp => by
  rcases List.mem_append.1 hp with h1 | h1
  · exact h p h1
  · rw [List.mem_singleton] at h1; subst h1; exact h _ (List.getElem_mem hi)
/-- the net and the list in step -/
def Step (B : Nat) (w0 : World) (d n : Nat) (v : Value) (w : World) : Prop := ∃ Q, Q.length ≤ n ∧ Small Q ∧ Two B w0 w d Q v Q
theorem pick_at (x : Int) (n : Nat) (hn : 0 < n) : ∃ (q : Int) (i : Nat), x.tmod n = q ∧ -(n : Int) < q ∧ q < n ∧ (q + n) % n = (i : Int) ∧ i < n := by
  have t1 := Int.tmod_lt_of_pos x (show (0 : Int) < (n : Int) by omega)
  have t2 := Int.lt_tmod_of_pos x (show (0 : Int) < (n : Int) by omega)
  have e1 := Int.emod_nonneg (x.tmod n + n) (show (n : Int) ≠ 0 by omega)
  have e2 := Int.emod_lt_of_pos (x.tmod n + n) (show (0 : Int) < (n : Int) by omega)
  exact ⟨_, ((x.tmod n + n) % n).toNat, rfl, t2, t1, by omega, by omega⟩
set_option maxRecDepth 100000 in
set_option maxHeartbeats 8000000 in
theorem NetOrder_walk (ds : List (List UInt8)) (ps : List Int) (dv pv : Value) (w : World) (hF : FtAt w) (h : SlBB w dv ds) (hp : SlZ w pv ps) (hn : ds.length ≤ 1048576) (hd : ∀ l ∈ ds, l.length ≤ 1048576) (hpn : ps.length ≤ 1048576)
    (hpb : ∀ x ∈ ps, -9223372036854775808 ≤ x ∧ x ≤ 9223372036854775807) :
    Calls Tryd.prog 3 #[dv, pv] w fun e w' => e = .returned (.bool true) ∧ Below w.heap.size w w' := by
  have HF := hid hF
  have hFl : 0 < w.heap.size := World.block_lt_of_cell? w _ hF.c0
  obtain ⟨Ap, cp, rfl, hcp, hnp, hAp⟩ := hp
  have HA := hid hAp
  have HPB := hid hpb
  have HN := hid hn
  have HFL := hid (flown_any ds dv w h hn hd)
  clear hF hAp hpb h hd hn hnp
  go_enter Tryd.func3, Tryd.ntmps3
  go_wp2_with fail
  refine HFL.out.mono ?_
  rintro e w1 ⟨d, sv, rfl, h1⟩
  have H1 : Hid (Step w.heap.size w d 1048576 sv w1) := hid ⟨_, by rw [sentN_len]; exact HN.out, fun p hp => by have := sentN_small _ _ p hp; omega, h1⟩
  clear h1 HFL
  go_upto_block 0 with (fail)
  go_cut [6] (fun v wx => Step w.heap.size w d 3000000 v wx)
  case first =>
    go_wp2_with fail
    go_loopw [6, 28] (fun v i wr => ∃ k : Nat, k ≤ ps.length ∧ i = .int .i64 k ∧ Step w.heap.size w d (1048576 + k) v wr) (fun _ i _ => ps.length - (intOf i).toNat)
    case atStart => exact ⟨0, by omega, rfl, H1.out⟩
    case round =>
      obtain ⟨k, hk, rfl, Q, hq, hsm, hT⟩ := hrel
      have HT := hid hT
      have HSM := hid hsm
      obtain ⟨S, T, hN, ⟨I, vs, hPV⟩, h3, h4, h5, h6⟩ := hT
      obtain ⟨Ao, co, rfl⟩ := own_form hPV.row
      have HNN := hid hN
      have HV := hid hPV
      have HB := hid h5
      have H3 := hid h3
      have H4 := hid h4
      have hB := h6
      clear hN hPV h3 h4 h5 h6 hsm
      by_cases hlt : k < ps.length
      case neg =>
        have hge : ps.length ≤ k := by omega
        go_wp2_with fail
        go_meet
        exact ⟨Q, by omega, HSM.out, HT.out⟩
      obtain ⟨b, off, rfl, hcell⟩ := HA.out (by omega)
      have x0 : wr.cell? ⟨b, off + k, none⟩ = some (.int .i64 (ps.getD k 0)) := (HB.out.cell (World.block_lt_of_cell? w _ (hcell k hlt))).trans (hcell k hlt)
      have hb := HPB.out (ps.getD k 0) (by rw [List.getD_eq_getElem?_getD, List.getElem?_eq_getElem hlt]; exact List.getElem_mem hlt)
      generalize ps.getD k 0 = x at *
      obtain ⟨hx1, hx2⟩ := hb
      clear hcell
      have i1 : (k : Int) < (ps.length : Int) := by omega
      by_cases hk200 : 200 < k
      · have hk201 : (200 : Int) < (k : Int) := by omega
        go_wp2_with fail
        go_meet
        exact ⟨Q, by omega, HSM.out, HT.out⟩
      by_cases h0 : Q.length = 0
      · have hz : ((Q.length : Int) == 0) = true := by rw [h0]; rfl
        have hz2 : (Q.length == 0) = true := by rw [h0]; rfl
        have HZ := hid h0
        clear h0
        go_wp2_with fail
        go_meet
        exact ⟨Q, by omega, HSM.out, HT.out⟩
      have hz : ((Q.length : Int) == 0) = false := by rw [beq_eq_false_iff_ne]; omega
      have hz2 : (Q.length == 0) = false := by rw [beq_eq_false_iff_ne]; omega
      obtain ⟨q, i, hq1, hq2, hq3, hq4, hiq⟩ := pick_at x Q.length (by omega)
      have hq5 : (1 : Int) ≤ (Q.length : Int) := by omega
      have hq6 : 0 ≤ q + (Q.length : Int) := by omega
      have hQ0 : 0 < Q.length := by omega
      obtain ⟨g0, c0, e0, -, -, -, -, -⟩ := HV.out.lies hQ0
      injection e0 with e01 e02 e03
      subst e01 e03
      clear h0
      go_upto_region 9 with (fail)
      rw [hq4]
      clear hq1 hq2 hq3 hq4 hq5 hq6 hz hz2 x0 hx1 hx2
      go_upto_block 2 with (fail)
      obtain ⟨r, hr⟩ : ∃ r : Int, (k : Int) % 3 = r := ⟨_, rfl⟩
      have hr2 : r = 0 ∨ r = 1 ∨ r = 2 := by omega
      rw [hr]
      clear hr
      go_cut [6] (fun v wx => Step w.heap.size w d (1048576 + (k + 1)) v wx)
      case first =>
        rcases hr2 with rfl | rfl | rfl
        · go_wp2_with fail
          refine Calls.mono (Take_two HF.out hFl HT.out i hiq HSM.out (by omega)) ?_
          rintro e w2 ⟨u, rfl, hu, h2⟩
          have H2 := hid h2
          obtain ⟨p, hp⟩ : ∃ p, p = Q[i] := ⟨_, rfl⟩
          rw [← hp] at hu ⊢
          have HP := hid hp
          obtain ⟨fk, fi, tk, ti, l, lost⟩ := p
          have HU : Hid (SlB w2 u l) := hid hu
          obtain ⟨Au, cu, rfl⟩ := HU.out.form
          unfold Pkt.val
          simp only
          clear hu h2 hp
          go_upto_region 12 with (fail)
          refine Code.seen (fun W => PkAt W w2.heap.size fk fi tk ti (.slice Au l.length cu) lost ∧ Below w2.heap.size w2 W) ⟨pk_at (t := 32) (heap_alloc_new _ _), (Below.refl _ _).alloc (Nat.le_refl _) _⟩ fun w3 Z3 => ?_
          have HU3 := hid (HU.out.below Z3.out.2)
          have HT3 := hid (H2.out.below Z3.out.2)
          obtain ⟨y0, y1, y2, y3, y4, y5⟩ := Z3.out.1
          obtain ⟨S3, T3, hN3, ⟨I3, vs3, hP3⟩, -, -, -, -⟩ := HT3.out
          obtain ⟨u3, -, hu3, hc3⟩ := hP3.get i hiq
          rw [← HP.out] at hu3 hc3
          obtain ⟨z0, z1, z2, z3, z4, z5⟩ := pk6 hc3
          have HV3 : Hid (SlB w3 u3 l) := hid hu3.sl
          obtain ⟨A3, c3, rfl⟩ := HV3.out.form
          simp only at z0 z1 z2 z3 z4 z5
          clear hN3 hP3 hu3 hc3 HU H2 Z3
          have i2 : (0 : Int) ≤ (i : Int) := by omega
          have i3 : (i : Int) < (Q.length : Int) := by omega
          go_region_law (go_simp; go_at_call 7; refine (samePacket_at fk fi tk ti l lost (.slice Au l.length cu) (.slice A3 l.length c3) w3.drew (HU3.out.drew) (HV3.out.drew)).mono ?_; rintro e wE ⟨rfl, hbE⟩; have HBE := hid (below_then (drew_below w3) hbE); clear hbE)
          all_goals
            have HE := hid (HT3.out.below HBE.out)
            clear y0 y1 y2 y3 y4 y5 z0 z1 z2 z3 z4 z5 HU3 HV3 HBE HT3
            go_upto_region 14 with (fail)
            obtain ⟨S5, T5, hN5, ⟨I5, vs5, hP5⟩, h35, h45, h55, h65⟩ := HE.out
            obtain ⟨g5, cap5, e5, -, -, hco, hgl5, -⟩ := hP5.lies hQ0
            obtain ⟨rfl, rfl⟩ : g0 = g5 ∧ co = cap5 := by
              injection e5 with e1 e2 e3
              injection e1 with e1
              injection e1 with e1
              exact ⟨e1, e3⟩
            clear e5
            obtain ⟨a1, a2, a3, a4, a5, a6⟩ := hP5.ahead hiq
            have A1 := hid a1
            have A2 := hid a2
            have A3 := hid a3
            have A4 := hid a4
            have A5 := hid a5
            have AA6 := hid a6
            have P5 := hid (And.intro hN5 (And.intro h35 (And.intro h45 (And.intro h55 (And.intro h65 hP5)))))
            have HAL := hid (((Below.refl wE.heap.size wE).alloc (Nat.le_refl _) (.cells #[] 32)).drew)
            have hic : i ≤ co := by omega
            have hic2 : i + 1 ≤ co := by omega
            have hic3 : i + 1 ≤ Q.length := by omega
            have hwi : IntKind.i64.wrap ((i : Int) + 1) = ((i + 1 : Nat) : Int) := by rw [IntKind.wrap_i64]; omega
            have hpos : (0 : Int) ≤ (i : Int) + 1 := by omega
            have hle : (i : Int) ≤ (i : Int) + 1 := by omega
            have hle2 : (i : Int) + 1 ≤ (Q.length : Int) := by omega
            clear hN5 h35 h45 h55 h65 hP5 a1 a2 a3 a4 a5 a6
            by_cases hcap : co = i + 1
            · subst hcap
              have hql : Q.length = i + 1 := by omega
              have HQL := hid hql
              have AD0 : Hid ((pktCells vs5 Q).drop ((i + 1) * 6) = []) := hid (List.eq_nil_of_length_eq_zero (by rw [AA6.out]; omega))
              have AD6 : Hid (([] : List Value).length = 0 * 6) := hid rfl
              have AD2 : Hid (∀ (j : Nat) (u : Value), ([] : List Value)[j]? = some u → wE.cell? ((⟨g0, 0, none⟩ : Addr).add j) = some u) := hid (fun j u hj => by simp at hj)
              have AD4 : Hid (∀ u ∈ ([] : List Value), u.oneCell' = true) := hid (fun u hu => by simp at hu)
              clear hql
              go_region_law (first
                | (refine step_appP (by rfl) (.tmp 71) (.tmp 74) (by rfl) wE.heap.size (.slice (some ⟨wE.heap.size, 0, none⟩) 0 0) 0 [] (by rfl) (litP0 wE).drew ⟨g0, 0, none⟩ i (i + 1) _ (by rfl) A5.out (fun j u hj => (HAL.out.cell (World.block_lt_of_cell? wE _ (A1.out j u hj))).trans (A1.out j u hj)) A3.out (by omega) (by simp) ?_; intro v6 w6 ho6 hg6; rw [Nat.zero_add, List.nil_append] at ho6; obtain ⟨A6, c6, rfl⟩ := own_form ho6; have HO6 := hid ho6; have HB6 := hid (HAL.out.grown hg6 (by simp) (fun k hk => by injection hk with hk; have hk : wE.heap.size = k := hk; omega)); clear ho6 hg6)
                | (refine step_appP (by rfl) (.tmp 75) (.tmp 79) (by rfl) wE.heap.size (.slice A6 i c6) i _ (by rfl) HO6.out ⟨g0, 0, none⟩ 0 0 _ (by rfl) AD6.out (fun j u hj => (HB6.out.cell (World.block_lt_of_cell? wE _ (AD2.out j u hj))).trans (AD2.out j u hj)) AD4.out (by omega) HB6.out.size ?_; intro v7 w7 ho7 hg7; rw [show i + 0 = Q.length - 1 by have := HQL.out; omega] at ho7; obtain ⟨A7, c7, rfl⟩ := own_form ho7; have HO7 := hid ho7; have HB7 := hid (HB6.out.grown hg7 HB6.out.size (fun k hk => (World.ownsRow.lt HO6.out k hk).1)); clear ho7 hg7))
              all_goals
                have HL7 := hid (Two.less P5.out.1 P5.out.2.1 P5.out.2.2.1 P5.out.2.2.2.1 P5.out.2.2.2.2.1 P5.out.2.2.2.2.2 hiq HB7.out (by have := HO7.out; first | exact this | (rw [AD0.out]; exact this)))
                clear hwi hpos hle hle2
                go_wp2_with fail
                simp only [List.getElem_toArray, List.getElem_cons_succ, List.getElem_cons_zero]
                go_frame
                go_meet
                exact ⟨Q.eraseIdx i, by rw [List.length_eraseIdx]; split <;> omega, HSM.out.erase i, HL7.out⟩
            · have hcap2 : ¬ i + 1 = co := fun e => hcap e.symm
              have AD6 := AA6
              have AD2 := A2
              have AD4 := A4
              go_region_law (first
                | (refine step_appP (by rfl) (.tmp 71) (.tmp 74) (by rfl) wE.heap.size (.slice (some ⟨wE.heap.size, 0, none⟩) 0 0) 0 [] (by rfl) (litP0 wE).drew ⟨g0, 0, none⟩ i co _ (by rfl) A5.out (fun j u hj => (HAL.out.cell (World.block_lt_of_cell? wE _ (A1.out j u hj))).trans (A1.out j u hj)) A3.out (by omega) (by simp) ?_; intro v6 w6 ho6 hg6; rw [Nat.zero_add, List.nil_append] at ho6; obtain ⟨A6, c6, rfl⟩ := own_form ho6; have HO6 := hid ho6; have HB6 := hid (HAL.out.grown hg6 (by simp) (fun k hk => by injection hk with hk; have hk : wE.heap.size = k := hk; omega)); clear ho6 hg6)
                | (refine step_appP (by rfl) (.tmp 75) (.tmp 79) (by rfl) wE.heap.size (.slice A6 i c6) i _ (by rfl) HO6.out ⟨g0, (i + 1) * 6, none⟩ (Q.length - (i + 1)) (co - (i + 1)) _ (by rfl) AD6.out (fun j u hj => (HB6.out.cell (World.block_lt_of_cell? wE _ (AD2.out j u hj))).trans (AD2.out j u hj)) AD4.out (by omega) HB6.out.size ?_; intro v7 w7 ho7 hg7; rw [show i + (Q.length - (i + 1)) = Q.length - 1 by omega] at ho7; obtain ⟨A7, c7, rfl⟩ := own_form ho7; have HO7 := hid ho7; have HB7 := hid (HB6.out.grown hg7 HB6.out.size (fun k hk => (World.ownsRow.lt HO6.out k hk).1)); clear ho7 hg7))
              all_goals
                have HL7 := hid (Two.less P5.out.1 P5.out.2.1 P5.out.2.2.1 P5.out.2.2.2.1 P5.out.2.2.2.2.1 P5.out.2.2.2.2.2 hiq HB7.out (by have := HO7.out; first | exact this | (rw [AD0.out]; exact this)))
                clear hwi hpos hle hle2
                go_wp2_with fail
                simp only [List.getElem_toArray, List.getElem_cons_succ, List.getElem_cons_zero]
                go_frame
                go_meet
                exact ⟨Q.eraseIdx i, by rw [List.length_eraseIdx]; split <;> omega, HSM.out.erase i, HL7.out⟩
        · go_wp2_with fail
          refine Calls.mono (Double_two HF.out hFl HT.out i hiq HSM.out (by omega)) ?_
          rintro e w2 ⟨rfl, h2⟩
          have H2 := hid h2
          clear h2
          go_upto_region 18 with (fail)
          obtain ⟨S2, T2, hN2, ⟨I2, vs2, hP2⟩, h32, h42, h52, h62⟩ := H2.out
          obtain ⟨u2, -, hu2, hc2⟩ := hP2.get i hiq
          obtain ⟨p, hp⟩ : ∃ p, p = Q[i] := ⟨_, rfl⟩
          rw [← hp] at hu2 hc2 H2 hN2
          have HP := hid hp
          obtain ⟨fk, fi, tk, ti, l, lost⟩ := p
          obtain ⟨A2, c2, rfl⟩ := hu2.sl.form
          obtain ⟨z0, z1, z2, z3, z4, z5⟩ := pk6 hc2
          simp only at z0 z1 z2 z3 z4 z5
          have HU2 := hid hu2
          have P2 := hid (And.intro hN2 (And.intro h32 (And.intro h42 (And.intro h52 (And.intro h62 hP2)))))
          have HOX := hid hP2.row
          have i2 : (0 : Int) ≤ (i : Int) := by omega
          have i3 : (i : Int) < (Q.length : Int) := by omega
          obtain ⟨i0, hi0, hz0, hz1, hz2⟩ := info_parts infoK
          clear hN2 h32 h42 h52 h62 hP2 hu2 hc2 hp
          go_wp2_with (at_builtin; refine wpList_append_lies _ rfl (.tmp 87) (.tmp 92) 25 rfl 0 32 i0 _ 6 64 Tryd.underlying25 hi0 hz0 hz1 hz2 rfl (by omega) (.slice (some ⟨g0, 0, none⟩) Q.length co) Q.length _ rfl (HOX.out.alloc _) ⟨w2.heap.size, 0, none⟩ 1 1 [.int .i64 fk, .int .i64 fi, .int .i64 tk, .int .i64 ti, .slice A2 l.length c2, .bool lost] rfl rfl (World.news_of_block (cs := #[.int .i64 fk, .int .i64 fi, .int .i64 tk, .int .i64 ti, .slice A2 l.length c2, .bool lost]) (t := 32) (fr := (0, 0)) (heap_alloc_new w2 _)) (by simp [Value.oneCell']) (by omega) (by unfold maxLen; omega) (by omega) (Nat.zero_le _) (w2.heap.size + 1) (by simp) ?_; intro g5 cap5 w5 hown5 hgrow hat hlt5; have H5 := hid (Two.more (p := ⟨fk, fi, tk, ti, l, lost⟩) P2.out.1 P2.out.2.1 P2.out.2.2.1 P2.out.2.2.2.1 P2.out.2.2.2.2.1 P2.out.2.2.2.2.2 (Below.refl _ _) HU2.out (fun k hk => .inl hk) ((Below.refl w2.heap.size w2).alloc (Nat.le_refl _) _) hown5 hgrow (hat.imp id (fun e => by omega))); clear hown5 hgrow hat hlt5)
          clear z0 z1 z2 z3 z4 z5
          have HSM2 : Hid (Small (Q ++ [⟨fk, fi, tk, ti, l, lost⟩])) := hid (by rw [HP.out]; exact HSM.out.more i hiq)
          go_meet
          exact ⟨Q ++ [⟨fk, fi, tk, ti, l, lost⟩], by rw [List.length_append]; simp; omega, HSM2.out, H5.out⟩
        · go_wp2_with fail
          refine Calls.mono (Drop_two HF.out hFl HT.out i hiq (by omega)) ?_
          rintro e wE ⟨rfl, h2⟩
          have HE := hid h2
          clear h2
          go_upto_region 22 with (fail)
          obtain ⟨S5, T5, hN5, ⟨I5, vs5, hP5⟩, h35, h45, h55, h65⟩ := HE.out
          obtain ⟨g5, cap5, e5, -, -, hco, hgl5, -⟩ := hP5.lies hQ0
          obtain ⟨rfl, rfl⟩ : g0 = g5 ∧ co = cap5 := by
            injection e5 with e1 e2 e3
            injection e1 with e1
            injection e1 with e1
            exact ⟨e1, e3⟩
          clear e5
          obtain ⟨a1, a2, a3, a4, a5, a6⟩ := hP5.ahead hiq
          have A1 := hid a1
          have A2 := hid a2
          have A3 := hid a3
          have A4 := hid a4
          have A5 := hid a5
          have AA6 := hid a6
          have P5 := hid (And.intro hN5 (And.intro h35 (And.intro h45 (And.intro h55 (And.intro h65 hP5)))))
          have HAL := hid (((Below.refl wE.heap.size wE).alloc (Nat.le_refl _) (.cells #[] 32)).drew)
          have hic : i ≤ co := by omega
          have hic2 : i + 1 ≤ co := by omega
          have hic3 : i + 1 ≤ Q.length := by omega
          have hwi : IntKind.i64.wrap ((i : Int) + 1) = ((i + 1 : Nat) : Int) := by rw [IntKind.wrap_i64]; omega
          have hpos : (0 : Int) ≤ (i : Int) + 1 := by omega
          have hle : (i : Int) ≤ (i : Int) + 1 := by omega
          have hle2 : (i : Int) + 1 ≤ (Q.length : Int) := by omega
          clear hN5 h35 h45 h55 h65 hP5 a1 a2 a3 a4 a5 a6
          by_cases hcap : co = i + 1
          · subst hcap
            have hql : Q.length = i + 1 := by omega
            have HQL := hid hql
            have AD0 : Hid ((pktCells vs5 Q).drop ((i + 1) * 6) = []) := hid (List.eq_nil_of_length_eq_zero (by rw [AA6.out]; omega))
            have AD6 : Hid (([] : List Value).length = 0 * 6) := hid rfl
            have AD2 : Hid (∀ (j : Nat) (u : Value), ([] : List Value)[j]? = some u → wE.cell? ((⟨g0, 0, none⟩ : Addr).add j) = some u) := hid (fun j u hj => by simp at hj)
            have AD4 : Hid (∀ u ∈ ([] : List Value), u.oneCell' = true) := hid (fun u hu => by simp at hu)
            clear hql
            go_region_law (first
              | (refine step_appP (by rfl) (.tmp 100) (.tmp 103) (by rfl) wE.heap.size (.slice (some ⟨wE.heap.size, 0, none⟩) 0 0) 0 [] (by rfl) (litP0 wE).drew ⟨g0, 0, none⟩ i (i + 1) _ (by rfl) A5.out (fun j u hj => (HAL.out.cell (World.block_lt_of_cell? wE _ (A1.out j u hj))).trans (A1.out j u hj)) A3.out (by omega) (by simp) ?_; intro v6 w6 ho6 hg6; rw [Nat.zero_add, List.nil_append] at ho6; obtain ⟨A6, c6, rfl⟩ := own_form ho6; have HO6 := hid ho6; have HB6 := hid (HAL.out.grown hg6 (by simp) (fun k hk => by injection hk with hk; have hk : wE.heap.size = k := hk; omega)); clear ho6 hg6)
              | (refine step_appP (by rfl) (.tmp 104) (.tmp 108) (by rfl) wE.heap.size (.slice A6 i c6) i _ (by rfl) HO6.out ⟨g0, 0, none⟩ 0 0 _ (by rfl) AD6.out (fun j u hj => (HB6.out.cell (World.block_lt_of_cell? wE _ (AD2.out j u hj))).trans (AD2.out j u hj)) AD4.out (by omega) HB6.out.size ?_; intro v7 w7 ho7 hg7; rw [show i + 0 = Q.length - 1 by have := HQL.out; omega] at ho7; obtain ⟨A7, c7, rfl⟩ := own_form ho7; have HO7 := hid ho7; have HB7 := hid (HB6.out.grown hg7 HB6.out.size (fun k hk => (World.ownsRow.lt HO6.out k hk).1)); clear ho7 hg7))
            all_goals
              have HL7 := hid (Two.less P5.out.1 P5.out.2.1 P5.out.2.2.1 P5.out.2.2.2.1 P5.out.2.2.2.2.1 P5.out.2.2.2.2.2 hiq HB7.out (by have := HO7.out; first | exact this | (rw [AD0.out]; exact this)))
              clear hwi hpos hle hle2
              go_wp2_with fail
              simp only [List.getElem_toArray, List.getElem_cons_succ, List.getElem_cons_zero]
              go_frame
              go_meet
              exact ⟨Q.eraseIdx i, by rw [List.length_eraseIdx]; split <;> omega, HSM.out.erase i, HL7.out⟩
          · have hcap2 : ¬ i + 1 = co := fun e => hcap e.symm
            have AD6 := AA6
            have AD2 := A2
            have AD4 := A4
            go_region_law (first
              | (refine step_appP (by rfl) (.tmp 100) (.tmp 103) (by rfl) wE.heap.size (.slice (some ⟨wE.heap.size, 0, none⟩) 0 0) 0 [] (by rfl) (litP0 wE).drew ⟨g0, 0, none⟩ i co _ (by rfl) A5.out (fun j u hj => (HAL.out.cell (World.block_lt_of_cell? wE _ (A1.out j u hj))).trans (A1.out j u hj)) A3.out (by omega) (by simp) ?_; intro v6 w6 ho6 hg6; rw [Nat.zero_add, List.nil_append] at ho6; obtain ⟨A6, c6, rfl⟩ := own_form ho6; have HO6 := hid ho6; have HB6 := hid (HAL.out.grown hg6 (by simp) (fun k hk => by injection hk with hk; have hk : wE.heap.size = k := hk; omega)); clear ho6 hg6)
              | (refine step_appP (by rfl) (.tmp 104) (.tmp 108) (by rfl) wE.heap.size (.slice A6 i c6) i _ (by rfl) HO6.out ⟨g0, (i + 1) * 6, none⟩ (Q.length - (i + 1)) (co - (i + 1)) _ (by rfl) AD6.out (fun j u hj => (HB6.out.cell (World.block_lt_of_cell? wE _ (AD2.out j u hj))).trans (AD2.out j u hj)) AD4.out (by omega) HB6.out.size ?_; intro v7 w7 ho7 hg7; rw [show i + (Q.length - (i + 1)) = Q.length - 1 by omega] at ho7; obtain ⟨A7, c7, rfl⟩ := own_form ho7; have HO7 := hid ho7; have HB7 := hid (HB6.out.grown hg7 HB6.out.size (fun k hk => (World.ownsRow.lt HO6.out k hk).1)); clear ho7 hg7))
            all_goals
              have HL7 := hid (Two.less P5.out.1 P5.out.2.1 P5.out.2.2.1 P5.out.2.2.2.1 P5.out.2.2.2.2.1 P5.out.2.2.2.2.2 hiq HB7.out (by have := HO7.out; first | exact this | (rw [AD0.out]; exact this)))
              clear hwi hpos hle hle2
              go_wp2_with fail
              simp only [List.getElem_toArray, List.getElem_cons_succ, List.getElem_cons_zero]
              go_frame
              go_meet
              exact ⟨Q.eraseIdx i, by rw [List.length_eraseIdx]; split <;> omega, HSM.out.erase i, HL7.out⟩
      case rest =>
        obtain ⟨Q', hq', hsm', hT'⟩ := hcut
        have HT' := hid hT'
        have HSM' := hid hsm'
        obtain ⟨A', c', rfl⟩ : ∃ A c, u6 = .slice A Q'.length c := hT'.elim fun _ h => h.elim fun _ h => h.2.1.form
        have hbq : (Q'.length == Q'.length) = true := by simp
        clear hT' hsm'
        go_wp2_with fail
        refine (Len_two HT'.out).mono ?_
        rintro e w2 ⟨rfl, rfl⟩
        go_wp2_with fail
        go_roundw
        case rel => exact ⟨k + 1, by omega, by go_num, Q', hq', HSM'.out, HT'.out⟩
        case measure => simp [intOf]; omega
  case rest =>
    obtain ⟨Q, hq, hsm, hT⟩ := hcut
    have HT := hid hT
    have HSM := hid hsm
    obtain ⟨A, c, rfl⟩ : ∃ A c, u6 = .slice A Q.length c := hT.elim fun _ h => h.elim fun _ h => h.2.1.form
    clear hT hsm
    go_wp2
    go_loopw [118] (fun i wr => ∃ k : Nat, k ≤ Q.length ∧ i = .int .i64 k ∧ Two w.heap.size w wr d (Q.drop k) (.slice A Q.length c) Q) (fun i _ => Q.length - (intOf i).toNat)
    case atStart => exact ⟨0, by omega, rfl, HT.out⟩
    case round =>
      obtain ⟨k, hk, rfl, hTk⟩ := hrel
      have HTk := hid hTk
      clear hTk
      by_cases hlt : k < Q.length
      · have hdl : 0 < (Q.drop k).length := by rw [List.length_drop]; omega
        have hsd : Small (Q.drop k) := fun p hp => HSM.out p (List.mem_of_mem_drop hp)
        have HCT := hid (Take_two HF.out hFl HTk.out 0 hdl hsd (by rw [List.length_drop]; omega))
        obtain ⟨p, hp⟩ : ∃ p, p = Q[k] := ⟨_, rfl⟩
        have e1 : (Q.drop k)[0] = p := by rw [hp, List.getElem_drop]; rfl
        have e2 : (Q.drop k).eraseIdx 0 = Q.drop (k + 1) := by rw [List.eraseIdx_zero, List.tail_drop]
        rw [e1, e2] at HCT
        have HP := hid hp
        clear hdl hsd e1 e2 hp
        have i1 : (k : Int) < (Q.length : Int) := by omega
        go_wp2_with fail
        refine HCT.out.mono ?_
        rintro e w2 ⟨u, rfl, hu, h2⟩
        have H2 := hid h2
        obtain ⟨fk, fi, tk, ti, l, lost⟩ := p
        have HU : Hid (SlB w2 u l) := hid hu
        obtain ⟨Au, cu, rfl⟩ := HU.out.form
        unfold Pkt.val
        simp only
        clear hu h2 HCT
        go_upto_region 30 with (fail)
        refine Code.seen (fun W => PkAt W w2.heap.size fk fi tk ti (.slice Au l.length cu) lost ∧ Below w2.heap.size w2 W) ⟨pk_at (t := 32) (heap_alloc_new _ _), (Below.refl _ _).alloc (Nat.le_refl _) _⟩ fun w3 Z3 => ?_
        have HU3 := hid (HU.out.below Z3.out.2)
        have HT3 := hid (H2.out.below Z3.out.2)
        obtain ⟨y0, y1, y2, y3, y4, y5⟩ := Z3.out.1
        obtain ⟨S3, T3, hN3, ⟨I3, vs3, hP3⟩, -, -, -, -⟩ := HT3.out
        obtain ⟨g0, c0, e0, -, -, -, -, -⟩ := hP3.lies (by omega)
        injection e0 with e01 e02 e03
        subst e01 e03
        obtain ⟨u3, -, hu3, hc3⟩ := hP3.get k hlt
        rw [← HP.out] at hu3 hc3
        obtain ⟨z0, z1, z2, z3, z4, z5⟩ := pk6 hc3
        have HV3 : Hid (SlB w3 u3 l) := hid hu3.sl
        obtain ⟨A3, c3, rfl⟩ := HV3.out.form
        simp only at z0 z1 z2 z3 z4 z5
        clear hN3 hP3 hu3 hc3 HU H2 Z3
        have i2 : (0 : Int) ≤ (k : Int) := by omega
        go_region_law (go_simp; go_at_call 7; refine (samePacket_at fk fi tk ti l lost (.slice Au l.length cu) (.slice A3 l.length c3) w3.drew (HU3.out.drew) (HV3.out.drew)).mono ?_; rintro e wE ⟨rfl, hbE⟩; have HBE := hid (below_then (drew_below w3) hbE); clear hbE)
        all_goals
          have HE := hid (HT3.out.below HBE.out)
          clear y0 y1 y2 y3 y4 y5 z0 z1 z2 z3 z4 z5 HU3 HV3 HBE HT3
          go_wp2_with fail
          go_roundw
          case rel => exact ⟨k + 1, by omega, by go_num, HE.out⟩
          case measure => simp [intOf]; omega
      · have hge : Q.length ≤ k := by omega
        obtain ⟨S, T, h1, h2, h3, h4, h5, h6⟩ := HTk.out
        rw [List.drop_of_length_le hge] at h1
        have HCT := hid (Take_no wr S d [] 0 h1 (.inr (Int.le_refl _)))
        have HCL : Hid (∀ W, Below wr.heap.size wr W → NAt W S d []) := hid fun W hb => h1.below hb
        have HB := hid h5
        have HBs := hid h6
        have hal : ∀ W : World, 0 = 0 := fun _ => rfl
        clear h1 h2 h3 h4 h5 h6 hal
        go_wp2_with fail
        refine HCT.out.mono ?_
        rintro e w2 ⟨rfl, hb2⟩
        have HB2 := hid hb2
        clear hb2
        unfold pkt0
        go_upto_region 34 with (fail)
        refine Code.seen (fun W => Below w2.heap.size w2 W) ((Below.refl _ _).alloc (Nat.le_refl _) _) fun w3 Z3 => ?_
        have HB3 := hid (below_then HB2.out Z3.out)
        clear HB2 Z3
        go_wp2_with fail
        refine (Len_any w3 S d [] (HCL.out w3 HB3.out)).mono ?_
        rintro e w4 ⟨rfl, rfl⟩
        have HBW := hid (HB.out.trans (HB3.out.mono HBs.out))
        go_wp2_with fail
        refine (taken_any w4 (HF.out.below hFl HBW.out)).mono ?_
        rintro e w5 ⟨rfl, hb5⟩
        have HB5 := hid (below_then HBW.out hb5)
        clear hb5
        go_wp2
        go_ret
        exact ⟨rfl, HB5.out⟩
end Go.Proofs.YtahpkknbejgnkaaDoor
