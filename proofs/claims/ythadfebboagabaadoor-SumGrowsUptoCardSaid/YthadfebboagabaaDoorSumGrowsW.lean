/- The walk of the law SumGrows. -/
import Derived.Test.YthadfebboagabaaDoorSumGrowsO
import Derived.Deep.RegionHeld3
namespace Go.Proofs.YthadfebboagabaaDoor
open Go.RowKit
def tot (ops : List GOp) (j : Nat) : Nat := ((ops.take j).map GOp.m).sum
theorem tot_le (ops : List GOp) (j : Nat) : tot ops j ≤ (ops.map GOp.m).sum := by
  unfold tot
  conv => rhs; rw [← List.take_append_drop j ops]
  rw [List.map_append, List.sum_append]; omega
theorem tot_succ (ops : List GOp) (j : Nat) (o : GOp) (h : ops[j]? = some o) : tot ops (j + 1) = tot ops j + o.m := by
  obtain ⟨hi, rfl⟩ := List.getElem?_eq_some_iff.1 h
  unfold tot
  rw [List.take_succ_eq_append_getElem hi, List.map_append, List.sum_append]; simp
set_option maxRecDepth 100000 in
set_option maxHeartbeats 4000000 in
theorem SumGrows_walk (sv : Value) (ops : List GOp) (w : World) (hS : SlR GOp.R 3 w sv ops) (hM : (ops.map GOp.m).sum + 1 ≤ 1048576) (hlen : ops.length ≤ 1048576) (hT : TabAt w) :
    Calls Tryd.prog 4 #[sv] w fun e w' => e = .returned (.bool true) ∧ Below w.heap.size w w' := by
  have HS := hid hS
  have HT := hid hT
  have HTOT : Hid (∀ j, tot ops j ≤ 1048575) := hid fun j => by have := tot_le ops j; omega
  obtain ⟨A, c, rfl, hlc⟩ : ∃ A c, sv = .slice A ops.length c ∧ ops.length ≤ c := by obtain ⟨A, c, _, e, h, _⟩ := hS; exact ⟨A, c, e, h⟩
  clear hS hM hT
  go_enter Tryd.func4, Tryd.ntmps4
  go_wp2_with fail
  refine (Write_nil _ _).mono ?_
  rintro r w1 ⟨rfl, hw1⟩
  have HB1 : Hid (Below w.heap.size w w1) := hid (by rw [hw1]; exact (Below.refl _ _).alloc (Nat.le_refl _) _)
  clear hw1
  go_wp2_with fail
  refine (Value_nil w1).mono ?_
  rintro r w2 ⟨rfl, rfl⟩
  go_wp2_with fail
  refine (Len_nil _).mono ?_
  rintro r w2 ⟨rfl, rfl⟩
  go_wp2_with fail
  refine (Copy_nil _).mono ?_
  rintro r w2 ⟨rfl, rfl⟩
  go_wp2_with fail
  refine (New_any _).mono ?_
  rintro r w3 ⟨rfl, _, hb3, _⟩
  have HB3 := hid (HB1.out.trans (hb3.mono HB1.out.size))
  clear hb3 HB1
  go_wp2_with fail
  refine (New_any _).mono ?_
  rintro r w4 ⟨rfl, hs4, hb4, hz4⟩
  obtain ⟨g0, hg0⟩ : ∃ x, x = w3.heap.size := ⟨_, rfl⟩
  simp only [← hg0] at hs4 ⊢
  have HS4 := hid hs4
  have HB4 := hid (HB3.out.trans (hb4.mono HB3.out.size))
  have HG0 := hid (And.intro hg0 (And.intro hz4 HB3.out.size))
  clear hs4 hb4 hg0 hz4 HB3
  go_wp2
  refine Code.seen (fun W => ∃ ρ, Gr w ρ (.slice (some ⟨w4.heap.size, 0, none⟩) 1 1) (.slice (some ⟨w4.heap.size + 1, 0, none⟩) 1 1) [g0] [.slice none 0 0] [[]] W) (Gr.start HB4.out HS4.out (by have := HG0.out; omega)) fun w5 H5 => ?_
  clear HS4 HB4 HG0
  go_loopw [4, 5, 6] (fun av tv i wr => ∃ (j : Nat) (ρ : Nat → Nat) (gs : List Nat) (ts : List Value) (ls : List (List UInt8)), j ≤ ops.length ∧ i = .int .i64 j ∧ Gr w ρ av tv gs ts ls wr ∧ 0 < ls.length ∧ ls.length ≤ j + 1 ∧ (∀ l ∈ ls, l.length ≤ tot ops j)) (fun _ _ i _ => ops.length - (intOf i).toNat)
  case atStart =>
    obtain ⟨ρ, h⟩ := H5.out
    exact ⟨0, ρ, _, _, _, Nat.zero_le _, rfl, h, by simp, by simp, fun l hl => by simp at hl; subst hl; simp⟩
  case round =>
    clear H5
    obtain ⟨j, ρ, gs, ts, ls, hj, rfl, hgr, hpos, hle, hlens⟩ := hrel
    have HGR := hid hgr
    have HLE := hid hlens
    obtain ⟨ga, ca, gt, ct, rfl, rfl, hca, hct, _⟩ := hgr.form hpos
    clear hgr hlens
    by_cases hlt : j < ops.length
    · obtain ⟨o, ho⟩ : ∃ o, ops[j]? = some o := ⟨_, List.getElem?_eq_getElem hlt⟩
      obtain ⟨b, off, rfl⟩ : ∃ b off, A = some ⟨b, off, none⟩ := by
        obtain ⟨A', c', ys, e1, _, _, _, h4⟩ := HS.out
        injection e1 with e1
        obtain ⟨b, off, eA, _⟩ := h4 (by omega)
        exact ⟨b, off, e1.trans eA⟩
      obtain ⟨ov, hr, hov⟩ := gop_at HS.out j o ho
      have HRW := hid (gcells_at hr)
      have HOV := hid hov
      have HTS := hid (tot_succ ops j o ho)
      have HT1 := HTOT.out (j + 1)
      have on0 : -9223372036854775808 ≤ o.on ∧ o.on ≤ 9223372036854775807 := by
        obtain ⟨_, _, ys, _, _, _, h3, _⟩ := HS.out
        exact (h3 j o ho).2.2
      obtain ⟨on0, on1⟩ := on0
      have hod : o.d.length ≤ 1048576 := by have : o.m = o.d.length + 3 := rfl; have := HTS.out; omega
      have htj : tot ops j ≤ 1048575 := HTOT.out j
      have c0 := (HRW.out wr HGR.out.b).1
      have c1 := (HRW.out wr HGR.out.b).2.1
      have c2 := (HRW.out wr HGR.out.b).2.2
      obtain ⟨K, on, d⟩ := o
      simp only at c0 c1 c2 on0 on1 hod HOV
      obtain ⟨A1, cv, rfl⟩ := hov.form
      simp only at *
      clear hov ho hr HRW
      have hL : (0 : Int) < (ls.length : Int) := by omega
      have hLu : ls.length ≤ 1048578 := by omega
      have t1 := Int.tmod_lt_of_pos on hL
      have t2 := Int.lt_tmod_of_pos on hL
      have hz : ((ls.length : Int) == 0) = false := by rw [beq_eq_false_iff_ne]; omega
      have HA : Hid (∃ a : Nat, a < ls.length ∧ ((on.tmod (ls.length : Int) < 0 ∧ on.tmod (ls.length : Int) + (ls.length : Int) = (a : Int)) ∨ on.tmod (ls.length : Int) = (a : Int))) := hid (by
        rcases Int.lt_or_le (on.tmod (ls.length : Int)) 0 with hneg | hneg
        · obtain ⟨a, ha⟩ := Int.eq_ofNat_of_zero_le (show 0 ≤ on.tmod (ls.length : Int) + (ls.length : Int) by omega)
          exact ⟨a, by omega, .inl ⟨hneg, ha⟩⟩
        · obtain ⟨a, ha⟩ := Int.eq_ofNat_of_zero_le hneg
          exact ⟨a, by omega, .inr ha⟩)
      clear t1 t2
      obtain ⟨a, hal, hcs⟩ := HA.out
      clear HA
      obtain ⟨g, t, l, hg, ht, hl⟩ := HGR.out.get a hal
      have hll : l.length ≤ tot ops j := HLE.out l (List.mem_of_getElem? hl)
      obtain ⟨At, cT, rfl⟩ := (HGR.out.txt a t l ht hl).1.form
      have HGET := hid (And.intro hg (And.intro ht hl))
      clear hg ht hl
      rcases hcs with ⟨hneg, hsum⟩ | hsum
      all_goals
        by_cases k0 : K = 0
        case' pos =>
          subst k0
          go_wp2_with fail
          refine Calls.seen (fun W => Gr w ρ (.slice (some ⟨ga, 0, none⟩) ls.length ca) (.slice (some ⟨gt, 0, none⟩) ls.length ct) gs ts ls W ∧ W.heap[wr.heap.size]? = some (.cells #[.int .i64 0, .int .i64 on, .slice A1 d.length cv] 39 (0, 0)) ∧ wr.heap.size < W.heap.size) ⟨HGR.out.below ((Below.refl _ _).alloc (Nat.le_refl _) _), heap_alloc_new _ _, by simp⟩ fun W1 H1 => ?_
          obtain ⟨bx, hbx⟩ : ∃ x, x = wr.heap.size := ⟨_, rfl⟩
          have HGL : Hid (g < bx ∧ gt < bx ∧ ga < bx) := hid (by
            rw [hbx]
            exact ⟨blk_lt (HGR.out.sums a g l HGET.out.1 HGET.out.2.2).1, (World.ownsRow.lt HGR.out.tow gt rfl).2, (World.ownsRow.lt HGR.out.ao ga rfl).2⟩)
          simp only [← hbx] at H1 ⊢
          have HGNE : Hid (gt ≠ g) := hid (fun e => by
            have h1 := (HGR.out.sums a g l HGET.out.1 HGET.out.2.2).2.2
            have h2 := HGR.out.rt gt rfl
            rw [e] at h2; omega)
          clear hbx c0 c1 c2
          refine (wide_any _ d W1 (HOV.out.below H1.out.1.b) (by omega)).mono ?_
          rintro e W2 ⟨u, rfl, hu, hb2⟩
          have HU := hid hu
          obtain ⟨gu, cu, rfl, hcu, hou⟩ := hu
          have HOU := hid hou
          have HGU := hid (show W1.heap.size ≤ gu ∧ gu < W2.heap.size from World.ownsRow.lt hou gu rfl)
          have HG2 := hid (H1.out.1.below hb2)
          have F2 : Hid (Fr (fun k => k = g ∨ W1.heap.size ≤ k) W1 W2) := hid ((Fr.of_below hb2).mono fun _ _ h => h.elim)
          have c3 := (HG2.out.cells a g _ HGET.out.1 HGET.out.2.1).1
          clear hou hb2
          go_wp2_with fail
          refine (Write_any g l d _ W2 (HG2.out.sums a g l HGET.out.1 HGET.out.2.2).1 (HT.out.below HG2.out.b HT.out.lt) HU.out.sl (by omega)).mono ?_
          rintro e W3 ⟨rfl, hs3, hf3⟩
          have HSS3 := hid hs3
          have F3 := hid (F2.out.trans (hf3.mono fun _ _ h => .inl (.inl h)))
          have HU3 := hid (HU.out.moved (w1 := W3) fun k hk => by
            simp only [Value.ownBlock, Option.some.injEq] at hk
            have h1 := HGU.out
            have h2 := HGL.out
            have h3 := H1.out.2.2
            exact hf3.block k (by omega) (by omega))
          have cbx : ∀ W, Fr (fun k => k = g ∨ W1.heap.size ≤ k) W1 W → W.cell? ⟨bx, 2, none⟩ = some (.slice A1 d.length cv) := fun W hf => by
            refine fr_cellX hf (by rw [blk_cell H1.out.2.1]; rfl) (fun h => ?_)
            have h2 := HGL.out
            have h3 := H1.out.2.2
            have h4 : bx = g ∨ W1.heap.size ≤ bx := h
            omega
          have HCBX := hid cbx
          have hov3 : ∀ W, Fr (fun k => k = g ∨ W1.heap.size ≤ k) W1 W → SlB W (.slice A1 d.length cv) d := fun W hf => HOV.out.below (H1.out.1.b.trans (hf.to_below (fun k hk h => by
            rcases h with h | h
            · have := (HGR.out.sums a g l HGET.out.1 HGET.out.2.2).2.1; omega
            · have := H1.out.1.b.size; omega) H1.out.1.b.size))
          have HOV3 := hid hov3
          have cb := cbx W3 F3.out
          clear hs3 hf3 c3 cbx hov3
          go_wp2_with fail
          refine (kept_true _ _ d W3 HU3.out (HOV3.out W3 F3.out) (by omega)).mono ?_
          rintro e W' ⟨rfl, rfl⟩
          clear cb
          go_wp2
          go_loopw [10] (fun i wx => ∃ (q : Nat) (l' : List UInt8), q ≤ d.length ∧ i = .int .i64 q ∧ l'.length = d.length + 2 ∧ OwnB wx W1.heap.size (.slice (some ⟨gu, 0, none⟩) (d.length + 2) cu) l' ∧ Fr (fun k => k = gu) W3 wx) (fun i _ => d.length - (intOf i).toNat)
          case atStart =>
            obtain ⟨gu', cu', e1, _, ho'⟩ := HU3.out
            injection e1 with e1 e2 e3
            injection e1 with e1
            injection e1 with e1
            subst e1 e3
            exact ⟨0, _, Nat.zero_le _, rfl, by simp, ho', Fr.refl _ _⟩
          case round =>
            obtain ⟨q, l', hq, rfl, hl', ho, hf⟩ := hrel
            have HO := hid ho
            have HF := hid hf
            have HLL := hid hl'
            clear ho hf hl'
            by_cases hql : q < d.length
            · obtain ⟨hc, hfr⟩ := HO.out.at_ q (by rw [HLL.out]; omega)
              go_wp2
              go_roundw
              case rel => exact ⟨q + 1, l'.set q 7, by omega, by go_num, by rw [List.length_set]; exact HLL.out, HO.out.set_ q 7, fr_set (X := fun k => k = gu) HF.out rfl _ _⟩
              case measure => simp [intOf]; omega
            · obtain rfl : q = d.length := by omega
              have F4 := hid (F3.out.trans (HF.out.mono fun k _ h => .inr (by have := HGU.out; omega)))
              have HROLE := hid (And.intro (HGR.out.sums a g l HGET.out.1 HGET.out.2.2).2.2 (HGR.out.txt a _ l HGET.out.2.1 HGET.out.2.2).2)
              have HTX : ∀ W, Fr (fun k => k = g ∨ W1.heap.size ≤ k) W1 W → SlB W (.slice At l.length cT) l := fun W hf => sl_fr (H1.out.1.txt a _ l HGET.out.2.1 HGET.out.2.2).1 hf (fun k hk h => by
                have h1 := (H1.out.1.txt a _ l HGET.out.2.1 HGET.out.2.2).2 k hk
                have h2 := HROLE.out.1
                rcases h with h | h
                · rw [h] at h1; omega
                · omega)
              have HCG : ∀ W, Fr (fun k => k = g ∨ W1.heap.size ≤ k) W1 W → W.cell? ⟨gt, a, none⟩ = some (.slice At l.length cT) ∧ W.frozen? ⟨gt, a, none⟩ = false := fun W hf => by
                have h1 := (H1.out.1.cells a g _ HGET.out.1 HGET.out.2.1).2
                have hx : ¬ (gt = g ∨ W1.heap.size ≤ gt) := by
                  have := HGNE.out
                  have := HGL.out
                  have := H1.out.2.2
                  omega
                have hb := hf.block gt (by have := HGL.out; have := H1.out.2.2; omega) hx
                exact ⟨(World.cell?_of_block (a := ⟨gt, a, none⟩) hb).trans h1.1, (World.frozen?_of_block (a := ⟨gt, a, none⟩) hb).trans h1.2⟩
              have HTXX := hid HTX
              have HCGG := hid HCG
              have cg4 := (HCG wr F4.out).1
              have cb4 := HCBX.out wr F4.out
              clear HTX HCG
              go_wp2_with (first
                | (at_builtin; refine wpList_appBX rfl (.tmp 85) (.tmp 89) rfl W1.heap.size _ _ [] l rfl rfl (OwnB.nil _ _) (HTXX.out wr F4.out) (by simp only [List.length_nil]; omega) F4.out.size ?_; intro v5 w5 ho5 hg5 hp5; have F5 := hid (F4.out.trans ((Fr.of_grown hg5).mono fun k _ h => by cases h)); have HG5 : Hid (Fr (fun _ => False) wr w5) := hid ((Fr.of_grown hg5).mono fun k _ h => by cases h); have cb5 := HCBX.out w5 F5.out; have cg5 := (HCGG.out w5 F5.out).1)
                | (at_builtin; refine wpList_appBX rfl (.tmp 93) (.tmp 95) rfl W1.heap.size _ _ ([] ++ l) d rfl rfl ho5 (HOV3.out w5 F5.out) (by simp only [List.nil_append]; omega) F5.out.size ?_; intro v6 w6 ho6 hg6 hp6; have F6 := hid (F5.out.trans ((Fr.of_grown hg6).mono fun k _ h => .inr (World.ownsRow.lt ho5 k h).1)); have cg6 := (HCGG.out w6 F6.out).1; have cf6 := (HCGG.out w6 F6.out).2; obtain ⟨L2, hL2⟩ : ∃ L, L = l ++ d := ⟨_, rfl⟩; have e6 : ([] ++ l) ++ d = L2 := (by rw [hL2]; rfl); rw [e6] at ho6; obtain ⟨At2, cT2, rfl⟩ := ho6.form; have HO6 := hid ho6; have HL2 := hid hL2; have HO5 := hid ho5; have HG6 : Hid (Fr (fun k => W1.heap.size ≤ k) w5 w6) := hid ((Fr.of_grown hg6).mono fun k _ h => (World.ownsRow.lt ho5 k h).1); clear e6 hL2 ho6 hg5 hg6 hp5 hp6))
              refine Code.seen (fun W => Nx w (.slice (some ⟨ga, 0, none⟩) ls.length ca) (.slice (some ⟨gt, 0, none⟩) ls.length ct) ga gt a g (.slice At2 L2.length cT2) L2 (j + 2) (tot ops (j + 1)) W) (by
                have hs6 : SAt w6 g L2 := by
                  rw [HL2.out]
                  have h1 := HGU.out.1
                  have h2 := HGL.out.1
                  have h3 := H1.out.2.2
                  exact ((HSS3.out.fr HF.out (by omega)).fr HG5.out (fun h => h)).fr HG6.out (by omega)
                have hn2 := HGR.out.n2
                have h1 := H1.out.1
                rw [← hn2] at h1
                have hw := Gr.wrote (W2 := w6) h1 a g l L2 (.slice At2 L2.length cT2) HGET.out.1 HGET.out.2.2 (F6.out.mono fun k hk h => by rcases h with h | h; exact h; omega) hs6 HO6.out.sl (fun k hk => World.ownsRow.lt HO6.out k hk)
                rw [hn2] at hw
                have htl : a < ts.length := (List.getElem?_eq_some_iff.1 HGET.out.2.1).1
                refine Nx.of hw a g _ L2 HGET.out.1 (List.getElem?_set_self htl) (List.getElem?_set_self hal) (by simp; omega) (fun l2 hl2 => ?_)
                have hts := HTS.out
                have hm : GOp.m ⟨0, on, d⟩ = d.length + 3 := rfl
                rcases List.mem_or_eq_of_mem_set hl2 with h | h
                · have := HLE.out l2 h; omega
                · rw [h, HL2.out, List.length_append]; omega) fun Wc HN => ?_
              obtain ⟨ga2, rfl⟩ : ∃ x, x = ga := ⟨_, rfl⟩
              obtain ⟨gt2, rfl⟩ : ∃ x, x = gt := ⟨_, rfl⟩
              clear cb4 cg4 cb5 cg5 cg6 cf6
              have hL2s := HN.out.small
              have hL2u : L2.length ≤ 1048575 := by omega
              go_region_held3 (LS ga2 gt2 a g (.slice At2 L2.length cT2) L2 Wc)
                (first | assumption | exact LS.of (HN.out.look _ (Below.refl _ _)) | exact LS.of (HN.out.look _ ((Below.refl _ _).drew)) | exact LS.of (HN.out.look _ (((Below.refl _ _).alloc (Nat.le_refl _) _).drew)))
                (first
                  | (go_at_call 11; refine (Value_any g L2 _ (by first | exact (HN.out.look _ ((Below.refl _ _).drew)).2.2.1 | exact (HN.out.look _ (((Below.refl _ _).alloc (Nat.le_refl _) _).drew)).2.2.1)).mono ?_; rintro e w' ⟨rfl, rfl⟩)
                  | (go_at_call 12; refine (Len_any g L2 _ (by first | exact (HN.out.look _ ((Below.refl _ _).drew)).2.2.1 | exact (HN.out.look _ (((Below.refl _ _).alloc (Nat.le_refl _) _).drew)).2.2.1)).mono ?_; rintro e w' ⟨rfl, rfl⟩)
                  | (go_at_call 17; refine (refOf_oneD (HN.out.look _ ((Below.refl _ _).drew)).2.2.2.1 (by omega)).mono ?_; rintro e w' ⟨rfl, rfl⟩))
              all_goals
                go_wp2
                go_roundw
                case rel =>
                  obtain ⟨ρ', gs', ts', ls', q1, q2, q3, q4⟩ := HN.out.next _ (((Below.refl _ _).alloc (Nat.le_refl _) _).drew)
                  exact ⟨j + 1, ρ', gs', ts', ls', by omega, by go_num, q1, q2, by omega, q4⟩
                case measure => simp [intOf]; omega
        case' neg =>
          by_cases k1 : K = 1
          case' pos =>
            subst k1
            have HGB := hid (HGR.out.below ((Below.refl wr.heap.size wr).alloc (Nat.le_refl _) (.cells #[.int .i64 1, .int .i64 on, .slice A1 d.length cv] 39)))
            have c3 := (HGB.out.cells a g _ HGET.out.1 HGET.out.2.1).1
            have HGAT : Hid (ga ≠ gt) := hid (fun e => by
              have h1 := HGR.out.ra ga rfl
              have h2 := HGR.out.rt gt rfl
              rw [e] at h1; omega)
            go_wp2_with fail
            refine Calls.seen (fun W => Gr w ρ (.slice (some ⟨ga, 0, none⟩) ls.length ca) (.slice (some ⟨gt, 0, none⟩) ls.length ct) gs ts ls W) HGB.out fun W1 H1 => ?_
            clear c3 HGB c0 c1 c2
            refine (Copy_any g l W1 (H1.out.sums a g l HGET.out.1 HGET.out.2.2).1).mono ?_
            rintro e W2 ⟨rfl, hs2, hb2⟩
            obtain ⟨g', hg'⟩ : ∃ x, x = W1.heap.size := ⟨_, rfl⟩
            simp only [← hg'] at hs2 ⊢
            have HS2 := hid hs2
            have HB2 := hid hb2
            have HG' := hid (And.intro hg' (blk_lt hs2))
            have HG2 := hid (H1.out.below hb2)
            have hn1 := HGR.out.n1
            have hn2 := HGR.out.n2
            have HN1 := hid hn1
            have HN2 := hid hn2
            have hgs : gs.length ≤ 1048578 := by omega
            have hts : ts.length ≤ 1048578 := by omega
            have HSZ := hid H1.out.b.size
            clear hs2 hb2 hg' hn1 hn2
            go_wp2_with (first
              | (at_builtin; refine wpList_appX rfl (.tmp 107) (.tmp 109) rfl Tryd.underlying37 infoP rfl w.heap.size _ _ gs.length 1 (gs.map ptr) (fun _ => ptr g') rfl rfl (HG2.out.below ((Below.refl _ _).alloc (Nat.le_refl _) _)).ao (by exact lit_one W2 (ptr g') _) (fun _ _ => rfl) (by omega) (by unfold maxLen; omega) (by exact Nat.le_trans HG2.out.b.size (by simp)) ?_; intro v3 w3 ho3 hg3 hp3; obtain ⟨ga2, ca2, rfl, hca2⟩ := own_some ho3 (by omega); have HO3 : Hid (w3.ownsRow w.heap.size 31 1 (.slice (some ⟨ga2, 0, none⟩) (gs.length + 1) ca2) (gs.length + 1) (gs.map ptr ++ [ptr g'])) := hid (by simpa using ho3); have HP3 : Hid (ga2 = ga ∨ W2.heap.size < ga2) := hid (by rcases hp3 ga2 rfl with h | h; (exact .inl (by injection h with h; exact h.symm)); (exact .inr (by simp at h; omega))); have F3 : Hid (Fr (fun k => k = ga) W2 w3) := hid ((Fr.alloc _ W2 _).trans ((Fr.of_grown hg3).mono fun k _ h => .inl (by injection h with h; exact h.symm))); have HCG := hid ((HG2.out.cells a g _ HGET.out.1 HGET.out.2.1).2); have c5 := fr_cellX F3.out HCG.out.1 (fun h => HGAT.out h.symm); clear ho3 hg3 hp3)
              | (at_builtin; refine wpList_appX rfl (.tmp 111) (.tmp 116) rfl Tryd.underlying22 infoBB rfl w.heap.size _ _ ts.length 1 ts (fun _ => .slice At l.length cT) rfl rfl (own_fr (own_fr HG2.out.tow F3.out (fun k hk h => HGAT.out (by injection hk with hk; exact h.symm.trans hk.symm))) (Fr.alloc (fun _ => False) w3 _) (fun _ _ h => h)) (by exact lit_one w3 _ _) (fun _ _ => rfl) (by omega) (by unfold maxLen; omega) (by exact Nat.le_trans (Nat.le_trans HG2.out.b.size F3.out.size) (by simp)) ?_; intro v4 w4 ho4 hg4 hp4; obtain ⟨gt2, ct2, rfl, hct2⟩ := own_some ho4 (by omega); have HO4 : Hid (w4.ownsRow w.heap.size 33 1 (.slice (some ⟨gt2, 0, none⟩) (ts.length + 1) ct2) (ts.length + 1) (ts ++ [.slice At l.length cT])) := hid (by simpa using ho4); have HP4 : Hid (gt2 = gt ∨ w3.heap.size < gt2) := hid (by rcases hp4 gt2 rfl with h | h; (exact .inl (by injection h with h; exact h.symm)); (exact .inr (by simp at h; omega))); have F4 : Hid (Fr (fun k => k = gt) w3 w4) := hid ((Fr.alloc _ w3 _).trans ((Fr.of_grown hg4).mono fun k _ h => .inl (by injection h with h; exact h.symm))); clear ho4 hg4 hp4))
            refine Code.seen (fun W => Nx w (.slice (some ⟨ga2, 0, none⟩) (gs.length + 1) ca2) (.slice (some ⟨gt2, 0, none⟩) (ts.length + 1) ct2) ga2 gt2 a g (.slice At l.length cT) l (j + 2) (tot ops (j + 1)) W) (by
              have h1 := (World.ownsRow.lt H1.out.ao ga rfl).2
              have h2 := (World.ownsRow.lt H1.out.tow gt rfl).2
              have h3 := HG'.out
              have h4 := HGAT.out
              have h5 := HB2.out.size
              have h6 := F3.out.size
              have h7 := (World.ownsRow.lt HO3.out ga2 rfl).2
              have h8 := HP3.out
              have h9 := HP4.out
              obtain ⟨ρ', hw⟩ := Gr.copied (W2 := w4) H1.out a g' l HGET.out.2.2 HGET.out.2.1 ((((Fr.of_below HB2.out).mono fun _ _ h => h.elim).trans (F3.out.mono fun k _ h => .inl (.inl (by rw [h]; rfl)))).trans (F4.out.mono fun k _ h => .inl (.inr (by rw [h]; rfl))))
                ((HS2.out.fr F3.out (by omega)).fr F4.out (by omega)) (by omega) (own_fr HO3.out F4.out (fun k hk h => by simp only [Value.ownBlock, Option.some.injEq] at hk; omega)) HO4.out
                (fun k hk => by
                  simp only [Value.ownBlock, Option.some.injEq] at hk
                  rcases h8 with h | h
                  · exact .inl (by rw [← hk]; show some ga = some ga2; rw [h])
                  · exact .inr ⟨by omega, by omega⟩)
                (fun k hk => by
                  simp only [Value.ownBlock, Option.some.injEq] at hk
                  rcases h9 with h | h
                  · exact .inl (by rw [← hk]; show some gt = some gt2; rw [h])
                  · exact .inr ⟨by omega, by omega, fun e => by simp only [Value.ownBlock, Option.some.injEq] at e; omega⟩)
              have hgl := (List.getElem?_eq_some_iff.1 HGET.out.1).1
              have htl := (List.getElem?_eq_some_iff.1 HGET.out.2.1).1
              refine Nx.of hw a g _ l ((List.getElem?_append_left hgl).trans HGET.out.1) ((List.getElem?_append_left htl).trans HGET.out.2.1) ((List.getElem?_append_left hal).trans HGET.out.2.2) (by simp; omega) (fun l2 hl2 => ?_)
              have hts := HTS.out
              rcases List.mem_append.1 hl2 with h | h
              · have := HLE.out l2 h; omega
              · rw [List.mem_singleton.1 h]; omega) fun Wc HN => ?_
            obtain ⟨L2, rfl⟩ : ∃ x, x = l := ⟨_, rfl⟩
            obtain ⟨At2, rfl⟩ : ∃ x, x = At := ⟨_, rfl⟩
            obtain ⟨cT2, rfl⟩ : ∃ x, x = cT := ⟨_, rfl⟩
            have hag : a < gs.length + 1 := by have := HN1.out; omega
            have hat : a < ts.length + 1 := by have := HN2.out; omega
            have hag2 : (a : Int) < (gs.length : Int) + 1 := by omega
            have hat2 : (a : Int) < (ts.length : Int) + 1 := by omega
            have hag3 : (a : Int) ≤ (gs.length : Int) := by omega
            have hat3 : (a : Int) ≤ (ts.length : Int) := by omega
            clear c5
            have hL2s := HN.out.small
            have hL2u : L2.length ≤ 1048575 := by omega
            go_region_held3 (LS ga2 gt2 a g (.slice At2 L2.length cT2) L2 Wc)
              (first | assumption | exact LS.of (HN.out.look _ (Below.refl _ _)) | exact LS.of (HN.out.look _ ((Below.refl _ _).drew)) | exact LS.of (HN.out.look _ (((Below.refl _ _).alloc (Nat.le_refl _) _).drew)))
              (first
                | (go_at_call 11; refine (Value_any g L2 _ (by first | exact (HN.out.look _ ((Below.refl _ _).drew)).2.2.1 | exact (HN.out.look _ (((Below.refl _ _).alloc (Nat.le_refl _) _).drew)).2.2.1)).mono ?_; rintro e w' ⟨rfl, rfl⟩)
                | (go_at_call 12; refine (Len_any g L2 _ (by first | exact (HN.out.look _ ((Below.refl _ _).drew)).2.2.1 | exact (HN.out.look _ (((Below.refl _ _).alloc (Nat.le_refl _) _).drew)).2.2.1)).mono ?_; rintro e w' ⟨rfl, rfl⟩)
                | (go_at_call 17; refine (refOf_oneD (HN.out.look _ ((Below.refl _ _).drew)).2.2.2.1 (by omega)).mono ?_; rintro e w' ⟨rfl, rfl⟩))
            all_goals
              go_wp2
              go_roundw
              case rel =>
                obtain ⟨ρ', gs', ts', ls', q1, q2, q3, q4⟩ := HN.out.next _ (((Below.refl _ _).alloc (Nat.le_refl _) _).drew)
                exact ⟨j + 1, ρ', gs', ts', ls', by omega, by go_num, q1, q2, by omega, q4⟩
              case measure => simp [intOf]; omega
          case' neg =>
            have z0 : (K == 0) = false := by rw [beq_eq_false_iff_ne]; exact k0
            have z1 : (K == 1) = false := by rw [beq_eq_false_iff_ne]; exact k1
            clear k0 k1
            go_wp2_with fail
            refine Code.seen (fun W => Nx w (.slice (some ⟨ga, 0, none⟩) ls.length ca) (.slice (some ⟨gt, 0, none⟩) ls.length ct) ga gt a g (.slice At l.length cT) l (j + 2) (tot ops (j + 1)) W) (by
              refine Nx.of (HGR.out.below ((Below.refl _ _).alloc (Nat.le_refl _) _)) a g _ l HGET.out.1 HGET.out.2.1 HGET.out.2.2 (by omega) (fun l2 hl2 => ?_)
              have hts := HTS.out
              have := HLE.out l2 hl2
              omega) fun Wc HN => ?_
            obtain ⟨L2, rfl⟩ : ∃ x, x = l := ⟨_, rfl⟩
            obtain ⟨At2, rfl⟩ : ∃ x, x = At := ⟨_, rfl⟩
            obtain ⟨cT2, rfl⟩ : ∃ x, x = cT := ⟨_, rfl⟩
            obtain ⟨ga2, rfl⟩ : ∃ x, x = ga := ⟨_, rfl⟩
            obtain ⟨gt2, rfl⟩ : ∃ x, x = gt := ⟨_, rfl⟩
            clear c0 c1 c2 z0 z1
            have hL2s := HN.out.small
            have hL2u : L2.length ≤ 1048575 := by omega
            go_region_held3 (LS ga2 gt2 a g (.slice At2 L2.length cT2) L2 Wc)
              (first | assumption | exact LS.of (HN.out.look _ (Below.refl _ _)) | exact LS.of (HN.out.look _ ((Below.refl _ _).drew)) | exact LS.of (HN.out.look _ (((Below.refl _ _).alloc (Nat.le_refl _) _).drew)))
              (first
                | (go_at_call 11; refine (Value_any g L2 _ (by first | exact (HN.out.look _ ((Below.refl _ _).drew)).2.2.1 | exact (HN.out.look _ (((Below.refl _ _).alloc (Nat.le_refl _) _).drew)).2.2.1)).mono ?_; rintro e w' ⟨rfl, rfl⟩)
                | (go_at_call 12; refine (Len_any g L2 _ (by first | exact (HN.out.look _ ((Below.refl _ _).drew)).2.2.1 | exact (HN.out.look _ (((Below.refl _ _).alloc (Nat.le_refl _) _).drew)).2.2.1)).mono ?_; rintro e w' ⟨rfl, rfl⟩)
                | (go_at_call 17; refine (refOf_oneD (HN.out.look _ ((Below.refl _ _).drew)).2.2.2.1 (by omega)).mono ?_; rintro e w' ⟨rfl, rfl⟩))
            all_goals
              go_wp2
              go_roundw
              case rel =>
                obtain ⟨ρ', gs', ts', ls', q1, q2, q3, q4⟩ := HN.out.next _ (((Below.refl _ _).alloc (Nat.le_refl _) _).drew)
                exact ⟨j + 1, ρ', gs', ts', ls', by omega, by go_num, q1, q2, by omega, q4⟩
              case measure => simp [intOf]; omega
    · obtain rfl : j = ops.length := by omega
      have htj : tot ops ops.length ≤ 1048575 := HTOT.out _
      clear hlt hj
      go_wp2
      go_loopw [13] (fun i wx => ∃ q : Nat, q ≤ ls.length ∧ i = .int .i64 q ∧ Gr w ρ (.slice (some ⟨ga, 0, none⟩) ls.length ca) (.slice (some ⟨gt, 0, none⟩) ls.length ct) gs ts ls wx) (fun i _ => ls.length - (intOf i).toNat)
      case atStart => exact ⟨0, Nat.zero_le _, rfl, HGR.out⟩
      case round =>
        clear HGR
        obtain ⟨a, ha, rfl, hgr⟩ := hrel
        have HGR := hid hgr
        clear hgr
        by_cases hal : a < ls.length
        · obtain ⟨g, t, L2, hg, ht, hl⟩ := HGR.out.get a hal
          obtain ⟨At2, cT2, rfl⟩ := (HGR.out.txt a t L2 ht hl).1.form
          obtain ⟨Wc, rfl⟩ : ∃ x : World, x = wr := ⟨_, rfl⟩
          have HN := hid (Nx.of HGR.out a g _ L2 hg ht hl (Nat.le_refl _) HLE.out)
          have HL := hid (And.intro hg (And.intro ht hl))
          obtain ⟨ga2, rfl⟩ : ∃ x, x = ga := ⟨_, rfl⟩
          obtain ⟨gt2, rfl⟩ : ∃ x, x = gt := ⟨_, rfl⟩
          clear hg ht hl
          go_wp2
          have hL2s := HN.out.small
          have hL2u : L2.length ≤ 1048575 := by omega
          go_region_held3 (LS ga2 gt2 a g (.slice At2 L2.length cT2) L2 Wc)
            (first | assumption | exact LS.of (HN.out.look _ (Below.refl _ _)) | exact LS.of (HN.out.look _ ((Below.refl _ _).drew)) | exact LS.of (HN.out.look _ (((Below.refl _ _).alloc (Nat.le_refl _) _).drew)))
            (first
              | (go_at_call 11; refine (Value_any g L2 _ (by first | exact (HN.out.look _ ((Below.refl _ _).drew)).2.2.1 | exact (HN.out.look _ (((Below.refl _ _).alloc (Nat.le_refl _) _).drew)).2.2.1)).mono ?_; rintro e w' ⟨rfl, rfl⟩)
              | (go_at_call 12; refine (Len_any g L2 _ (by first | exact (HN.out.look _ ((Below.refl _ _).drew)).2.2.1 | exact (HN.out.look _ (((Below.refl _ _).alloc (Nat.le_refl _) _).drew)).2.2.1)).mono ?_; rintro e w' ⟨rfl, rfl⟩)
              | (go_at_call 17; refine (refOf_oneD (HN.out.look _ ((Below.refl _ _).drew)).2.2.2.1 (by omega)).mono ?_; rintro e w' ⟨rfl, rfl⟩))
          all_goals
            go_wp2
            go_roundw
            case rel => exact ⟨a + 1, by omega, by go_num, HGR.out.below (((Below.refl _ _).alloc (Nat.le_refl _) _).drew)⟩
            case measure => simp [intOf]; omega
        · go_wp2
          go_ret
          exact ⟨rfl, HGR.out.b⟩
end Go.Proofs.YthadfebboagabaaDoor
