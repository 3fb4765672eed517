/- The helpers of the code laws: mod, made. -/
import Derived.Test.YtkklonldplekcaaCdC
import Derived.Test.YtkklonldplekcaaMxV
namespace Go.Proofs.Ytkklonldplekcaa
open Go.RowKit
def md (a : Int) (n : Nat) : Nat := (a % (n : Int)).toNat
theorem md_lt (a : Int) (n : Nat) (hn : 0 < n) : md a n < n := by
  unfold md
  have := Int.emod_lt_of_pos a (show (0 : Int) < n by omega)
  have := Int.emod_nonneg a (show (n : Int) ≠ 0 by omega)
  omega
set_option maxHeartbeats 1000000 in
theorem mod_any (a : Int) (_ : -9223372036854775808 ≤ a) (_ : a ≤ 9223372036854775807) (n : Nat) (hn : 0 < n) (hn2 : n ≤ 100000) (w : World) : Calls Try.prog 50 #[.int .i64 a, .int .i64 n] w fun e w' => e = .returned (.int .i64 (md a n : Int)) ∧ w' = w := by
  have t1 := Int.tmod_lt_of_pos a (show (0 : Int) < (n : Int) by omega)
  have t2 := Int.lt_tmod_of_pos a (show (0 : Int) < (n : Int) by omega)
  have hd : a.tmod (n : Int) = a % (n : Int) - (if 0 ≤ a ∨ (n : Int) ∣ a then 0 else ((n : Int)).natAbs) := Int.tmod_eq_emod
  have e1 := Int.emod_nonneg a (show (n : Int) ≠ 0 by omega)
  have e2 := Int.emod_lt_of_pos a (show (0 : Int) < (n : Int) by omega)
  have HE1 : Hid (0 ≤ a.tmod (n : Int) → a.tmod (n : Int) = (md a n : Int)) := hid (fun h => by
    unfold md
    split at hd
    · omega
    · rw [Int.natAbs_natCast] at hd; omega)
  have HE2 : Hid (a.tmod (n : Int) < 0 → a.tmod (n : Int) + (n : Int) = (md a n : Int)) := hid (fun h => by
    unfold md
    split at hd
    · omega
    · rw [Int.natAbs_natCast] at hd; omega)
  have hn0 : ¬ (n : Int) = 0 := by omega
  have hn1 : ((n : Int) == 0) = false := by rw [beq_eq_false_iff_ne]; omega
  have hn3 : ((n : Int) == -1) = false := by rw [beq_eq_false_iff_ne]; omega
  clear hd e1 e2
  by_cases hneg : a.tmod (n : Int) < 0
  · go_enter Try.func50, Try.ntmps50
    go_wp2
    go_ret
    exact ⟨congrArg (fun n => Ending.returned (.int .i64 n)) (HE2.out hneg), rfl⟩
  · go_enter Try.func50, Try.ntmps50
    go_wp2
    go_ret
    exact ⟨congrArg (fun n => Ending.returned (.int .i64 n)) (HE1.out (by omega)), rfl⟩
/-- one row more is told -/
theorem ToldN.snoc {B : Nat} {w0 w w1 w2 w3 : World} {M : List (List UInt8)} {v u : Value} {Y : List UInt8} (h : ToldN B w0 w [] M M.length v) (h1 : Below w.heap.size w w1) (ho : OwnB w1 w.heap.size u Y) (h2 : Below w1.heap.size w1 w2) {g cap : Nat} {vs : List Value} (hvs : w2.ownsRow 0 22 1 v M.length vs) (ho2 : w3.ownsRow 0 22 1 (.slice (some ⟨g, 0, none⟩) (M.length + 1) cap) (M.length + 1) (vs ++ [u])) (hg : w2.grownBy w3 v.ownBlock) (hn : ∀ j, (Value.slice (some ⟨g, 0, none⟩) (M.length + 1) cap).ownBlock = some j → v.ownBlock = some j ∨ w2.heap.size ≤ j) : ToldN B w0 w3 [] (M ++ [Y]) (M.length + 1) (.slice (some ⟨g, 0, none⟩) (M.length + 1) cap) := by
  obtain ⟨vs', hl, hf⟩ := h
  have e : vs' = vs := by
    have h3 := ((hf.below (below_then h1 h2)).own (i := 0) rfl).1
    rw [List.take_length] at h3
    obtain ⟨e1, e2⟩ := h3
    obtain ⟨e3, e4⟩ := hvs
    rcases e2 with ⟨r1, r2⟩ | ⟨g1, c1, cur1, r1, _, hg1, _, _, hc1, ht1⟩
    · rw [r2] at e1 e3
      have a1 : vs' = [] := List.eq_nil_of_length_eq_zero (by simpa using e1)
      have a2 : vs = [] := List.eq_nil_of_length_eq_zero (by simpa using e3)
      rw [a1, a2]
    · rcases e4 with ⟨r3, r4⟩ | ⟨g2, c2, cur2, r3, _, hg2, _, _, hc2, ht2⟩
      · rw [r1] at r3; cases r3
      · rw [r1] at r3
        injection r3 with r3
        injection r3 with r3
        injection r3 with r3
        subst r3
        rw [hg1] at hg2
        injection hg2 with hg2
        injection hg2 with hg2
        subst hg2
        rw [← ht1, ← ht2]
  subst e
  have hk : M.length < (M ++ [Y]).length := by simp
  have := told_next (M := M ++ [Y]) (k := M.length) hl (by rw [List.take_append_of_le_length (Nat.le_refl _)]; exact hf) hk h1 (by rw [List.getD_eq_getElem?_getD, List.getElem?_append_right (Nat.le_refl _), Nat.sub_self]; exact ho) h2 ho2 hg hn
  exact this.n
theorem rows_len_snoc {M : List (List UInt8)} {S : List UInt8} {n : Nat} (h : ∀ i, i < M.length → (M.getD i []).length = n) (hs : S.length = n) : ∀ i, i < (M ++ [S]).length → ((M ++ [S]).getD i []).length = n := by
  intro i hi
  rw [List.length_append, List.length_singleton] at hi
  by_cases hi' : i < M.length
  · rw [List.getD_eq_getElem?_getD, List.getElem?_append_left hi', ← List.getD_eq_getElem?_getD]; exact h i hi'
  · rw [List.getD_eq_getElem?_getD, List.getElem?_append_right (by omega), show i - M.length = 0 by omega]; exact hs
/-- what made answers: a code and data for it -/
def MadeC (w : World) (e : Ending) (w' : World) : Prop := ∃ (n k s c : Nat) (G D : List (List UInt8)) (A : Option Addr) (cp : Nat), e = .returned (.tuple #[.pointer (some ⟨c, 0, none⟩), .slice A k cp]) ∧ n ≤ 24 ∧ s ≤ 40 ∧ CodeAt w' c n k G ∧ GenOf n k G ∧ SlBB w' (.slice A k cp) D ∧ D.length = k ∧ (∀ i, i < k → (D.getD i []).length = s) ∧ Below w.heap.size w w'
set_option maxRecDepth 100000 in
set_option maxHeartbeats 16000000 in
theorem madeC_any (w : World) (a b : Int) (ha : -9223372036854775808 ≤ a ∧ a ≤ 9223372036854775807) (hb : -9223372036854775808 ≤ b ∧ b ≤ 9223372036854775807) (vr vp vb : Value) (ll : List (List UInt8)) (hr : SlBB w vr ll) :
    Calls Try.prog 36 #[.agg #[.int .i64 a, .int .i64 b, vr, vp, vb]] w (MadeC w) := by
  have HR := hid hr
  obtain ⟨Ar, cr, rfl⟩ := hr.form
  have HA := hid ha
  have HB := hid hb
  clear hr ha hb
  go_enter Try.func36, Try.ntmps36
  go_wp2_with fail
  refine (mod_any a HA.out.1 HA.out.2 24 (by omega) (by omega) _).mono ?_
  rintro e w0 ⟨rfl, hw0⟩
  have H0 : Hid (Below w.heap.size w w0 ∧ w0.heap[w.heap.size]? = some (.cells #[.int .i64 a, .int .i64 b, .slice Ar ll.length cr, vp, vb] 55 (0, 0))) := hid (by rw [hw0]; exact ⟨(Below.refl _ _).alloc (Nat.le_refl _) _, heap_alloc_new _ _⟩)
  have q1 : w0.cell? ⟨w.heap.size, 1, none⟩ = some (.int .i64 b) := by rw [blk_cell H0.out.2]; rfl
  obtain ⟨n1, hn1⟩ : ∃ n1, md a 24 = n1 := ⟨_, rfl⟩
  have hn2 := md_lt a 24 (by omega)
  rw [hn1] at hn2 ⊢
  obtain ⟨n, hn⟩ : ∃ n, n1 + 1 = n := ⟨_, rfl⟩
  have hcast : (n1 : Int) + 1 = (n : Int) := by omega
  have CM := hid (mod_any b HB.out.1 HB.out.2 n (by omega) (by omega) w0)
  clear hw0 hn1
  go_wp2_with fail
  refine CM.out.mono ?_
  rintro e w0 ⟨rfl, rfl⟩
  obtain ⟨k1, hk1⟩ : ∃ k1, md b n = k1 := ⟨_, rfl⟩
  have hk2 := md_lt b n (by omega)
  rw [hk1] at hk2 ⊢
  obtain ⟨k, hk⟩ : ∃ k, k1 + 1 = k := ⟨_, rfl⟩
  have hcast2 : (k1 : Int) + 1 = (k : Int) := by omega
  have hkn : k ≤ n := by omega
  have hk0 : 1 ≤ k := by omega
  have hn24 : n ≤ 24 := by omega
  have CN := hid (NewCode_ok w0 n k hk0 hkn (by omega))
  clear hn hk hn2 hk2 q1 CM hk1
  go_wp2_with fail
  clear hcast hcast2
  refine CN.out.mono ?_
  rintro e w1 ⟨c, G, rfl, hc, hg, hb⟩
  have HCD := hid hc
  have HGN := hid hg
  have HB1 := hid hb
  clear hc hg hb CN
  go_wp2_with fail
  refine (N_any w1 c n k G HCD.out).mono ?_
  rintro e w1 ⟨rfl, rfl⟩
  go_wp2_with fail
  refine (K_any w1 c n k G HCD.out).mono ?_
  rintro e w1 ⟨rfl, rfl⟩
  have q2 : w1.cell? ⟨w.heap.size, 2, none⟩ = some (.slice Ar ll.length cr) := (HB1.out.cell (p := ⟨w.heap.size, 2, none⟩) (blk_lt H0.out.2)).trans (by rw [blk_cell H0.out.2]; rfl)
  have HRW := hid (HR.out.below (below_then H0.out.1 HB1.out))
  have HBW := hid (below_then H0.out.1 HB1.out)
  go_upto_if 49 with (fail)
  go_cut [8] (fun u wx => ∃ s : Nat, s ≤ 40 ∧ u = .int .i64 (s : Int) ∧ wx = w1)
  case first =>
    by_cases hz : 0 < ll.length
    · obtain ⟨R, o, v0, e0, c0, s0⟩ := HRW.out.at_ 0 hz
      obtain ⟨A0, q0, rfl⟩ := s0.form
      subst e0
      rw [Nat.add_zero] at c0
      have hzi : (0 : Int) < (ll.length : Int) := by omega
      obtain ⟨L0, hL0⟩ : ∃ L0, (ll.getD 0 []).length = L0 := ⟨_, rfl⟩
      rw [hL0] at c0
      clear s0 hL0
      by_cases hL : (L0 : Int) ≤ 40
      · go_wp2_with fail
        go_meet
        exact ⟨L0, by omega, rfl, rfl⟩
      · have hL2 : (40 : Int) ≤ (L0 : Int) := by omega
        go_wp2_with fail
        go_meet
        exact ⟨40, Nat.le_refl _, rfl, rfl⟩
    · go_wp2_with fail
      go_meet
      exact ⟨0, by omega, rfl, rfl⟩
  case rest =>
    obtain ⟨s, hs40, rfl, rfl⟩ := hcut
    go_wp2
    go_loopw [9, 10, 11, 12] (fun v x _ _ wr => ∃ M : List (List UInt8), M.length ≤ k ∧ x = .int .i64 M.length ∧ ToldN wc.heap.size wc wr [] M M.length v ∧ ∀ i, i < M.length → (M.getD i []).length = s) (fun _ x _ _ _ => k - (intOf x).toNat)
    case atStart => exact ⟨[], Nat.zero_le _, rfl, ToldN.start _ _, fun i hi => by simp at hi⟩
    case round =>
      obtain ⟨wo, rfl⟩ : ∃ wo : World, wo = wr := ⟨_, rfl⟩
      obtain ⟨M, hM, rfl, ht, hml⟩ := hrel
      have HT := hid ht
      have HML := hid hml
      obtain ⟨vs, hvl, hf, ho, A, cl, rfl⟩ := ht.own (Nat.le_refl _)
      have HVL := hid hvl
      have HO := hid ho
      have HBo := hid ht.base
      clear ht hml hvl hf ho
      by_cases hlt : M.length < k
      · obtain ⟨w3, hmk, ho3, hb3⟩ := make_bytes wo s (by omega)
        have HO3 := hid ho3
        have HB3 := hid hb3
        obtain ⟨g, hg⟩ : ∃ g, wo.heap.size = g := ⟨_, rfl⟩
        rw [hg] at hmk HO3
        have HG := hid hg
        have i1 : (M.length : Int) < (k : Int) := by omega
        clear ho3 hb3 hg
        go_wp2
        clear hmk
        go_loopw [12] (fun x wr => ∃ (j : Nat) (Y : List UInt8), j ≤ s ∧ x = .int .i64 j ∧ OwnB wr g (.slice (some ⟨g, 0, none⟩) s s) Y ∧ Y.length = s ∧ Below g wo wr) (fun x _ => s - (intOf x).toNat)
        case atStart => exact ⟨0, _, Nat.zero_le _, rfl, HO3.out, by simp, by rw [← HG.out]; exact HB3.out⟩
        case round =>
          clear HO3 HB3
          obtain ⟨j, Y, hj, rfl, hO, hY, hb⟩ := hrel
          have HO4 := hid hO
          have HY := hid hY
          have HB4 := hid hb
          have HBZ := hid (below_then HB1.out (below_then HBo.out (show Below wo.heap.size wo wr by rw [HG.out]; exact hb)))
          have HBW2 := hid (below_then HBo.out (show Below wo.heap.size wo wr by rw [HG.out]; exact hb))
          have q3 : wr.cell? ⟨w.heap.size, 2, none⟩ = some (.slice Ar ll.length cr) := (HBZ.out.cell (p := ⟨w.heap.size, 2, none⟩) (blk_lt H0.out.2)).trans (by rw [blk_cell H0.out.2]; rfl)
          have HRR := hid (HRW.out.below HBW2.out)
          have j0 : (0 : Int) ≤ (j : Int) := by omega
          clear hO hb
          by_cases hc : j < s ∧ M.length < ll.length ∧ j < (ll.getD M.length []).length
          · obtain ⟨hc1, hc2, hc3⟩ := hc
            obtain ⟨R, o, v0, e0, c0, s0⟩ := HRR.out.at_ M.length hc2
            obtain ⟨A0, q0, rfl⟩ := s0.form
            subst e0
            obtain ⟨L0, hL0⟩ : ∃ L0, ll.getD M.length [] = L0 := ⟨_, rfl⟩
            rw [hL0] at c0 s0 hc3
            obtain ⟨bu, ou, rfl, hbytes⟩ := s0.byte (by omega)
            have x0 := hbytes j hc3
            obtain ⟨bv, hbv⟩ : ∃ bv, L0.getD j 0 = bv := ⟨_, rfl⟩
            rw [hbv] at x0
            obtain ⟨z0, f0⟩ := HO4.out.at_ j (by rw [HY.out]; exact hc1)
            generalize Y.getD j 0 = yb at z0
            have R1 := hid (HO4.out.set_ j bv)
            have R2' : Hid ((Y.set j bv).length = s) := hid (by rw [List.length_set]; exact HY.out)
            have R3 := hid (show Below g wo (wr.setCell ⟨g, j, none⟩ (B bv)) from HB4.out.setCell (Nat.le_refl _) _)
            have k0 : (0 : Int) ≤ (M.length : Int) := by omega
            have k1 : (M.length : Int) < (ll.length : Int) := by omega
            have k2 : (j : Int) < (s : Int) := by omega
            have k3 : (j : Int) < (L0.length : Int) := by omega
            clear s0 hL0 hbytes hbv hY
            go_wp2
            go_roundw
            case rel => exact ⟨j + 1, _, by omega, by go_num, R1.out, R2'.out, R3.out⟩
            case measure => simp [intOf]; omega
          · have HBwo : Hid (Below wo.heap.size wo wr) := hid (by rw [HG.out]; exact HB4.out)
            have HOY : Hid (OwnB wr wo.heap.size (.slice (some ⟨g, 0, none⟩) s s) Y) := hid (by rw [HG.out]; exact HO4.out)
            have HO5 : Hid ((wr.alloc (.cells #[.slice (some ⟨g, 0, none⟩) s s] 22 (0, 0))).ownsRow 0 22 1 (.slice A M.length cl) M.length vs) := hid (World.ownsRow.alloc (own_fr HO.out (Fr.of_below HBwo.out) (fun _ _ h => h)) _)
            have hMl : M.length ≤ 1099511627776 := by omega
            have hex : (¬ (j : Int) < (s : Int)) ∨ ((j : Int) < (s : Int) ∧ ¬ (M.length : Int) < (ll.length : Int)) ∨ ((j : Int) < (s : Int) ∧ (M.length : Int) < (ll.length : Int) ∧ ∃ R o A0 q0 L0, Ar = some ⟨R, o, none⟩ ∧ wr.cell? ⟨R, o + M.length, none⟩ = some (.slice A0 L0 q0) ∧ ¬ (j : Int) < (L0 : Int)) := by
              by_cases c1 : j < s
              · by_cases c2 : M.length < ll.length
                · obtain ⟨R, o, v0, e0, c0, s0⟩ := HRR.out.at_ M.length c2
                  obtain ⟨A0, q0, rfl⟩ := s0.form
                  exact .inr (.inr ⟨by omega, by omega, R, o, A0, q0, _, e0, c0, fun h => hc ⟨c1, c2, by omega⟩⟩)
                · exact .inr (.inl ⟨by omega, by omega⟩)
              · exact .inl (by omega)
            have k0 : (0 : Int) ≤ (M.length : Int) := by omega
            clear hc hY
            rcases hex with c1 | ⟨c1, c2⟩ | ⟨c1, c2, R, o, A0, q0, L0, rfl, c0, c3⟩
            all_goals
              go_wp2_with (at_builtin; refine wpList_appG rfl (.tmp 96) (.tmp 98) rfl (.slice A M.length cl) M.length vs (some ⟨g, 0, none⟩) s s wr.heap.size 22 rfl rfl HO5.out (heap_alloc_new _ _) hMl ?_; intro g9 cap9 w9 ho9 hg9 hn9; have H9 := hid (ToldN.snoc HT.out HBwo.out HOY.out ((Below.refl _ _).alloc (Nat.le_refl _) (.cells #[.slice (some ⟨g, 0, none⟩) s s] 22 (0, 0))) HO5.out ho9 hg9 hn9); clear ho9 hg9 hn9)
              have R2' : Hid (∀ i, i < (M ++ [Y]).length → ((M ++ [Y]).getD i []).length = s) := hid (rows_len_snoc HML.out HY.out)
              have hlen : (M ++ [Y]).length = M.length + 1 := by simp
              have R3 : Hid (ToldN wc.heap.size wc w9 [] (M ++ [Y]) (M ++ [Y]).length (.slice (some ⟨g9, 0, none⟩) (M.length + 1) cap9)) := hid (by rw [hlen]; exact H9.out)
              clear hlen
              go_roundw
              case rel => exact ⟨M ++ [Y], by simp; omega, by simp, R3.out, R2'.out⟩
              case measure => simp [intOf]; omega
      · have hk : M.length = k := by omega
        have HE : Hid (MadeC w (.returned (.tuple #[.pointer (some ⟨c, 0, none⟩), .slice A M.length cl])) wo) := hid ⟨n, k, s, c, G, M, A, cl, by rw [hk], hn24, hs40, HCD.out.below HBo.out, HGN.out, (by have := HT.out.slBB; rw [hk] at this; exact this), hk, fun i hi => HML.out i (by omega), below_then HBW.out HBo.out⟩
        have i1 : ¬ (M.length : Int) < (k : Int) := by omega
        clear hk
        go_wp2
        go_ret2
        exact HE.out
end Go.Proofs.Ytkklonldplekcaa
