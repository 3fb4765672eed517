/- The walk of the law's helper apart. -/
import Derived.Test.YtkklonldplekcaaMkA
namespace Go.Proofs.Ytkklonldplekcaa
open Go.RowKit
theorem Ap2.mid {B : Nat} {w0 w wa w1 : World} {ts : List Thing} {Rv : Value} {vs : List Value} {M : List (List UInt8)} {mk : Nat → UInt8} {k : Nat} {mv v u : Value} {us : List Value} (h : Ap2 B w0 w ts Rv vs M mk k mv us) (hk : k < M.length) (hv : vs.getD k (.slice none 0 0) = v) (ha : Below w.heap.size w wa) (ho : OwnB w1 0 u (M.getD k [] ++ [mk k])) (ho2 : OwnB w1 0 v (M.getD k [])) (hg : wa.grownBy w1 v.ownBlock) (hn : ∀ j, u.ownBlock = some j → v.ownBlock = some j ∨ wa.heap.size ≤ j) : w1.ownsRow 0 22 1 mv k us := by
  obtain ⟨hul, hf⟩ := h
  have hf1 := hf.below ha
  have hat : (ts ++ (ownT 22 1 Rv M.length vs :: ownT 22 1 mv k us :: prT vs us M mk k))[ts.length + (k + 2)]? = some (rowT v (M.getD k [])) := by
    rw [get_at]
    have := prT_at (vs := vs) (us := us) (mk := mk) (k := k) hk
    rw [if_neg (by omega), hv] at this
    simpa using this
  obtain ⟨S, hS, hSB, kk⟩ := hf1.call hat
  have hf2 := kk (andT (rowT v (M.getD k [])) (rowT u (M.getD k [] ++ [mk k]))) w1 ⟨⟨ho2, fun j hj => .inl (hS.2 j hj)⟩, ho, fun j hj => by
    rcases hn j hj with e | e
    · exact .inl (hS.2 j e)
    · exact .inr ⟨e, (World.ownsRow.lt ho j hj).2⟩⟩ ((Fr.of_grown hg).mono fun x _ e => hS.2 x e)
  rw [set_at] at hf2
  exact (hf2.own (i := ts.length + 1) (by rw [get_at]; rfl)).1
theorem Ap2.fam {B : Nat} {w0 wr : World} {ts : List Thing} {Rv : Value} {vs : List Value} {M : List (List UInt8)} {mk : Nat → UInt8} {k : Nat} {mv : Value} {us : List Value} (h : Ap2 B w0 wr ts Rv vs M mk k mv us) : Fam B w0 wr ts := h.2.back
theorem own_word {w : World} {base : Nat} {v : Value} {l : List UInt8} {n : Nat} (h : OwnB w base v l) (hn : l.length = n) : ∃ A c, v = .slice A n c := by subst hn; exact h.form
set_option maxRecDepth 100000 in
set_option maxHeartbeats 16000000 in
theorem apart_any (B : Nat) (w0 w : World) (ts : List Thing) (R r c : Nat) (vs : List Value) (M : List (List UInt8)) (n : Nat) (h : Fam B w0 w (ts ++ gridT (.slice (some ⟨R, 0, none⟩) r c) vs M)) (hr : r = M.length) (hl : vs.length = M.length) (hr2 : r ≤ 100) (hn : ∀ i, i < M.length → (M.getD i []).length = n) (hn2 : n ≤ 1024) :
    Calls Try.prog 33 #[.slice (some ⟨R, 0, none⟩) r c] w fun e w' => e = .returned (.bool true) ∧ Fam B w0 w' ts := by
  obtain ⟨mk, hmk⟩ : ∃ mk : Nat → UInt8, ∀ i : Nat, i < 100 → IntKind.u8.wrap (100 + (i : Int)) = ((mk i).toNat : Int) := ⟨fun i => UInt8.ofNat (100 + i), fun i hi => by
    simp [IntKind.wrap, IntKind.signed, IntKind.bits] <;> omega⟩
  have HMK := hid hmk
  have HF := hid h
  have HR := hid hr
  have HL := hid hl
  have HN := hid hn
  clear h hr hl hn hmk
  go_enter Try.func33, Try.ntmps33
  go_wp2
  go_loopw [4, 5, 6, 13] (fun _ _ _ x wr => ∃ (i : Nat) (T : List (List UInt8)), i ≤ r ∧ x = .int .i64 i ∧ Mkd mk M i 0 T ∧ Fam B w0 wr (ts ++ gridT (.slice (some ⟨R, 0, none⟩) r c) vs T)) (fun _ _ _ x _ => r - (intOf x).toNat)
  case atStart => exact ⟨0, M, Nat.zero_le _, rfl, ⟨rfl, fun _ => rfl, fun a b _ _ h => by omega⟩, HF.out⟩
  case round =>
    clear HF
    obtain ⟨wo, rfl⟩ : ∃ wo : World, wo = wr := ⟨_, rfl⟩
    obtain ⟨i, T, hi, rfl, hT, hf⟩ := hrel
    have HT := hid hT
    have HFM := hid hf
    by_cases hlt : i < r
    · have hTl : r = T.length := by rw [hT.1]; exact HR.out
      have hvT : vs.length = T.length := by rw [hT.1]; exact HL.out
      have HTL := hid hTl
      have HVT := hid hvT
      obtain ⟨c0, _⟩ := hf.gridVal hTl hvT i (by omega)
      have hol := hf.gridOwn hvT i (by omega)
      have hln : (T.getD i []).length = n := by rw [hT.2.1]; exact HN.out i (by have := HR.out; omega)
      obtain ⟨Ai, ci, e⟩ := own_word hol hln
      rw [e] at c0
      have HV := hid e
      obtain ⟨b, hb⟩ : ∃ b, mk i = b := ⟨_, rfl⟩
      have hw := HMK.out i (by omega)
      rw [hb] at hw
      have HBK := hid hb
      have i0 : (0 : Int) ≤ (i : Int) := by omega
      have i1 : (i : Int) < (r : Int) := by omega
      have i2 : (i : Int) < 100 := by omega
      clear hT hf hol hln e hb hTl hvT
      go_wp2
      clear c0
      go_loopw [6, 20] (fun _ y wr => ∃ (j : Nat) (T : List (List UInt8)), j ≤ n ∧ y = .int .i64 j ∧ Mkd mk M i j T ∧ Fam B w0 wr (ts ++ gridT (.slice (some ⟨R, 0, none⟩) r c) vs T)) (fun _ y _ => n - (intOf y).toNat)
      case atStart => exact ⟨0, T, Nat.zero_le _, rfl, HT.out, HFM.out⟩
      case round =>
        clear HFM HT HTL HVT
        obtain ⟨j, T2, hj, rfl, hT, hf⟩ := hrel
        have HT := hid hT
        have HFM := hid hf
        by_cases hjn : j < n
        · have hTl : r = T2.length := by rw [hT.1]; exact HR.out
          have hvT : vs.length = T2.length := by rw [hT.1]; exact HL.out
          have hol := hf.gridOwn hvT i (by omega)
          have hln : (T2.getD i []).length = n := by rw [hT.2.1]; exact HN.out i (by have := HR.out; omega)
          have hln2 : (M.getD i []).length = n := HN.out i (by have := HR.out; omega)
          rw [HV.out] at hol
          obtain ⟨g, cg, e, _, _, _⟩ := hol.some_ (by omega)
          rw [hln] at e
          injection e with e1 _ e2
          subst e1 e2
          obtain ⟨x0, f0⟩ := hol.at_ j (by omega)
          generalize (T2.getD i []).getD j 0 = y0 at x0
          have R1 := hid (hf.gridByte hvT (show i < T2.length by omega) HV.out rfl j b)
          have R2' : Hid (Mkd mk M i (j + 1) (T2.set i ((T2.getD i []).set j b))) := hid (by
            rw [← HBK.out]; exact hT.put (by have := HR.out; omega) (by omega))
          have j0 : (0 : Int) ≤ (j : Int) := by omega
          have j1 : (j : Int) < (n : Int) := by omega
          clear hT hf hol hln hln2 hTl hvT HFM HT
          go_wp2
          clear x0 f0
          go_roundw
          case rel => exact ⟨j + 1, _, by omega, by go_num, R2'.out, R1.out⟩
          case measure => simp [intOf]; omega
        · have R2' := hid (hT.row (by have := HN.out i (by have := HR.out; omega); omega))
          clear hT hf
          go_wp2
          go_roundw
          case rel => exact ⟨i + 1, T2, by omega, by go_num, R2'.out, HFM.out⟩
          case measure => simp [intOf]; omega
    · obtain rfl : i = r := by omega
      have HTL : Hid (i = T.length) := hid (by rw [hT.1]; exact HR.out)
      have HVT : Hid (vs.length = T.length) := hid (by rw [hT.1]; exact HL.out)
      have HTN : Hid (∀ a, a < i → (T.getD a []).length = n) := hid fun a ha => by rw [hT.2.1]; exact HN.out a (by have := HR.out; omega)
      have HTE : Hid (∀ a b, a < i → b < n → ent T a b = mk a) := hid fun a b ha hb => hT.2.2 a b (by have := HR.out; omega) (by rw [HN.out a (by have := HR.out; omega)]; exact hb) (.inl ha)
      have HA0 : Hid (Ap2 B w0 wo ts (.slice (some ⟨R, 0, none⟩) i c) vs T mk 0 (.slice none 0 0) []) := hid (Ap2.start mk hf HVT.out)
      clear hT hf HFM HT HR HL HN
      go_wp2
      go_loopw [3, 7, 8, 33] (fun mv _ _ x wr => ∃ (k : Nat) (us : List Value), k ≤ i ∧ x = .int .i64 k ∧ Ap2 B w0 wr ts (.slice (some ⟨R, 0, none⟩) i c) vs T mk k mv us) (fun _ _ _ x _ => i - (intOf x).toNat)
      case atStart => exact ⟨0, [], Nat.zero_le _, rfl, HA0.out⟩
      case round =>
        clear HA0
        obtain ⟨k, us, hk, rfl, ha⟩ := hrel
        have HA := hid ha
        by_cases hlt2 : k < i
        · have ha2 := ha
          rw [HTL.out] at ha2
          obtain ⟨c0, hol, hmv, _⟩ := ha2.reads HVT.out (show k < T.length by have := HTL.out; omega)
          have hln := HTN.out k hlt2
          obtain ⟨Ai, ci, e⟩ := own_word hol hln
          rw [e] at c0 hol
          have HV := hid e
          have HOL := hid hol
          have HLN := hid hln
          obtain ⟨L, hL⟩ : ∃ L, T.getD k [] = L := ⟨_, rfl⟩
          obtain ⟨b, hb⟩ : ∃ b, mk k = b := ⟨_, rfl⟩
          rw [hL] at HOL HLN
          have HLK := hid hL
          have hw := HMK.out k (by omega)
          rw [hb] at hw
          have HBK := hid hb
          have hLl : L.length ≤ 1099511627776 := by have := HLN.out; omega
          have hkT := HTL.out
          have HKT : Hid (k < T.length) := hid (by omega)
          have i0 : (0 : Int) ≤ (k : Int) := by omega
          have i1 : (k : Int) < (i : Int) := by omega
          have i2 : (k : Int) < 100 := by omega
          have hk2 : k ≤ 1099511627776 := by omega
          clear ha ha2 hol e hln hL hb hmv hkT
          go_wp2_with (first
            | (at_builtin; refine wpList_appK rfl (.tmp 39) (.tmp 43) rfl (.slice Ai n ci) L b wr.heap.size 5 rfl rfl (OwnB.alloc HOL.out _) (heap_alloc_new _ _) hLl ?_; intro A9 cap9 w9 ho9 hk9 hg9 hn9; have HO9 : Hid (OwnB w9 0 (.slice A9 (L.length + 1) cap9) (T.getD k [] ++ [mk k])) := hid (by rw [HLK.out, HBK.out]; exact ho9); have HK9 : Hid (OwnB w9 0 (.slice Ai n ci) (T.getD k [])) := hid (by rw [HLK.out]; exact hk9); have HG9 := hid hg9; have HN9 := hid hn9; have HM9 := hid (HA.out.mid HKT.out HV.out ((Below.refl wr.heap.size wr).alloc (Nat.le_refl _) (.cells #[.int .u8 (b.toNat : Int)] 5 (0, 0))) HO9.out HK9.out hg9 hn9); clear ho9 hk9 hg9 hn9)
            | (at_builtin; obtain ⟨mA, mc, em⟩ := own_form HM9.out; subst em; refine wpList_appG rfl (.tmp 38) (.tmp 45) rfl (.slice mA k mc) k us A9 (L.length + 1) cap9 w9.heap.size 22 rfl rfl (World.ownsRow.alloc HM9.out _) (heap_alloc_new _ _) hk2 ?_; intro g10 cap10 w10 ho10 hg10 hn10; have H10 := hid (HA.out.next HKT.out HV.out ((Below.refl wr.heap.size wr).alloc (Nat.le_refl _) (.cells #[.int .u8 (b.toNat : Int)] 5 (0, 0))) HO9.out HK9.out HG9.out HN9.out ((Below.refl w9.heap.size w9).alloc (Nat.le_refl _) (.cells #[.slice A9 (L.length + 1) cap9] 22 (0, 0))) ho10 hg10 hn10); clear ho10 hg10 hn10))
          clear c0
          go_roundw
          case rel => exact ⟨k + 1, _, by omega, by go_num, H10.out⟩
          case measure => simp [intOf]; omega
        · obtain rfl : k = i := by omega
          have HE := hid ha.fam
          have HRD : Hid (∀ a, a < k → w.heap.size = w.heap.size ∧ (wr.cell? ⟨R, a, none⟩ = some (vs.getD a (.slice none 0 0)) ∧ OwnB wr 0 (vs.getD a (.slice none 0 0)) (T.getD a []) ∧ wr.ownsRow 0 22 1 u3 k us ∧ (a < k → OwnB wr 0 (us.getD a (.slice none 0 0)) (T.getD a [] ++ [mk a])))) := hid fun a hak => ⟨rfl, by
            have ha2 := ha
            rw [HTL.out] at ha2
            have h3 := ha2.reads HVT.out (show a < T.length by have := HTL.out; omega)
            rw [← HTL.out] at h3
            exact h3⟩
          have HUL := hid ha.1
          obtain ⟨N, hN⟩ : ∃ N, n + 1 = N := ⟨_, rfl⟩
          have HNN := hid hN
          have hN2 : N ≤ 1025 := by omega
          clear ha hN
          go_wp2
          go_loop [9, 10, 50] (fun _ _ x => ∃ a : Nat, a ≤ k ∧ x = .int .i64 a) (fun _ _ x => k - (intOf x).toNat)
          case atStart => exact ⟨0, Nat.zero_le _, rfl⟩
          case round =>
            obtain ⟨a, ha, rfl⟩ := hrel
            by_cases hak : a < k
            · obtain ⟨_, c0, ov, hmv, ou⟩ := HRD.out a hak
              obtain ⟨G, capm, em, cm⟩ := own_at hmv a hak
              subst em
              have ou := ou hak
              have hln := HTN.out a hak
              obtain ⟨Av, cv, ev⟩ := own_word ov hln
              obtain ⟨Au, cu, eu⟩ := own_word ou (n := N) (by rw [List.length_append, List.length_singleton, hln]; exact HNN.out)
              have cm2 : wr.cell? ⟨G, a, none⟩ = some (.slice Au N cu) := by
                rw [cm, ← eu, List.getD_eq_getElem?_getD, List.getElem?_eq_getElem (show a < us.length by have := HUL.out; omega)]; rfl
              rw [ev] at c0 ov
              rw [eu] at ou
              have HOV := hid ov
              have HOU := hid ou
              have HLN := hid hln
              obtain ⟨b, hb⟩ : ∃ b, mk a = b := ⟨_, rfl⟩
              have hw := HMK.out a (by omega)
              rw [hb] at hw
              have HBK := hid hb
              have i0 : (0 : Int) ≤ (a : Int) := by omega
              have i1 : (a : Int) < (k : Int) := by omega
              have i2 : (a : Int) < 100 := by omega
              clear cm ov ou hln ev eu hb hmv
              go_wp2
              go_loop [10, 58] (fun _ y => ∃ j : Nat, j ≤ N ∧ y = .int .i64 j) (fun _ y => N - (intOf y).toNat)
              case atStart => exact ⟨0, Nat.zero_le _, rfl⟩
              case round =>
                obtain ⟨j, hj, rfl⟩ := hrel
                by_cases hjN : j < N
                · have hul : (T.getD a [] ++ [mk a]).length = N := by rw [List.length_append, List.length_singleton, HLN.out]; exact HNN.out
                  have ou := HOU.out
                  obtain ⟨gu, cg, e, _, _, _⟩ := ou.some_ (by omega)
                  injection e with e1 e3 e2
                  subst e1 e2
                  clear e3
                  obtain ⟨x0, _⟩ := ou.at_ j (by omega)
                  have hx : (T.getD a [] ++ [mk a]).getD j 0 = b := by
                    rcases snoc_getD (T.getD a []) (mk a) j (by omega) with ⟨h1, h2⟩ | ⟨h1, h2⟩
                    · rw [h2, ← HBK.out]; exact HTE.out a j hak (by rw [← HLN.out]; exact h1)
                    · rw [h2, HBK.out]
                  rw [hx] at x0
                  have j0 : (0 : Int) ≤ (j : Int) := by omega
                  have j1 : (j : Int) < (N : Int) := by omega
                  by_cases hjn : j < n
                  · have ov := HOV.out
                    obtain ⟨gv, cg2, e, _, _, _⟩ := ov.some_ (by have := HLN.out; omega)
                    injection e with e1 e3 e2
                    subst e1 e2
                    clear e3
                    obtain ⟨y0, _⟩ := ov.at_ j (by have := HLN.out; omega)
                    have hy : (T.getD a []).getD j 0 = b := by rw [← HBK.out]; exact HTE.out a j hak hjn
                    rw [hy] at y0
                    have j2 : (j : Int) < (n : Int) := by omega
                    clear hul ou ov hx hy
                    go_wp2
                    go_round
                    case rel => exact ⟨j + 1, by omega, by go_num⟩
                    case measure => simp [intOf]; omega
                  · have j2 : ¬ (j : Int) < (n : Int) := by omega
                    clear hul ou hx
                    go_wp2
                    go_round
                    case rel => exact ⟨j + 1, by omega, by go_num⟩
                    case measure => simp [intOf]; omega
                · have j1 : ¬ (j : Int) < (N : Int) := by omega
                  go_wp2
                  go_round
                  case rel => exact ⟨a + 1, by omega, by go_num⟩
                  case measure => simp [intOf]; omega
            · have a1 : ¬ (a : Int) < (k : Int) := by omega
              go_wp2
              go_ret
              exact ⟨rfl, HE.out⟩
end Go.Proofs.Ytkklonldplekcaa
