/- The walk of the law MatrixCodes. -/
import Derived.Test.YtkklonldplekcaaMkC
import Derived.Test.YtkklonldplekcaaMkU
import Derived.Test.YtkklonldplekcaaMxV
namespace Go.Proofs.Ytkklonldplekcaa
open Go.RowKit
theorem van_full (g : Gf.Gen 0x1d) {n r : Nat} {T : List (List UInt8)} {X : List UInt8} (hX : X.length = n) (hd : ∀ i j, i < X.length → j < X.length → X.getD i 0 = X.getD j 0 → i = j) (hT : ∀ i j, i < n → j < n → ent T i j = Mx.pwr 0x1d (X.getD i 0) j) (hr : Mx.Rk 0x1d (ent T) n n r) : r = n :=
  full_of_null g (hr.ext g (M := fun i j => Mx.pwr 0x1d (X.getD i 0) j) fun i j hi hj => (hT i j hi hj).symm) fun x hx => Mx.vander_null g n (fun i => X.getD i 0) (fun i j hi hj e => hd i j (by omega) (by omega) e) x hx
theorem cau_full (g : Gf.Gen 0x1d) {m r nx ny : Nat} {T Q : List (List UInt8)} {X Y : List UInt8} {ps : List Nat} (hX : X.length = nx) (hY : Y.length = ny) (hdx : ∀ i j, i < X.length → j < X.length → X.getD i 0 = X.getD j 0 → i = j) (hdy : ∀ i j, i < Y.length → j < Y.length → Y.getD i 0 = Y.getD j 0 → i = j) (hT : ∀ i j, i < X.length → j < Y.length → Gf.mul 0x1d (X.getD i 0 ^^^ Y.getD j 0) (ent T i j) = 1) (hps : ∀ p ∈ ps, p < nx) (hnd : ps.Nodup) (hm : ps.length = m) (hmy : m ≤ ny) (hQ : ∀ a b, a < m → b < m → ent Q a b = ent T (ps.getD b 0) (ny - 1 - a)) (hr : Mx.Rk 0x1d (ent Q) m m r) : r = m := by
  have hin : ∀ b, b < m → ps.getD b 0 < nx := fun b hb => hps _ (by rw [List.getD_eq_getElem?_getD, List.getElem?_eq_getElem (show b < ps.length by omega)]; exact List.getElem_mem _)
  refine full_of_null g hr fun x hx => Mx.cauchy_null g m (fun a => Y.getD (ny - 1 - a) 0) (fun b => X.getD (ps.getD b 0) 0) (fun i j hi hj e => ?_) (fun i j hi hj e => ?_) (ent Q) (fun a b ha hb => ?_) x hx
  · have := hdy _ _ (by omega) (by omega) e; omega
  · have e1 := hdx _ _ (by have := hin i hi; omega) (by have := hin j hj; omega) e
    rw [List.getD_eq_getElem?_getD, List.getD_eq_getElem?_getD, List.getElem?_eq_getElem (show i < ps.length by omega), List.getElem?_eq_getElem (show j < ps.length by omega)] at e1
    exact (List.getElem_inj hnd).1 e1
  · rw [hQ a b ha hb, UInt8.xor_comm]
    exact hT _ _ (by have := hin b hb; omega) (by omega)
theorem ints_sli {w : World} {v : Value} {ps : List Nat} (h : w.ownsRow 0 3 1 v ps.length (ps.map fun (p : Nat) => .int .i64 (p : Int))) : SlI w v (ps.map fun (p : Nat) => (p : Int)) := by
  have e : ps.map (fun (p : Nat) => Value.int .i64 (p : Int)) = (List.range ps.length).map fun i => Value.int .i64 ((ps.map fun (p : Nat) => (p : Int)).getD i 0) := by
    apply List.ext_getElem
    · simp
    · intro i h1 h2
      simp only [List.length_map] at h1
      simp [h1]
  rw [e] at h
  have := own_sl h
  unfold SlI
  rw [List.length_map]
  exact this
/-- numbers of the call's own -/
def SmS (w wr : World) (v : Value) (ps : List Nat) : Prop := wr.ownsRow 0 3 1 v ps.length (ps.map fun (p : Nat) => .int .i64 (p : Int)) ∧ (∀ k, v.ownBlock = some k → w.heap.size ≤ k) ∧ Below w.heap.size w wr
theorem SmS.more {w wr w1 w2 : World} {v v' : Value} {ps : List Nat} {p : Nat} (h : SmS w wr v ps) (h1 : Below wr.heap.size wr w1) (ho : w2.ownsRow 0 3 1 v' (ps.length + 1) ((ps ++ [p]).map fun (p : Nat) => .int .i64 (p : Int))) (hg : w1.grownBy w2 v.ownBlock) (hn : ∀ k, v'.ownBlock = some k → v.ownBlock = some k ∨ w1.heap.size ≤ k) : SmS w w2 v' (ps ++ [p]) := by
  obtain ⟨_, b, c⟩ := h
  have hs := c.size
  have hs1 := h1.size
  have hb : Below w.heap.size w w1 := below_then c h1
  refine ⟨by rw [List.length_append, List.length_singleton]; exact ho, fun k hk => ?_, hb.grown hg hb.size b⟩
  rcases hn k hk with e | e
  · exact b k e
  · omega
/-- numbers below n, each once, at most m of them -/
def SmP (n m : Nat) (ps : List Nat) : Prop := (∀ p ∈ ps, p < n) ∧ ps.Nodup ∧ ps.length ≤ m
theorem SmP.snoc {n m p : Nat} {ps : List Nat} (h : SmP n m ps) (hp : p < n) (hnot : p ∉ ps) (hl : ps.length < m) : SmP n m (ps ++ [p]) := by
  refine ⟨fun x hx => ?_, ?_, by rw [List.length_append, List.length_singleton]; omega⟩
  · rcases List.mem_append.1 hx with e | e
    · exact h.1 x e
    · rw [List.mem_singleton.1 e]; exact hp
  · rw [List.nodup_append]
    refine ⟨h.2.1, by simp, fun a ha b hb e => ?_⟩
    rw [List.mem_singleton.1 hb] at e
    subst e
    exact hnot ha
set_option maxRecDepth 100000 in
set_option maxHeartbeats 32000000 in
theorem MatrixCodes_walk (W : World) (u0 u1 u2 : Value) (C0 C1 : List UInt8) (pk : List Int) (h0 : SlB W u0 C0) (h1 : SlB W u1 C1) (h2 : SlI W u2 pk) (hpk : ∀ x ∈ pk, -9223372036854775808 ≤ x ∧ x ≤ 9223372036854775807) (hl0 : C0.length ≤ 140737488351232) (hl1 : C1.length ≤ 140737488351232) (hl2 : pk.length ≤ 9223372036854775807) :
    Calls Try.prog 8 #[u0, u1, u2] W fun e w' => e = .returned (.bool true) ∧ Below W.heap.size W w' := by
  obtain ⟨A0, k0, rfl⟩ := h0.form
  obtain ⟨A1, k1, rfl⟩ := h1.form
  obtain ⟨A2, k2, rfl⟩ := h2.form
  have HX0 := hid h0
  have HX1 := hid h1
  have HX2 := hid h2
  have HPK := hid hpk
  have HLIT : Hid (OwnB (W.alloc (.cells #[.int .u8 7] 5 (0, 0))) W.heap.size (.slice (some ⟨W.heap.size, 0, none⟩) 1 1) [7]) := hid (by
    rcases litB W [7] with h | h
    · exact h
    · exact absurd h (by unfold maxLen; simp))
  clear h0 h1 h2 hpk
  go_enter Try.func8, Try.ntmps8
  go_wp2_with (at_builtin; refine wpList_appB rfl (.tmp 29) (.tmp 30) rfl W.heap.size _ _ [7] C0 rfl rfl HLIT.out (by exact HX0.out.below ((Below.refl _ _).alloc (Nat.le_refl _) _)) (by simp only [List.length_singleton]; omega) (by simp) ?_; intro v1 w1 ho1 hg1; have HB1 := hid (OwnB.grown ((Below.refl W.heap.size W).alloc (Nat.le_refl _) _) HLIT.out (Nat.le_refl _) (by simp) hg1); have HO1 := hid ho1; clear ho1 hg1)
  have CU := hid (unlike_any w1 v1 (.slice none 0 0) ([7] ++ C0) [] HO1.out.sl (Sl.nil _ _) 8 (by decide) (by rw [List.length_append, List.length_singleton]; omega) (by simp))
  refine CU.out.mono ?_
  rintro e w2 ⟨vx, rfl, ho, hb⟩
  obtain ⟨X, hX⟩ : ∃ X, unlT [] 8 ([7] ++ C0) ([7] ++ C0).length = X := ⟨_, rfl⟩
  have hx1 := unlT_ok [] 8 ([7] ++ C0) ([7] ++ C0).length
  have hx2 := unlT_pos 8 (by decide) ([7] ++ C0) ([7] ++ C0).length (by simp)
  rw [hX] at ho hx1 hx2
  obtain ⟨nx, hnx⟩ : ∃ nx, X.length = nx := ⟨_, rfl⟩
  obtain ⟨Ax, cx, rfl⟩ := own_word ho hnx
  have HXS := hid ho.sl
  have HXU := hid hx1
  have HNX := hid hnx
  have hx0 : 0 < nx := by omega
  have hx8 : nx ≤ 8 := by have := hx1.1; omega
  have HB2 := hid (below_then HB1.out hb)
  clear ho hb hX hx1 hx2 hnx CU HO1 HB1 HLIT
  go_wp2_with fail
  refine (Std_any w2).mono ?_
  rintro e w3 ⟨fg, rfl, -, hF, hb⟩
  have HFD := hid hF
  have HXS3 := hid (HXS.out.below hb)
  have HB3 := hid (below_then HB2.out hb)
  clear hF hb HB2
  go_wp2_with fail
  refine (Vandermonde_any w3 fg 0x1d HFD.out _ X HXS3.out (by rw [HNX.out]; omega) nx (by omega)).mono ?_
  rintro e w4 ⟨m, T, rfl, hm, hl, he, hb⟩
  have HM := hid hm
  have HTL := hid (hl.trans HNX.out)
  have HTE := hid he
  have HG := hid HFD.out.gen
  have HXS4 := hid (HXS3.out.below hb)
  have HB4 := hid (below_then HB3.out hb)
  clear hm hl he hb HB3 HXS3 HXS HFD
  go_wp2_with fail
  refine (Rank_any w4 m 0x1d T nx HM.out).mono ?_
  rintro e w5 ⟨k, rfl, hk, hb⟩
  rw [HTL.out] at hk
  obtain rfl : k = nx := van_full HG.out HNX.out HXU.out.2.1 (fun i j hi hj => HTE.out i j (by rw [HNX.out]; exact hi) hj) hk
  have HM5 := hid (HM.out.below hb)
  have HXS5 := hid (HXS4.out.below hb)
  have HB5 := hid (below_then HB4.out hb)
  clear hk hb HB4 HXS4 HM
  go_wp2_with fail
  refine (Invert_any w5 m 0x1d T k HM5.out HTL.out (by omega)).mono ?_
  rintro e w6 ⟨hb, ⟨k', hlt, hk, _⟩ | ⟨mi, Ti, rfl, _⟩⟩
  · exact absurd (van_full HG.out HNX.out HXU.out.2.1 (fun i j hi hj => HTE.out i j (by rw [HNX.out]; exact hi) hj) hk) (by omega)
  have HXS6 := hid (HXS5.out.below hb)
  have HB6 := hid (below_then HB5.out hb)
  clear hb HM5 HTE HTL HB5 HXS5
  have CU := hid (unlike_any w6 (.slice A1 C1.length k1) _ C1 X (HX1.out.below HB6.out) HXS6.out 8 (by decide) (by omega) (by rw [HNX.out]; omega))
  go_wp2_with fail
  refine CU.out.mono ?_
  rintro e w7 ⟨vy, rfl, ho, hb⟩
  obtain ⟨Y, hY⟩ : ∃ Y, unlT X 8 C1 C1.length = Y := ⟨_, rfl⟩
  have hy1 := unlT_ok X 8 C1 C1.length
  rw [hY] at ho hy1
  obtain ⟨ny, hny⟩ : ∃ ny, Y.length = ny := ⟨_, rfl⟩
  obtain ⟨Ay, cy, rfl⟩ := own_word ho hny
  have HYS := hid ho.sl
  have HYU := hid hy1
  have HNY := hid hny
  have hy8 : ny ≤ 8 := by have := hy1.1; omega
  have HXS7 := hid (HXS6.out.below hb)
  have HB7 := hid (below_then HB6.out hb)
  clear ho hb hY hy1 hny CU HB6 HXS6
  by_cases hy0 : ny = 0
  · subst hy0
    go_wp2_with fail
    refine (taken_any w7).mono ?_
    rintro e wz ⟨rfl, hb⟩
    have HE := hid (below_then HB7.out hb)
    clear hb
    go_wp2
    go_ret
    exact ⟨by simp, HE.out⟩
  have hy1 : 0 < ny := by omega
  have hyz : ((ny : Int) == 0) = false := by rw [beq_eq_false_iff_ne]; omega
  have hyz2 : (ny == 0) = false := by rw [beq_eq_false_iff_ne]; omega
  clear hy0
  go_wp2_with fail
  refine (Std_any w7).mono ?_
  rintro e w8 ⟨fg, rfl, -, hF, hb⟩
  have HFD := hid hF
  have HXS8 := hid (HXS7.out.below hb)
  have HYS8 := hid (HYS.out.below hb)
  have HB8 := hid (below_then HB7.out hb)
  clear hF hb HB7 HXS7 HYS
  have CC := hid (Cauchy_any w8 fg 0x1d HFD.out _ _ X Y HXS8.out HYS8.out (by rw [HNX.out]; omega) (by rw [HNY.out]; omega) (fun i j hi hj e => HYU.out.2.2 j hj (by rw [← e]; exact getD_mem_ hi)))
  clear hyz hyz2
  go_wp2_with fail
  refine CC.out.mono ?_
  rintro e w9 ⟨mc, TC, rfl, hm, hl, he, hb⟩
  rw [HNY.out] at hm
  have HMC := hid hm
  have HTL := hid (hl.trans HNX.out)
  have HTE := hid he
  have HB9 := hid (below_then HB8.out hb)
  obtain ⟨mn, hmn⟩ : ∃ mn, min k ny = mn := ⟨_, rfl⟩
  have HMN : Hid (mn ≤ ny ∧ mn ≤ 8) := hid (by omega)
  have HMIN : Hid ((if ny < k then (ny : Int) else (k : Int)) = (mn : Int)) := hid (by split <;> omega)
  clear hm hl he hb hmn HB8 HXS8 HYS8 CC HFD
  go_wp2
  go_loopw [14, 16, 17, 18, 20, 73] (fun v _ _ _ _ x wr => ∃ (i : Nat) (ps : List Nat), i ≤ pk.length ∧ x = .int .i64 i ∧ SmS w9 wr v ps ∧ SmP k mn ps) (fun _ _ _ _ _ x _ => pk.length - (intOf x).toNat)
  case atStart => exact ⟨0, [], Nat.zero_le _, rfl, ⟨World.ownsRow_nil _ _ _ _, (fun k hk => by cases hk), Below.refl _ _⟩, (fun p hp => by cases hp), List.nodup_nil, Nat.zero_le _⟩
  case round =>
    obtain ⟨i, ps, hi, rfl, hs, hsp⟩ := hrel
    obtain ⟨Av, cv, rfl⟩ := own_form hs.1
    have HS := hid hs
    have HSP := hid hsp
    have hps8 : ps.length ≤ 8 := by have := hsp.2.2; have := HMN.out.2; omega
    by_cases hlt : i < pk.length
    · obtain ⟨bp, op, rfl, hcell⟩ := ((HX2.out.below HB9.out).below hs.2.2).cells (by omega)
      have x0 := hcell i hlt
      have hr := HPK.out (pk.getD i 0) (by rw [List.getD_eq_getElem?_getD, List.getElem?_eq_getElem hlt]; exact List.getElem_mem hlt)
      generalize pk.getD i 0 = x at x0 hr
      obtain ⟨hr0, hr1⟩ := hr
      have t1 := Int.tmod_lt_of_pos x (show (0 : Int) < (k : Int) by omega)
      have t2 := Int.lt_tmod_of_pos x (show (0 : Int) < (k : Int) by omega)
      obtain ⟨kk, hkk⟩ : ∃ kk : Nat, x.tmod (k : Int) % (k : Int) = (kk : Int) := ⟨(x.tmod (k : Int) % (k : Int)).toNat, by
        have := Int.emod_nonneg (x.tmod (k : Int)) (show (k : Int) ≠ 0 by omega); omega⟩
      have HKK : Hid (kk < k) := hid (by have := Int.emod_lt_of_pos (x.tmod (k : Int)) (show (0 : Int) < (k : Int) by omega); omega)
      have i0 : (0 : Int) ≤ (i : Int) := by omega
      have i1 : (i : Int) < (pk.length : Int) := by omega
      have i2 : (pk.length : Int) ≤ 9223372036854775807 := by omega
      clear hs hsp hcell
      have HKE := hid hkk
      clear hkk
      go_wp2
      rw [show (x.tmod (k : Int) + (k : Int)) % (k : Int) = (kk : Int) by rw [Int.add_emod_right]; exact HKE.out]
      clear x0 t1 t2
      go_loop [18, 20, 89] (fun t _ y => ∃ (j : Nat) (th : Bool), j ≤ ps.length ∧ t = .bool th ∧ y = .int .i64 j ∧ (th = true ↔ kk ∈ ps.take j)) (fun _ _ y => ps.length - (intOf y).toNat)
      case atStart => exact ⟨0, false, Nat.zero_le _, rfl, rfl, by simp⟩
      case round =>
        obtain ⟨j, th, hj, rfl, rfl, hth⟩ := hrel
        have HTH := hid hth
        clear hth
        by_cases hjl : j < ps.length
        · obtain ⟨g, cg, e, hcj⟩ := own_at HS.out.1 j hjl
          injection e with e1 e3 e2
          subst e1 e2
          clear e3
          obtain ⟨p, hp⟩ : ∃ p, ps[j] = p := ⟨_, rfl⟩
          have y0 : wr.cell? ⟨g, j, none⟩ = some (.int .i64 (p : Int)) := by rw [hcj]; simp [hjl, hp]
          have HN : Hid (kk ∈ ps.take (j + 1) ↔ kk ∈ ps.take j ∨ kk = p) := hid (by
            rw [List.take_succ_eq_append_getElem hjl, List.mem_append, List.mem_singleton, hp])
          have j0 : (0 : Int) ≤ (j : Int) := by omega
          have j1 : (j : Int) < (ps.length : Int) := by omega
          clear hp hcj
          by_cases hxy : p = kk
          · subst hxy
            have R : Hid (true = true ↔ p ∈ ps.take (j + 1)) := hid ⟨fun _ => HN.out.2 (.inr rfl), fun _ => rfl⟩
            cases th
            all_goals
              go_wp2
              go_round
              case rel => exact ⟨j + 1, true, by omega, rfl, by go_num, R.out⟩
              case measure => simp [intOf]; omega
          · have hne : ((p : Int) == (kk : Int)) = false := by rw [beq_eq_false_iff_ne]; omega
            have hne2 : (p == kk) = false := by rw [beq_eq_false_iff_ne]; exact hxy
            have R : Hid (th = true ↔ kk ∈ ps.take (j + 1)) := hid (HTH.out.trans ⟨fun h => HN.out.2 (.inl h), fun h => (HN.out.1 h).elim id fun e => absurd e.symm hxy⟩)
            clear hxy
            cases th
            all_goals
              go_wp2
              go_round
              case rel => exact ⟨j + 1, _, by omega, rfl, by go_num, R.out⟩
              case measure => simp [intOf]; omega
        · obtain rfl : j = ps.length := by omega
          have HTH2 : Hid (th = true ↔ kk ∈ ps) := hid (by have := HTH.out; rw [List.take_length] at this; exact this)
          have hmin := HMIN.out
          clear HTH
          by_cases hmo : ps.length < mn
          · have m1 : (ps.length : Int) < (mn : Int) := by omega
            cases th
            · have R2 : Hid (SmP k mn (ps ++ [kk])) := hid (HSP.out.snoc HKK.out (fun e => absurd (HTH2.out.2 e) (by simp)) hmo)
              have hps12 : ps.length ≤ 1099511627776 := by omega
              go_wp2_with (at_builtin; refine wpList_appI rfl (.tmp 112) (.tmp 114) rfl (.slice Av ps.length cv) ps kk wr.heap.size 3 rfl rfl (World.ownsRow.alloc HS.out.1 _) (heap_alloc_new _ _) hps12 ?_; intro g9 cap9 wq ho9 hg9 hn9; have R := hid (HS.out.more ((Below.refl wr.heap.size wr).alloc (Nat.le_refl _) (.cells #[.int .i64 (kk : Int)] 3 (0, 0))) ho9 hg9 hn9); clear ho9 hg9 hn9)
              go_roundw
              case rel => exact ⟨i + 1, _, by omega, by go_num, R.out, R2.out⟩
              case measure => simp [intOf]; omega
            · go_wp2
              go_roundw
              case rel => exact ⟨i + 1, _, by omega, by go_num, HS.out, HSP.out⟩
              case measure => simp [intOf]; omega
          · have m1 : ¬ (ps.length : Int) < (mn : Int) := by omega
            cases th
            all_goals
              go_wp2
              go_roundw
              case rel => exact ⟨i + 1, _, by omega, by go_num, HS.out, HSP.out⟩
              case measure => simp [intOf]; omega
    · obtain rfl : i = pk.length := by omega
      have HB10 := hid (below_then HB9.out hs.2.2)
      clear hs hsp
      by_cases hz : ps = []
      · subst hz
        go_wp2_with fail
        refine (taken_any wr).mono ?_
        rintro e wz ⟨rfl, hb⟩
        have HE := hid (below_then HB10.out hb)
        clear hb
        go_wp2
        go_ret
        exact ⟨by simp, HE.out⟩
      have hz1 : ((ps.length : Int) == 0) = false := by rw [beq_eq_false_iff_ne]; have := List.length_pos_iff.2 hz; omega
      have hz2 : (ps.length == 0) = false := by rw [beq_eq_false_iff_ne]; have := List.length_pos_iff.2 hz; omega
      have hpp : 0 < ps.length := List.length_pos_iff.2 hz
      have HPL : Hid ((ps.map fun (p : Nat) => (p : Int)).length = ps.length) := hid (by simp)
      clear hz
      have CP := hid (Pick_ok wr mc 0x1d TC ny (HMC.out.below HS.out.2.2) (.slice Av ps.length cv) (ps.map fun (p : Nat) => (p : Int)) (ints_sli HS.out.1) (by rw [HPL.out]; omega) (by rw [HPL.out]; omega) (fun i hi => by
        rw [HPL.out] at hi
        have := HSP.out.1 ps[i] (List.getElem_mem hi)
        have := HTL.out
        simp [hi]
        omega))
      go_wp2_with fail
      clear hz1 hz2
      refine CP.out.mono ?_
      rintro e w11 ⟨mp, P, rfl, hm, hl, he, hb⟩
      rw [HPL.out] at hl he
      have HMP := hid hm
      have HLP := hid hl
      have HEP : Hid (∀ a j, a < ps.length → ent P a j = ent TC (ps.getD a 0) j) := hid fun a j ha => by
        unfold ent
        rw [he a ha]
        simp [ha]
      have HB11 := hid (below_then HB10.out hb)
      obtain ⟨mm, hmm⟩ : ∃ mm, ps.length = mm := ⟨_, rfl⟩
      rw [hmm] at hpp hps8 HLP HEP
      have HMM := hid hmm
      have hmy : mm ≤ ny := by have := HSP.out.2.2; have := HMN.out.1; omega
      rw [hmm]
      clear hm hl he hb CP hmm HB10
      go_wp2
      go_loopw [23, 24, 137] (fun v _ x wr => ∃ (j : Nat), j ≤ mm ∧ x = .int .i64 j ∧ SmS w11 wr v ((List.range j).map fun t => ny - 1 - t)) (fun _ _ x _ => mm - (intOf x).toNat)
      case atStart => exact ⟨0, Nat.zero_le _, rfl, World.ownsRow_nil _ _ _ _, (fun k hk => by cases hk), Below.refl _ _⟩
      case round =>
        obtain ⟨j, hj, rfl, hs⟩ := hrel
        obtain ⟨ls, hls⟩ : ∃ ls, (List.range j).map (fun t => ny - 1 - t) = ls := ⟨_, rfl⟩
        have hll : ls.length = j := by rw [← hls]; simp
        rw [hls] at hs
        obtain ⟨Aw, cw, rfl⟩ := own_form hs.1
        have HS2 := hid hs
        have HLS := hid hls
        have HLL := hid hll
        clear hs hls hll
        by_cases hjm : j < mm
        · obtain ⟨p, hp⟩ : ∃ p, ny - 1 - j = p := ⟨_, rfl⟩
          have hpi : (ny : Int) - 1 - (j : Int) = (p : Int) := by omega
          have HP : Hid ((List.range (j + 1)).map (fun t => ny - 1 - t) = ls ++ [p]) := hid (by rw [List.range_succ, List.map_append, HLS.out]; simp [hp])
          have hl12 : ls.length ≤ 1099511627776 := by have := HLL.out; omega
          have j1 : (j : Int) < (mm : Int) := by omega
          clear hp
          go_wp2_with (at_builtin; refine wpList_appI rfl (.tmp 140) (.tmp 146) rfl (.slice Aw ls.length cw) ls p wr.heap.size 3 rfl rfl (World.ownsRow.alloc HS2.out.1 _) (heap_alloc_new _ _) hl12 ?_; intro g9 cap9 wq ho9 hg9 hn9; have R := hid (HS2.out.more ((Below.refl wr.heap.size wr).alloc (Nat.le_refl _) (.cells #[.int .i64 (p : Int)] 3 (0, 0))) ho9 hg9 hn9); clear ho9 hg9 hn9)
          go_roundw
          case rel => exact ⟨j + 1, by omega, by go_num, by rw [HP.out]; exact R.out⟩
          case measure => simp [intOf]; omega
        · obtain rfl : j = mm := by omega
          have HB12 := hid (below_then HB11.out HS2.out.2.2)
          go_wp2_with fail
          refine (Transpose_any wr mp 0x1d P ny (HMP.out.below HS2.out.2.2)).mono ?_
          rintro e w13 ⟨mt, PT, rfl, hm, hl, he, hb⟩
          rw [HLP.out] at hm he
          have HMT := hid hm
          have HLT := hid hl
          have HET := hid he
          have HB13 := hid (below_then HB12.out hb)
          have HPL2 : Hid ((ls.map fun (p : Nat) => (p : Int)).length = j) := hid (by rw [List.length_map]; exact HLL.out)
          have CP := hid (Pick_ok w13 mt 0x1d PT j HMT.out (.slice Aw ls.length cw) (ls.map fun (p : Nat) => (p : Int)) ((ints_sli HS2.out.1).below hb) (by rw [HPL2.out]; omega) (by rw [HPL2.out]; omega) (fun i hi => by
            rw [HPL2.out] at hi
            rw [← HLS.out, HLT.out]
            simp [hi]
            omega))
          clear hm hl he hb HB12
          go_wp2_with fail
          refine CP.out.mono ?_
          rintro e w14 ⟨mq, Q, rfl, hm, hl, he, hb⟩
          rw [HPL2.out] at hl he
          have HMQ := hid hm
          have HLQ := hid hl
          have HEQ : Hid (∀ a b, a < j → b < j → ent Q a b = ent TC (ps.getD b 0) (ny - 1 - a)) := hid fun a b ha hb => by
            have e1 : ent Q a b = ent PT (ny - 1 - a) b := by
              unfold ent
              rw [he a ha, ← HLS.out]
              simp [ha]
            rw [e1, HET.out _ _ (by omega) hb, HEP.out b _ hb]
          have HB14 := hid (below_then HB13.out hb)
          have HFULL : Hid (∀ r, Mx.Rk 0x1d (ent Q) j j r → r = j) := hid fun r hr => cau_full HG.out HNX.out HNY.out HXU.out.2.1 HYU.out.2.1 HTE.out HSP.out.1 HSP.out.2.1 HMM.out hmy HEQ.out hr
          clear hm hl he hb CP HB13 HMT HET HMP
          go_wp2_with fail
          refine (Invert_any w14 mq 0x1d Q j HMQ.out HLQ.out (by omega)).mono ?_
          rintro e w15 ⟨hb, ⟨k', hlt2, hk, _⟩ | ⟨mi2, Ti2, rfl, _⟩⟩
          · exact absurd (HFULL.out k' hk) (by omega)
          have HMQ2 := hid (HMQ.out.below hb)
          have HB15 := hid (below_then HB14.out hb)
          clear hb HMQ HB14
          go_wp2_with fail
          refine (Rank_any w15 mq 0x1d Q j HMQ2.out).mono ?_
          rintro e w16 ⟨r, rfl, hr, hb⟩
          rw [HLQ.out] at hr
          obtain rfl := HFULL.out r hr
          have HB16 := hid (below_then HB15.out hb)
          clear hr hb HB15 HMQ2
          go_wp2_with fail
          refine (taken_any w16).mono ?_
          rintro e wz ⟨rfl, hb⟩
          have HE := hid (below_then HB16.out hb)
          clear hb
          go_wp2
          go_ret
          exact ⟨by simp, HE.out⟩
end Go.Proofs.Ytkklonldplekcaa
