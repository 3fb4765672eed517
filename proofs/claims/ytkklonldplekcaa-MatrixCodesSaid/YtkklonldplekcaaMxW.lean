/- The helpers of the matrix laws: wide, beside, solved. -/
import Derived.Test.YtkklonldplekcaaMxV
namespace Go.Proofs.Ytkklonldplekcaa
open Go.RowKit
theorem range_sli {w : World} {v : Value} {n : Nat} (h : w.ownsRow 0 3 1 v n ((List.range n).map fun (p : Nat) => .int .i64 (p : Int))) : SlI w v ((List.range n).map fun (p : Nat) => (p : Int)) := by
  have h1 := own_sl h
  unfold SlI
  rw [show ((List.range n).map fun (p : Nat) => (p : Int)).length = n by simp]
  exact h1.congr fun i hi => by simp [hi]
/-- the first columns -/
def WideE (M : List (List UInt8)) (n : Nat) (w : World) (e : Ending) (w' : World) : Prop := ∃ m' T, e = .returned (.pointer (some ⟨m', 0, none⟩)) ∧ MatAt w' m' 0x1d T n ∧ T.length = M.length ∧ (∀ i j, i < M.length → j < n → ent T i j = ent M i j) ∧ Below w.heap.size w w'
set_option maxRecDepth 100000 in
set_option maxHeartbeats 8000000 in
theorem wide_any (w : World) (m : Nat) (M : List (List UInt8)) (n0 n : Nat) (h : MatAt w m 0x1d M n0) (hn : 0 < n) (hn0 : n ≤ n0) (h256 : n0 ≤ 256) :
    Calls Try.prog 72 #[.pointer (some ⟨m, 0, none⟩), .int .i64 n] w (WideE M n w) := by
  have H := hid h
  clear h
  go_enter Try.func72, Try.ntmps72
  go_wp2
  go_loopw [5, 6, 10] (fun v _ x wr => ∃ k : Nat, k ≤ n ∧ x = .int .i64 k ∧ wr.ownsRow 0 3 1 v k ((List.range k).map fun (p : Nat) => .int .i64 (p : Int)) ∧ Below w.heap.size w wr ∧ ∀ j, v.ownBlock = some j → w.heap.size ≤ j) (fun _ _ x _ => n - (intOf x).toNat)
  case atStart => exact ⟨0, Nat.zero_le _, rfl, World.ownsRow_nil _ _ _ _, Below.refl _ _, fun j hj => by cases hj⟩
  case round =>
    obtain ⟨k, hk, rfl, ho, hb, hob⟩ := hrel
    obtain ⟨A, c, rfl⟩ := own_form ho
    have HO := hid ho
    have HB := hid hb
    have HOB := hid hob
    clear ho hb hob
    by_cases hlt : k < n
    · have i1 : (k : Int) < (n : Int) := by omega
      have HO2 : Hid (World.ownsRow (wr.alloc (.cells #[.int .i64 (k : Int)] 3 (0, 0))) 0 3 1 (.slice A k c) (List.range k).length ((List.range k).map fun (p : Nat) => .int .i64 (p : Int))) := hid (by rw [List.length_range]; exact World.ownsRow.alloc HO.out _)
      go_wp2_with (at_builtin; refine wpList_appI rfl (.tmp 13) (.tmp 15) rfl (.slice A k c) (List.range k) k wr.heap.size 3 rfl rfl HO2.out (heap_alloc_new _ _) (by rw [List.length_range]; omega) ?_; intro g9 cap9 w9 ho9 hg9 hn9; rw [List.length_range, ← List.range_succ] at ho9; rw [List.length_range] at hn9 ⊢; have HO9 := hid ho9; have HBB := hid (told_below HB.out (Below.refl _ _) ((Below.refl _ _).alloc (Nat.le_refl _) (.cells #[.int .i64 (k : Int)] 3 (0, 0))) hg9 HOB.out); have HN9 := hid hn9; clear ho9 hg9 hn9)
      go_roundw
      case rel => exact ⟨k + 1, by omega, by go_num, HO9.out, HBB.out.1, HBB.out.2 _ trivial HN9.out⟩
      case measure => simp [intOf]; omega
    · obtain rfl : n = k := by omega
      go_wp2_with fail
      refine (Transpose_any wr m 0x1d M n0 (H.out.below HB.out)).mono ?_
      rintro e w3 ⟨mt, T, rfl, hm, hl, he, hb⟩
      have HM := hid hm
      have HL := hid hl
      have HE := hid he
      have HB3 := hid (below_then HB.out hb)
      have HS := hid ((range_sli HO.out).below hb)
      have hps : (List.map (fun (p : Nat) => (p : Int)) (List.range n)).length = n := by simp
      have CP := hid (Pick_ok w3 mt 0x1d T M.length HM.out (.slice A n c) _ HS.out (by rw [hps]; omega) (by rw [hps]; omega) (fun i hi => by rw [hps] at hi; rw [HL.out]; simp [hi]; omega))
      have HPS := hid hps
      clear hm hl he hb hps
      go_wp2_with fail
      refine CP.out.mono ?_
      rintro e w4 ⟨mp, P, rfl, hm, hl, he, hb⟩
      rw [HPS.out] at hl he
      have HM4 := hid hm
      have HL4 := hid hl
      have HE4 : Hid (∀ i j, i < n → ent P i j = ent T i j) := hid fun i j hi => by
        unfold ent
        rw [he i hi]
        simp [hi]
      have HB4 := hid (below_then HB3.out hb)
      clear hm hl he hb CP
      go_wp2_with fail
      refine (Transpose_any w4 mp 0x1d P M.length HM4.out).mono ?_
      rintro e w5 ⟨mq, Q, rfl, hm, hl, he, hb⟩
      rw [HL4.out] at hm he
      have HR : Hid (WideE M n w (.returned (.pointer (some ⟨mq, 0, none⟩))) w5) := hid ⟨mq, Q, rfl, hm, hl, fun i j hi hj => by rw [he i j hi hj, HE4.out j i hj, HE.out j i (by omega) hi], below_then HB4.out hb⟩
      clear hm hl he hb
      go_wp2
      go_ret
      exact HR.out
/-- a column more -/
def BesideE (M : List (List UInt8)) (n : Nat) (X : List UInt8) (w : World) (e : Ending) (w' : World) : Prop := ∃ m' T, e = .returned (.pointer (some ⟨m', 0, none⟩)) ∧ MatAt w' m' 0x1d T (n + 1) ∧ T.length = M.length ∧ (∀ a j, a < M.length → j < n + 1 → ent T a j = Mx.withCol n (ent M) (fun i => X.getD i 0) a j) ∧ Below w.heap.size w w'
theorem Wid.ents {M T : List (List UInt8)} {X : List UInt8} {n : Nat} (h : Wid M X M.length T) (hn : ∀ i, i < M.length → (M.getD i []).length = n) : (∀ i, i < T.length → (T.getD i []).length = n + 1) ∧ ∀ a j, a < M.length → j < n + 1 → ent T a j = Mx.withCol n (ent M) (fun i => X.getD i 0) a j := by
  refine ⟨fun i hi => ?_, fun a j ha hj => ?_⟩
  · have h1 := h.1
    rw [h.2 i (by omega), if_pos (by omega), List.length_append, hn i (by omega)]; rfl
  · unfold ent Mx.withCol
    rw [h.2 a ha, if_pos ha]
    have hl := hn a ha
    by_cases h1 : j < n
    · rw [if_pos h1, List.getD_eq_getElem?_getD, List.getElem?_append_left (by omega), ← List.getD_eq_getElem?_getD]
    · rw [if_neg h1, List.getD_eq_getElem?_getD, List.getElem?_append_right (by omega), show j - (M.getD a []).length = 0 by omega]; rfl
set_option maxRecDepth 100000 in
set_option maxHeartbeats 8000000 in
theorem beside_any (w : World) (m : Nat) (M : List (List UInt8)) (n : Nat) (h : MatAt w m 0x1d M n) (hn256 : n < 256 ∧ M.length ≤ 256) (u : Value) (X : List UInt8) (hu : SlB w u X) (hx : X.length = M.length) :
    Calls Try.prog 29 #[.pointer (some ⟨m, 0, none⟩), u] w (BesideE M n X w) := by
  have H := hid h
  obtain ⟨Au, cu, rfl⟩ := hu.form
  have HU := hid hu
  have CB := hid (Rows_any w.heap.size w w [] (Fam.start w) m 0x1d M n h)
  have HX := hid hx
  obtain ⟨hp1, hp2⟩ := h.pos
  obtain ⟨hn1, hn2⟩ := hn256
  clear h hu hx
  go_enter Try.func29, Try.ntmps29
  go_wp2_with fail
  refine CB.out.mono ?_
  rintro e w3 ⟨v3, rfl, R1, r1, vs, rfl, hvl, hf1⟩
  rw [List.take_length] at hf1
  have HF1 := hid hf1
  have HVL := hid hvl
  clear hf1 hvl CB
  go_wp2
  go_loopw [6, 13] (fun _ x wr => ∃ (k : Nat) (vs : List Value) (T : List (List UInt8)), k ≤ M.length ∧ x = .int .i64 k ∧ Wid M X k T ∧ vs.length = M.length ∧ Fam w.heap.size w wr ([] ++ gridT (.slice (some ⟨R1, 0, none⟩) M.length r1) vs T)) (fun _ x _ => M.length - (intOf x).toNat)
  case atStart => exact ⟨0, vs, M, Nat.zero_le _, rfl, ⟨rfl, fun a _ => by rw [if_neg (by omega)]⟩, HVL.out, HF1.out⟩
  case round =>
    clear HF1 HVL vs
    obtain ⟨k, vs, T, hk, rfl, hT, hvl, hf⟩ := hrel
    have HT := hid hT
    have HVL := hid hvl
    have HF := hid hf
    have HTL : Hid (T.length = M.length) := hid hT.1
    clear hT hvl hf
    by_cases hlt : k < M.length
    · obtain ⟨vk, hvk⟩ : ∃ vk, vs.getD k (.slice none 0 0) = vk := ⟨_, rfl⟩
      obtain ⟨L, hL⟩ : ∃ L, T.getD k [] = L := ⟨_, rfl⟩
      obtain ⟨y0, f0⟩ := HF.out.gridVal HTL.out.symm (by rw [HVL.out, HTL.out]) k (by have := HTL.out; omega)
      have oi := HF.out.gridOwn (by rw [HVL.out, HTL.out]) k (by have := HTL.out; omega)
      rw [hvk] at y0 oi
      rw [hL] at oi
      obtain ⟨Av, cv, rfl⟩ := oi.form
      obtain ⟨bu, ou, rfl, hbytes⟩ := (HU.out.below HF.out.base).cells (by have := HX.out; omega)
      have x0 := hbytes k (by have := HX.out; omega)
      obtain ⟨b, hb⟩ : ∃ b, X.getD k 0 = b := ⟨_, rfl⟩
      rw [hb] at x0
      have HVK := hid hvk
      have HL := hid hL
      have HBV := hid hb
      have HO := hid oi
      have HLN : Hid (L.length ≤ 1000) := hid (by rw [← hL, HT.out.2 k hlt, if_neg (by omega), H.out.len k hlt]; omega)
      have i0 : (0 : Int) ≤ (k : Int) := by omega
      have i1 : (k : Int) < (M.length : Int) := by omega
      have i2 : (k : Int) < (X.length : Int) := by have := HX.out; omega
      have i3 : k < X.length := by have := HX.out; omega
      have y1 : ∀ ob, (wr.alloc ob).cell? ⟨R1, k, none⟩ = some (.slice Av L.length cv) := fun ob => (((Below.refl wr.heap.size wr).alloc (Nat.le_refl _) ob).cell (World.block_lt_of_cell? wr _ y0)).trans y0
      clear hvk hL hb oi hbytes
      go_wp2
      go_region_law ((refine step_appU (by rfl) (.tmp 25) (.tmp 30) (by rfl) (.slice Av L.length cv) L b wr.heap.size 5 (by rfl) (by rfl) (HO.out.alloc _).drew (heap_alloc_new wr _) (by have := HLN.out; omega) ?_; intro g9 cap9 w9 ho9 hg9 hn9; have HO9 := hid ho9; have HG9 := hid hg9; have HN9 := hid hn9; obtain ⟨c9, f9⟩ := (HF.out.below (((Below.refl wr.heap.size wr).alloc (Nat.le_refl _) _).drew)).gridGrowAt HTL.out.symm (by rw [HVL.out, HTL.out]) (by have := HTL.out; omega) HVK.out ho9 hg9 hn9; clear ho9 hg9 hn9))
      all_goals
        have R1' := hid ((HF.out.below (((Below.refl wr.heap.size wr).alloc (Nat.le_refl _) (.cells #[B b] 5 (0, 0))).drew)).gridGrow HTL.out.symm (by rw [HVL.out, HTL.out]) (show k < T.length by have := HTL.out; omega) HVK.out HO9.out HG9.out HN9.out)
        have R2' : Hid (Wid M X (k + 1) (T.set k (L ++ [b]))) := hid (by have := HT.out.next hlt; rw [HL.out, HBV.out] at this; exact this)
        clear c9 f9 y0 y1 x0 f0
        go_wp2
        go_roundw
        case rel => exact ⟨k + 1, _, _, by omega, by go_num, R2'.out, by rw [List.length_set]; exact HVL.out, R1'.out⟩
        case measure => simp [intOf]; omega
    · obtain rfl : k = M.length := by omega
      have HEN := hid (HT.out.ents (fun i hi => H.out.len i hi))
      have HSL := hid (HF.out.slBB HTL.out.symm (by rw [HVL.out, HTL.out]))
      have HB := hid HF.out.base
      clear HF HVL
      go_wp2_with fail
      refine (Std_any wr).mono ?_
      rintro e w5 ⟨fg, rfl, -, hF, hb5⟩
      have CN := hid (New_any w5 fg 0x1d hF (.slice (some ⟨R1, 0, none⟩) M.length r1) T (n + 1) (HSL.out.below hb5) ⟨by have := HTL.out; omega, by have := HTL.out; omega⟩ HEN.out.1 ⟨by omega, by omega⟩)
      have HB5 := hid hb5
      clear hF hb5
      go_wp2_with fail
      refine CN.out.mono ?_
      rintro e w6 ⟨m', rfl, hm, hb6⟩
      have HE : Hid (BesideE M n X w (.returned (.pointer (some ⟨m', 0, none⟩))) w6) := hid ⟨m', T, rfl, hm, HTL.out, HEN.out.2, below_then (below_then HB.out HB5.out) hb6⟩
      clear CN hm hb6
      go_wp2
      go_ret
      exact HE.out
set_option maxRecDepth 100000 in
set_option maxHeartbeats 8000000 in
theorem solved_any (w : World) (m : Nat) (M : List (List UInt8)) (n : Nat) (h : MatAt w m 0x1d M n) (g : Gf.Gen 0x1d) (h256 : n ≤ 256) (u : Value) (X : List UInt8) (hu : SlB w u X) (hx : X.length = n) (t : Value) (Y : List UInt8) (ht : SlB w t Y) (hY : Y.length = M.length ∧ ∀ i, i < M.length → Y.getD i 0 = Mx.ap 0x1d (ent M) n (fun j => X.getD j 0) i) (hz : ∀ j, j < n → Mx.Free 0x1d (ent M) M.length n j → X.getD j 0 = 0) :
    Calls Try.prog 30 #[.pointer (some ⟨m, 0, none⟩), u, t] w fun e w' => e = .returned (.bool true) ∧ Below w.heap.size w w' := by
  have H := hid h
  have HU := hid hu
  have HT := hid ht
  have HY := hid hY
  have HZ := hid hz
  have HG := hid g
  have HX := hid hx
  obtain ⟨Au, cu, rfl⟩ := hu.form
  obtain ⟨At, ct, rfl⟩ := ht.form
  clear h hu ht hY hz g hx
  go_enter Try.func30, Try.ntmps30
  go_wp2_with fail
  refine (Apply_any w m 0x1d M n H.out _ X HU.out HX.out).mono ?_
  rintro e w3 ⟨v, Y', rfl, ho, hl, he, hb⟩
  have e1 : Y' = Y := by
    apply List.ext_getElem (by have := HY.out.1; omega)
    intro i h1 h2
    have h3 := he i (by omega)
    rw [← HY.out.2 i (by omega), List.getD_eq_getElem?_getD, List.getD_eq_getElem?_getD, List.getElem?_eq_getElem h1, List.getElem?_eq_getElem h2] at h3
    exact h3
  subst e1
  have HV := hid ho.sl
  have HB3 := hid hb
  obtain ⟨Av, cv, rfl⟩ := ho.form
  clear ho hl he hb
  go_wp2_with fail
  refine (sameBytes_yes w3 _ _ Y' HV.out (HT.out.below HB3.out)).mono ?_
  rintro e w3 ⟨rfl, rfl⟩
  go_wp2
  go_loopw [9, 10, 11, 28] (fun ws _ _ x wr => ∃ k p : Nat, k ≤ n ∧ x = .int .i64 k ∧ ws = .int .i64 p ∧ Mx.Rk 0x1d (ent M) M.length k p ∧ Below w.heap.size w wr) (fun _ _ _ x _ => n - (intOf x).toNat)
  case atStart => exact ⟨0, 0, Nat.zero_le _, rfl, rfl, ⟨ent M, [], Mx.Red.start, rfl⟩, HB3.out⟩
  case round =>
    obtain ⟨k, p, hk, rfl, rfl, hr, hb⟩ := hrel
    have HR := hid hr
    have HB := hid hb
    clear hr hb
    have xn : (X.length : Int) = n := by have := HX.out; omega
    by_cases hlt : k < n
    · obtain ⟨bu, ou, rfl, hbytes⟩ := HU.out.cells (by have := HX.out; omega)
      have x0 := hbytes k (by have := HX.out; omega)
      have i0 : (0 : Int) ≤ (k : Int) := by omega
      have i1 : (k : Int) < (X.length : Int) := by omega
      have i2 : (k : Int) < (n : Int) := by omega
      have CW := hid (wide_any wr m M n (k + 1) (H.out.below HB.out) (by omega) (by omega) (by omega))
      rw [show ((k + 1 : Nat) : Int) = (k : Int) + 1 by omega] at CW
      clear hbytes xn
      go_wp2_with fail
      refine CW.out.mono ?_
      rintro e w4 ⟨m', T, rfl, hm, hl, he, hb⟩
      have HM := hid hm
      have HL := hid hl
      have HE := hid he
      have HB4 := hid (below_then HB.out hb)
      clear hm hl he hb CW
      go_wp2_with fail
      refine (Rank_any w4 m' 0x1d T (k + 1) HM.out).mono ?_
      rintro e w5 ⟨p', rfl, hr', hb⟩
      rw [HL.out] at hr'
      have hr2 := hr'.ext HG.out (M := ent M) fun i j hi hj => (HE.out i j hi hj).symm
      have HR2 := hid hr2
      have HB5 := hid (below_then HB4.out hb)
      have x1 : w5.cell? ⟨bu, ou + k, none⟩ = some (B (X.getD k 0)) := (HB5.out.cell (World.block_lt_of_cell? w _ x0)).trans x0
      clear hr' hb x0 HB HB4
      rcases HR.out.next HG.out hr2 with ⟨e1, hf⟩ | ⟨e1, hf⟩
      · have hx0 := HZ.out k hlt ((Mx.free_trunc (show k + 1 ≤ n by omega) (fun _ _ _ _ => rfl) (by omega)).1 hf)
        rw [hx0] at x1
        have x2 : w5.cell? ⟨bu, ou + k, none⟩ = some (.int .u8 0) := x1
        subst e1
        clear x1 hx0 hf hr2
        go_wp2
        go_roundw
        case rel => exact ⟨k + 1, p', by omega, by go_num, rfl, HR2.out, HB5.out⟩
        case measure => simp [intOf]; omega
      · have h1 : ((p' : Int) == (p : Int)) = false := by rw [beq_eq_false_iff_ne]; omega
        have h2 : (p' == p) = false := by rw [beq_eq_false_iff_ne]; omega
        clear x1 hf hr2 e1
        go_wp2
        go_roundw
        case rel => exact ⟨k + 1, p', by omega, by go_num, rfl, HR2.out, HB5.out⟩
        case measure => simp [intOf]; omega
    · have i2 : ¬ (k : Int) < (X.length : Int) := by omega
      go_wp2
      go_ret
      exact ⟨rfl, HB.out⟩
end Go.Proofs.Ytkklonldplekcaa
