/- The walks of package matrix: Invert. -/
import Derived.Test.YtkklonldplekcaaMxP
namespace Go.Proofs.Ytkklonldplekcaa
open Go.RowKit
/-- the rows of M with the unit beside them, up to row k; zeros behind -/
def HalfU (M : List (List UInt8)) (n k : Nat) (T : List (List UInt8)) : Prop := ∀ a b, ent T a b = if a < k ∧ b < n + n then Mx.withUnit n (ent M) a b else 0
theorem half_copy {B : Nat} {w0 w w' : World} {ts : List Thing} {fp : Option Addr} {m R n k : Nat} {vs : List Value} {M T : List (List UInt8)} {v : Value} {K L : List UInt8} (h : MB B w0 w ts fp m R n vs T (n + n)) (hT : HalfU M n k T) (hk : k < n) (hv : vs.getD k (.slice none 0 0) = v) (hL : T.getD k [] = L) (hK : K.length = n) (hM : M.getD k [] = K) (ho : OwnB w' 0 v (K ++ L.drop K.length)) (hf : Fr (fun k => v.ownBlock = some k) w w') : ∃ T', MB B w0 w' ts fp m R n vs T' (n + n) ∧ ∀ a b, ent T' a b = if a = k ∧ b < n then ent M a b else ent T a b := by
  have hr := h.r
  have hLn := h.n k (by omega)
  rw [hL] at hLn
  refine ⟨_, h.putRow hk hv (by rw [List.length_append, List.length_drop]; omega) ho hf, fun a b => ?_⟩
  rw [ent_set T k _ (by omega)]
  show (if a = k then (K ++ L.drop K.length).getD b 0 else ent T a b) = _
  by_cases h1 : a = k
  · subst h1
    rw [if_pos rfl]
    by_cases h2 : b < n
    · rw [if_pos ⟨rfl, h2⟩, List.getD_eq_getElem?_getD, List.getElem?_append_left (by omega), ← List.getD_eq_getElem?_getD, ← hM]; rfl
    · rw [if_neg (fun h => h2 h.2), List.getD_eq_getElem?_getD, List.getElem?_append_right (by omega), List.getElem?_drop, show K.length + (b - K.length) = b by omega, ← List.getD_eq_getElem?_getD, ← hL]; rfl
  · rw [if_neg h1, if_neg (fun h => h1 h.1)]
theorem half_unit {M T T' T2 : List (List UInt8)} {n k : Nat} (hk : k < n) (hT : HalfU M n k T) (h1 : ∀ a b, ent T' a b = if a = k ∧ b < n then ent M a b else ent T a b) (h2 : ent T2 = fun a t => if a = k ∧ t = n + k then 1 else ent T' a t) : HalfU M n (k + 1) T2 := by
  intro a b
  rw [h2]
  show (if a = k ∧ b = n + k then (1 : UInt8) else ent T' a b) = _
  rw [h1, hT]
  unfold Mx.withUnit
  by_cases e : a = k
  · subst e
    by_cases hb : b < n
    · rw [if_neg (by omega), if_pos ⟨rfl, hb⟩, if_pos ⟨by omega, by omega⟩, if_pos hb]
    · rw [if_neg (c := a = a ∧ b < n) (by omega), if_neg (c := a < a ∧ b < n + n) (by omega)]
      by_cases hb2 : b = n + a
      · rw [if_pos ⟨rfl, hb2⟩, if_pos ⟨by omega, by omega⟩, if_neg hb, if_pos hb2]
      · rw [if_neg (by omega), if_neg hb, if_neg hb2]
        split <;> rfl
  · rw [if_neg (c := a = k ∧ b = n + k) (by omega), if_neg (c := a = k ∧ b < n) (by omega)]
    by_cases hak : a < k
    · by_cases hb : b < n + n
      · rw [if_pos (c := a < k ∧ b < n + n) ⟨hak, hb⟩, if_pos (c := a < k + 1 ∧ b < n + n) ⟨Nat.lt_succ_of_lt hak, hb⟩]
      · rw [if_neg (c := a < k ∧ b < n + n) (by omega), if_neg (c := a < k + 1 ∧ b < n + n) (by omega)]
    · rw [if_neg (c := a < k ∧ b < n + n) (by omega), if_neg (c := a < k + 1 ∧ b < n + n) (by omega)]
/-- the rest of a list that is read -/
theorem SlB.tail {w : World} {g n c : Nat} {l : List UInt8} (h : SlB w (.slice (some ⟨g, 0, none⟩) n c) l) (k m : Nat) (hk : k + m = l.length) : SlB w (.slice (some ⟨g, k, none⟩) m (c - k)) (l.drop k) := by
  obtain ⟨A, c', e, h1, h2, h3⟩ := h
  injection e with e1 e2 e3
  subst e1 e2 e3
  have hm : (l.drop k).length = m := by rw [List.length_drop]; omega
  refine ⟨_, _, by rw [hm], by rw [hm]; omega, (fun e => by cases e), fun h0 => ?_⟩
  obtain ⟨b, off, e, hc⟩ := h3 (by omega)
  injection e with e
  injection e with e1 e2
  subst e1 e2
  refine ⟨g, k, rfl, fun i hi => ?_⟩
  have := hc (k + i) (by omega)
  rw [Nat.zero_add] at this
  rw [this]
  show some (B (l.getD (k + i) 0)) = some (B ((l.drop k).getD i 0))
  rw [List.getD_eq_getElem?_getD, List.getD_eq_getElem?_getD, List.getElem?_drop]
theorem MB.rowVal {B : Nat} {w0 w : World} {ts : List Thing} {fp : Option Addr} {m R r N : Nat} {vs : List Value} {M : List (List UInt8)} (h : MB B w0 w ts fp m R r vs M N) {i : Nat} (hi : i < r) {v : Value} (hv : vs.getD i (.slice none 0 0) = v) : w.cell? ⟨m, 1, none⟩ = some (.slice (some ⟨R, 0, none⟩) r r) ∧ w.cell? ⟨R, i, none⟩ = some v := by
  obtain ⟨v', L', e1, _, c, _⟩ := h.row i hi
  rw [hv] at e1
  subst e1
  exact ⟨h.box.2, c⟩
theorem half_right {B : Nat} {w0 w w' : World} {ts : List Thing} {fp : Option Addr} {m R n k : Nat} {vs : List Value} {M T : List (List UInt8)} {v : Value} {K L : List UInt8} (h : MB B w0 w ts fp m R n vs T n) (hT : ∀ a b, ent T a b = if a < k ∧ b < n then ent M a (n + b) else 0) (hk : k < n) (hv : vs.getD k (.slice none 0 0) = v) (hL : L.length = n) (hK : K.length = n) (hM : (M.getD k []).drop n = K) (ho : OwnB w' 0 v (K ++ L.drop K.length)) (hf : Fr (fun k => v.ownBlock = some k) w w') : ∃ T', MB B w0 w' ts fp m R n vs T' n ∧ ∀ a b, ent T' a b = if a < k + 1 ∧ b < n then ent M a (n + b) else 0 := by
  have hr := h.r
  rw [List.drop_of_length_le (by omega), List.append_nil] at ho
  refine ⟨_, h.putRow hk hv hK ho hf, fun a b => ?_⟩
  rw [ent_set T k _ (by omega)]
  show (if a = k then K.getD b 0 else ent T a b) = _
  by_cases h1 : a = k
  · subst h1
    rw [if_pos rfl]
    by_cases h2 : b < n
    · rw [if_pos ⟨by omega, h2⟩, ← hM, List.getD_eq_getElem?_getD, List.getElem?_drop, ← List.getD_eq_getElem?_getD]; rfl
    · rw [if_neg (fun h => h2 h.2), List.getD_eq_getElem?_getD, List.getElem?_eq_none (by omega)]; rfl
  · rw [if_neg h1, hT]
    by_cases h2 : a < k ∧ b < n
    · rw [if_pos h2, if_pos ⟨by omega, h2.2⟩]
    · rw [if_neg h2, if_neg (by omega)]
/-- what Invert answers of a square matrix -/
def InvE (q : UInt8) (M : List (List UInt8)) (n : Nat) (w : World) (e : Ending) (w' : World) : Prop := Below w.heap.size w w' ∧
  ((∃ k, k < n ∧ Mx.Rk q (ent M) n n k ∧ e = .returned (.tuple #[.pointer none, .int .i64 13])) ∨
   ∃ m' X, e = .returned (.tuple #[.pointer (some ⟨m', 0, none⟩), .int .i64 0]) ∧ MatAt w' m' q X n ∧ X.length = n ∧ (∀ i j, i < n → j < n → Mx.prod q (ent M) (ent X) n i j = Mx.unitM i j) ∧ ∀ i j, i < n → j < n → Mx.prod q (ent X) (ent M) n i j = Mx.unitM i j)
theorem inv_no {q : UInt8} {M T : List (List UInt8)} {n : Nat} {w w' : World} {B : Nat → Nat → UInt8} {piv : List Nat} (g : Gf.Gen q) (hT : HalfU M n n T) (hr : Mx.Red q n (n + n) (ent T) B piv n) (hp : piv.length < n) (hb : Below w.heap.size w w') : InvE q M n w (.returned (.tuple #[.pointer none, .int .i64 13])) w' :=
  ⟨hb, .inl ⟨piv.length, hp, Mx.Rk.of_trunc g hr (by omega) fun i j hi hj => by rw [hT i j, if_pos ⟨hi, by omega⟩]; unfold Mx.withUnit; rw [if_pos hj], rfl⟩⟩
theorem red_congr {q : UInt8} {r n c : Nat} {A A' B : Nat → Nat → UInt8} {piv : List Nat} (h : Mx.Red q r n A B piv c) (he : ∀ i j, i < r → j < n → A i j = A' i j) : Mx.Red q r n A' B piv c :=
  ⟨fun x => by
    rw [← h.null x]
    refine forall_congr' fun i => imp_congr_right fun hi => ?_
    rw [show Mx.ap q A' n x i = Mx.ap q A n x i from Mx.sm_congr n fun j hj => by rw [he i j hi hj]], h.len, h.lt, h.up, h.one, h.lead, h.rest⟩
theorem inv_yes {q : UInt8} {M T T2 X : List (List UInt8)} {n m' : Nat} {w w' : World} {piv : List Nat} (hT : HalfU M n n T) (hr : Mx.Red q n (n + n) (ent T) (ent T2) piv n) (hp : piv.length = n) (hX : ∀ a b, ent X a b = if a < n ∧ b < n then ent T2 a (n + b) else 0) (hm : MatAt w' m' q X n) (hl : X.length = n) (hb : Below w.heap.size w w') : InvE q M n w (.returned (.tuple #[.pointer (some ⟨m', 0, none⟩), .int .i64 0])) w' := by
  have h1 := red_congr hr (A' := Mx.withUnit n (ent M)) fun i j hi hj => by rw [hT i j, if_pos ⟨hi, hj⟩]
  obtain ⟨h2, h3⟩ := Mx.inverse_of h1 hp
  refine ⟨hb, .inr ⟨m', X, rfl, hm, hl, fun i j hi hj => ?_, fun i j hi hj => ?_⟩⟩
  · rw [← h2 i j hi hj]
    exact Mx.prod_congr (fun _ _ => rfl) fun l hl => by rw [hX, if_pos ⟨hl, hj⟩]
  · rw [← h3 i j hi hj]
    exact Mx.prod_congr (fun l hl => by rw [hX, if_pos ⟨hi, hl⟩]) fun _ _ => rfl
set_option maxRecDepth 100000 in
set_option maxHeartbeats 8000000 in
theorem Invert_any (w : World) (m : Nat) (q : UInt8) (M : List (List UInt8)) (n : Nat) (h : MatAt w m q M n) (hsq : M.length = n) (hn256 : n ≤ 256) :
    Calls Try.prog 24 #[.pointer (some ⟨m, 0, none⟩)] w (InvE q M n w) := by
  have hpos := h.pos.2
  obtain ⟨fg, R, o, c, hfd, c0, c1, hcl, hrow⟩ := h.cells
  rw [hsq] at c1 hrow hcl
  obtain ⟨A, kk, z0, hs, hln⟩ := hrow 0 hpos
  rw [Nat.add_zero] at z0
  have HFD := hid hfd
  have HROW := hid hrow
  have HC := hid (And.intro c0 (And.intro c1 z0))
  have hbe : ((n : Int) != (n : Int)) = false := by simp
  have CB := hid (blank_mb w.heap.size w w [] (Fam.start w) (some ⟨fg, 0, none⟩) n (n + n) (by omega) (by omega))
  rw [show ((n + n : Nat) : Int) = 2 * (n : Int) by omega] at CB
  clear h hfd hrow hs hln
  go_enter Try.func24, Try.ntmps24
  go_wp2_with fail
  refine CB.out.mono ?_
  rintro e w3 ⟨m1, R1, vs, rfl, h3⟩
  have H3 := hid h3
  have y1 : w3.cell? ⟨m, 1, none⟩ = some (.slice (some ⟨R, o, none⟩) n c) := (h3.fam.base.cell (World.block_lt_of_cell? w _ HC.out.2.1)).trans HC.out.2.1
  clear h3 CB c0 c1 z0
  go_wp2
  clear y1
  go_loopw [6, 7, 40] (fun _ _ x wr => ∃ (k : Nat) (T : List (List UInt8)), k ≤ n ∧ x = .int .i64 k ∧ MB w.heap.size w wr [] (some ⟨fg, 0, none⟩) m1 R1 n vs T (n + n) ∧ HalfU M n k T) (fun _ _ x _ => n - (intOf x).toNat)
  case atStart => exact ⟨0, _, Nat.zero_le _, rfl, H3.out, fun a b => by rw [ent_zero, if_neg (by omega)]⟩
  case round =>
    clear H3
    obtain ⟨k, T, hk, rfl, hm, hT⟩ := hrel
    have HM := hid hm
    have HT := hid hT
    by_cases hlt : k < n
    · obtain ⟨A1, k1, c0, hs, hln⟩ := HROW.out k hlt
      have c1 : wr.cell? ⟨R, o + k, none⟩ = some (.slice A1 n k1) := (hm.fam.base.cell (World.block_lt_of_cell? w _ c0)).trans c0
      obtain ⟨y0, y1⟩ := hm.box
      obtain ⟨v, L, hv, hL, ci, fi, oi, li, gi⟩ := hm.row k hlt
      obtain ⟨Av, cv, rfl⟩ := oi.form
      obtain ⟨K, hK⟩ : ∃ K, M.getD k [] = K := ⟨_, rfl⟩
      have HS := hid (hs.below hm.fam.base)
      rw [hK] at HS hln
      have HK := hid hK
      have HV := hid hv
      have HLL := hid hL
      have HKL := hid hln
      have HLI := hid li
      have HO := hid oi
      have i0 : (0 : Int) ≤ (k : Int) := by omega
      have i1 : (k : Int) < (n : Int) := by omega
      clear hm hT c0 hs hln hv hL fi oi li gi hK y0
      go_upto_region 11 with (with_reducible show wpList _ _ _ (⟨some 53, _, _, _, _, _⟩ :: _) _ _; (refine wpList_copyB rfl (.tmp 51) (.tmp 52) rfl (.slice Av L.length cv) (.slice A1 n k1) L K rfl rfl HO.out HS.out (by rw [HKL.out, HLI.out]; omega) ?_; intro w5 ho5 hf5; have H5 := hid (half_copy HM.out HT.out hlt HV.out HLL.out HKL.out HK.out ho5 hf5); clear ho5 hf5))
      obtain ⟨T', hm', he'⟩ := H5.out
      clear HM HV HLL HKL HK HLI HO HS H5
      obtain ⟨y2, y3⟩ := hm'.box
      obtain ⟨g, c2, c3, x0, f0, hput⟩ := hm'.cell k (n + k) hlt (by omega)
      obtain ⟨T2, hM2, hl2, he2⟩ := hput 1
      have R1' := hid hM2
      have R2 : Hid (HalfU M n (k + 1) T2) := hid (half_unit hlt HT.out he' he2)
      have i2 : (0 : Int) ≤ ((n + k : Nat) : Int) := by omega
      have i3 : ((n + k : Nat) : Int) < ((n + n : Nat) : Int) := by omega
      clear HT hm' he' hput hM2 hl2 he2 y2
      go_wp2
      go_roundw
      case rel => exact ⟨k + 1, T2, by omega, by go_num, R1'.out, R2.out⟩
      case measure => simp [intOf]; omega
    · have HT := hid (show HalfU M n n T from (show k = n by omega) ▸ hT)
      have HM := hid (hm.fam.below (Below.refl wr.heap.size wr).drew)
      have HR := hid hm.r
      have HVL := hid hm.vl
      have HN := hid hm.n
      have HS0 := hid (show wr.drew.cell? ⟨m, 0, none⟩ = some (.pointer (some ⟨fg, 0, none⟩)) ∧ wr.drew.cell? ⟨m1, 1, none⟩ = some (.slice (some ⟨R1, 0, none⟩) n n) from ⟨(hm.fam.base.cell (World.block_lt_of_cell? w _ HC.out.1)).trans HC.out.1, hm.box.2⟩)
      clear hm hT
      go_upto_region 13 with (fail)
      go_region_held3 (fun W => W.cell? ⟨m, 0, none⟩ = some (.pointer (some ⟨fg, 0, none⟩)) ∧ W.cell? ⟨m1, 1, none⟩ = some (.slice (some ⟨R1, 0, none⟩) n n))
        (first | exact HS0.out | exact HS1.out)
        (first
          | (go_at_call 71; (with_reducible refine (elim_any w.heap.size w wr.drew _ R1 n n vs T HM.out HR.out HVL.out (n + n) HN.out rfl HFD.out n (by omega) (by omega) (by omega)).mono ?_); rintro e w2 ⟨pv, fb, rb, rfl, piv, vs2, T2, hred, hel⟩; obtain ⟨A2, k2, rfl⟩ : ∃ A c, pv = Value.slice A piv.length c := own_form hel.pivs; have HRED := hid hred; have HEL := hid hel; have HS1 := hid (show w2.cell? ⟨m, 0, none⟩ = some (.pointer (some ⟨fg, 0, none⟩)) ∧ w2.cell? ⟨m1, 1, none⟩ = some (.slice (some ⟨R1, 0, none⟩) n n) from ⟨(hel.fam.base.cell (World.block_lt_of_cell? w _ HC.out.1)).trans HC.out.1, by have h1 := hel.fam.back; unfold Els at h1; have h2 := h1.back.blkL 0 rfl; rw [blk_cell h2]; rfl⟩); clear hred hel))
      all_goals
        by_cases hp : piv.length < n
        · have HE := hid (inv_no HFD.out.gen HT.out HRED.out hp HEL.out.fam.base)
          go_wp2
          go_ret2
          exact HE.out
        · have CB := hid (blank_mb w.heap.size w w2 _ HEL.out.fam (some ⟨fg, 0, none⟩) n n (by omega) (by omega))
          obtain ⟨s0, s1⟩ := HS1.out
          clear HM HR HVL HN
          go_wp2_with fail
          refine CB.out.mono ?_
          rintro e w3 ⟨m2, R2, vs3, rfl, h3⟩
          have H3 := hid h3
          have y1 : w3.cell? ⟨m1, 1, none⟩ = some (.slice (some ⟨R1, 0, none⟩) n n) := by
            have h1 := h3.fam.back.back.back
            unfold Els at h1
            have h2 := h1.back.blkL 0 rfl
            rw [blk_cell h2]; rfl
          clear h3 CB s0 s1
          go_wp2
          clear y1
          go_loopw [9, 10, 91] (fun _ _ x wr => ∃ (k : Nat) (T : List (List UInt8)), k ≤ n ∧ x = .int .i64 k ∧ MB w.heap.size w wr (Els ([] ++ [blkT m1 (.cells #[.pointer (some ⟨fg, 0, none⟩), .slice (some ⟨R1, 0, none⟩) n n] 104 (0, 0))]) fb rb fg R1 n n (.slice A2 piv.length k2) piv ++ gridT (.slice (some ⟨R1, 0, none⟩) n n) vs2 T2) (some ⟨fg, 0, none⟩) m2 R2 n vs3 T n ∧ ∀ a b, ent T a b = if a < k ∧ b < n then ent T2 a (n + b) else 0) (fun _ _ x _ => n - (intOf x).toNat)
          case atStart => exact ⟨0, _, Nat.zero_le _, rfl, H3.out, fun a b => by rw [ent_zero, if_neg (by omega)]⟩
          case round =>
            clear H3
            obtain ⟨k, T3, hk, rfl, hm, hT3⟩ := hrel
            by_cases hlt : k < n
            · have HM := hid hm
              have HT3 := hid hT3
              obtain ⟨e0, e1⟩ := hm.fam.back.back.gridVal HEL.out.r HEL.out.vl k (by have := HEL.out.r; omega)
              have eo := hm.fam.back.back.gridOwn HEL.out.vl k (by have := HEL.out.r; omega)
              obtain ⟨ge, ce, ee, ec0, ec1, ec2⟩ := eo.some_ (by rw [HEL.out.n k (by have := HEL.out.r; omega)]; omega)
              rw [ee] at e0
              rw [HEL.out.n k (by have := HEL.out.r; omega)] at e0 ec1
              have e4 : (0 : Int) ≤ (n : Int) := by omega
              have i0 : (0 : Int) ≤ (k : Int) := by omega
              have i1 : (k : Int) < (n : Int) := by omega
              have HSRC := hid (show SlB wr (.slice (some ⟨ge, 0, none⟩) (n + n) ce) (T2.getD k []) by
                have h0 := eo.sl
                rw [ee, HEL.out.n k (by have := HEL.out.r; omega)] at h0
                exact h0)
              obtain ⟨N2, hN2⟩ : ∃ N2, n + n = N2 := ⟨_, rfl⟩
              have HN2 := hid hN2
              rw [hN2] at e0 ec1 HSRC
              have e3 : (N2 : Int) ≤ (ce : Int) := by omega
              have e2 : (n : Int) ≤ (N2 : Int) := by omega
              have e5 : ¬ ce = n := by omega
              clear hN2
              clear hm hT3 e1 eo ee
              go_upto_region 19 with (fail)
              obtain ⟨y2, y3⟩ := HM.out.box
              obtain ⟨v, L, hv, hL, ci, fi, oi, li, gi⟩ := HM.out.row k hlt
              obtain ⟨Av, cv, rfl⟩ := oi.form
              have HS5 := hid (And.intro y3 ci)
              have HV := hid hv
              have HLI := hid li
              obtain ⟨K, hK⟩ : ∃ K, (T2.getD k []).drop n = K := ⟨_, rfl⟩
              have HK := hid hK
              have hKs := SlB.tail HSRC.out n (N2 - n) (by rw [HEL.out.n k (by have := HEL.out.r; omega)]; have := HN2.out; omega)
              rw [hK] at hKs
              have HKL : Hid (K.length = n) := hid (by rw [← hK, List.length_drop, HEL.out.n k (by have := HEL.out.r; omega)]; omega)
              have HO := hid oi.drew
              have HKS := hid hKs.drew
              clear y2 y3 hv hL fi li gi hK hKs oi
              go_region_held3 (fun W => W.cell? ⟨m2, 1, none⟩ = some (.slice (some ⟨R2, 0, none⟩) n n) ∧ W.cell? ⟨R2, k, none⟩ = some (.slice Av L.length cv))
                (first | exact HS5.out | exact HS6.out)
                ((refine step_copyB (by rfl) (.tmp 102) (.tmp 105) (by rfl) (.slice Av L.length cv) (.slice (some ⟨ge, n, none⟩) (N2 - n) (ce - n)) L K (by rfl) (by rfl) HO.out HKS.out (by rw [HKL.out, HLI.out]; exact Nat.le_refl _) ?_; intro w5 ho5 hf5; have H5 := hid (half_right (HM.out.below (Below.refl wr.heap.size wr).drew) HT3.out hlt HV.out HLI.out HKL.out HK.out ho5 hf5); have HS6 := hid (H5.out.choose_spec.1.rowVal hlt HV.out); clear ho5 hf5))
              obtain ⟨T4, hm4, he4⟩ := H5.out
              have R1' := hid hm4
              have R2' := hid he4
              clear hm4 he4
              go_wp2
              go_roundw
              case rel => exact ⟨k + 1, T4, by omega, by go_num, R1'.out, R2'.out⟩
              case measure => simp [intOf]; omega
            · obtain rfl : k = n := by omega
              have hlen : piv.length = k := by have := HRED.out.len; omega
              have R1 := hid (inv_yes HT.out HRED.out hlen hT3 (hm.done (HFD.out.next hm.fam.base) ⟨hpos, by omega⟩ ⟨hpos, by omega⟩) hm.r.symm hm.fam.base)
              clear hm hT3
              go_wp2
              go_ret2
              exact R1.out
end Go.Proofs.Ytkklonldplekcaa
