/- The walks of package matrix: Mul. -/
import Derived.Test.YtkklonldplekcaaMxL
namespace Go.Proofs.Ytkklonldplekcaa
open Go.RowKit
section
variable {B : Nat} {w0 w w' : World} {ts : List Thing} {fp : Option Addr} {m R r : Nat} {vs : List Value} {M : List (List UInt8)} {N : Nat}
/-- a multiple of a row that is read is added to a row of the one that is made -/
theorem AddMul_mb (h : MB B w0 w ts fp m R r vs M N) (hB : B = w0.heap.size) {fg : Nat} {q : UInt8} (hF : FieldAt w0 fg q) (i : Nat) (hi : i < r) (hN : N ≤ 1024) (u : Value) (K : List UInt8) (hu : SlB w u K) (hK : K.length = N) (c : UInt8) {v : Value} (hv : vs.getD i (.slice none 0 0) = v) :
    Calls Try.prog 70 #[.pointer (some ⟨fg, 0, none⟩), v, Go.Proofs.Ytkklonldplekcaa.B c, u] w fun e w' => e = .returned (.int .i64 0) ∧ ∃ M', MB B w0 w' ts fp m R r vs M' N ∧ ∀ a t, ent M' a t = if a = i ∧ t < N then ent M i t ^^^ Gf.mul q c (K.getD t 0) else ent M a t := by
  obtain ⟨v', L, e1, hL, _, _, _, li, gi⟩ := h.row i hi
  rw [hv] at e1
  subst e1
  obtain ⟨S, hS, hSB, k⟩ := h.fam.call gi
  subst hB
  obtain ⟨A, cap, rfl⟩ := hS.1.form
  have hcap : L.length ≤ cap := by obtain ⟨A', c', e, h1, _⟩ := hS.1.sl; injection e with _ _ e3; omega
  refine (AddMul_any fg q c w (hF.below h.fam.base hF.lt) (.slice A L.length cap) L 0 hS.1 A 0 L.length cap (fun h0 => ?_) (by omega) u K hu (by omega) (by omega) hcap).mono ?_
  · obtain ⟨g, c', e, _, _, _⟩ := hS.1.some_ h0
    refine ⟨g, c', e, by injection e, fun e2 => ?_⟩
    have h1 := (hSB g (hS.2 g (by rw [e]; rfl))).1
    have h2 := hF.lt
    omega
  · rintro e w' ⟨he, ho, hg⟩
    have hput := h.putRow hi hv (L := am q c 0 L K K.length) (by rw [am_length]; exact li) ho ((Fr.of_grown hg).mono fun x _ hx => hx)
    refine ⟨he, _, hput, fun a t => ?_⟩
    rw [ent_set M i _ (by have := h.r; omega)]
    show (if a = i then (am q c 0 L K K.length).getD t 0 else ent M a t) = _
    by_cases h1 : a = i
    · subst h1
      rw [if_pos rfl]
      by_cases h2 : t < N
      · rw [if_pos ⟨rfl, h2⟩, am_get _ _ _ _ _ _ _ (by omega), if_pos (by omega)]
        unfold ent
        rw [hL]; rfl
      · rw [if_neg (fun h => h2 h.2), getD_out _ t (by rw [am_length]; omega)]
        unfold ent
        rw [hL, getD_out L t (by omega)]
    · rw [if_neg h1, if_neg (fun h => h1 h.1)]
end
set_option maxRecDepth 100000 in
set_option maxHeartbeats 8000000 in
theorem Mul_mat (w : World) (ma mb : Nat) (q : UInt8) (A C : List (List UInt8)) (n p : Nat) (ha : MatAt w ma q A n) (hb : MatAt w mb q C p) (hn : C.length = n) :
    Calls Try.prog 19 #[.pointer (some ⟨ma, 0, none⟩), .pointer (some ⟨mb, 0, none⟩)] w fun e w' => ∃ m' T, e = .returned (.tuple #[.pointer (some ⟨m', 0, none⟩), .int .i64 0]) ∧ MatAt w' m' q T p ∧ T.length = A.length ∧ (∀ i j, i < A.length → j < p → ent T i j = Mx.prod q (ent A) (ent C) n i j) ∧ Below w.heap.size w w' := by
  have la := ha.le
  have lb := hb.le
  have pa := ha.pos
  have pb := hb.pos
  obtain ⟨fg, R, o, c, hfd, c0, c1, hcl, hrow⟩ := ha.cells
  obtain ⟨fg2, R2, o2, c2, hfd2, d0, d1, hcl2, hrow2⟩ := hb.cells
  obtain ⟨A0, kk, z0, _, _⟩ := hrow 0 pa.1
  obtain ⟨A2, kk2, z2, _, _⟩ := hrow2 0 pb.1
  rw [Nat.add_zero] at z0 z2
  rw [hn] at d1
  have HFD := hid hfd
  have HROW := hid hrow
  have HROW2 := hid hrow2
  have HC := hid (And.intro (And.intro c0 c1) (And.intro z0 z2))
  have HD := hid (And.intro d0 d1)
  have HP1 : Hid (∀ k, Calls Try.prog 69 #[.pointer (some ⟨fg, 0, none⟩)] (w.drewN k) fun e w' => e = .returned (.int .i64 (256 + (q.toNat : Int))) ∧ ∃ n, w' = (w.drewN k).drewN n) := hid fun k => (Poly_any fg q (w.drewN k) (hfd.drewN k)).mono fun e w' ⟨a, b⟩ => ⟨a, 0, b⟩
  have HP2 : Hid (∀ k, Calls Try.prog 69 #[.pointer (some ⟨fg2, 0, none⟩)] (w.drewN k) fun e w' => e = .returned (.int .i64 (256 + (q.toNat : Int))) ∧ ∃ n, w' = (w.drewN k).drewN n) := hid fun k => (Poly_any fg2 q (w.drewN k) (hfd2.drewN k)).mono fun e w' ⟨a, b⟩ => ⟨a, 0, b⟩
  obtain ⟨r, hr⟩ : ∃ r, A.length = r := ⟨_, rfl⟩
  have HR := hid hr
  have HN := hid hn
  rw [hr] at HC HROW la pa hcl c1 ⊢
  clear ha hb hfd hfd2 hrow hrow2 hr hn hcl hcl2
  go_enter Try.func19, Try.ntmps19
  go_upto_region 3 with (fail)
  go_quiet ((first | (go_at_call 69; with_reducible exact Calls.quiet_of (HP1.out _)) | (go_at_call 69; with_reducible exact Calls.quiet_of (HP2.out _))))
  obtain ⟨wa, hwa⟩ : ∃ wa, w.drewN nq = wa := ⟨_, rfl⟩
  rw [hwa]
  have hba : Below w.heap.size w wa := by rw [← hwa]; exact below_drewN (Below.refl _ _) nq
  have HBA := hid hba
  obtain ⟨hc0, hc1, hz0⟩ := mat_cells c0 c1 z0 hba
  obtain ⟨hd0, hd1, hz2⟩ := mat_cells d0 d1 z2 hba
  clear hba hwa c0 c1 z0 d0 d1 z2 HP1 HP2
  go_wp2
  go_quiet (fail)
  obtain ⟨wb, hwb⟩ : ∃ wb, wa.drewN nq = wb := ⟨_, rfl⟩
  rw [hwb]
  have hbb : Below wa.heap.size wa wb := by rw [← hwb]; exact below_drewN (Below.refl _ _) nq
  have HBB := hid (below_then HBA.out hbb)
  obtain ⟨gc0, gc1, gz0⟩ := mat_cells hc0 hc1 hz0 hbb
  obtain ⟨gd0, gd1, gz2⟩ := mat_cells hd0 hd1 hz2 hbb
  have HW := hid (((Fam.start w).below HBB.out).below (Below.refl wb.heap.size wb).drew)
  clear hbb hwb hc0 hc1 hz0 hd0 hd1 hz2
  go_upto_region 7 with (fail)
  go_still_tail 16, (by kernel_rfl)
  change wpList _ _ _ _ _ wb.drew
  clear gc0 gc1 gz0 gd0 gd1 gz2
  generalize wb.drew = w2 at *
  go_wp2_with fail
  refine (blank_mb w.heap.size w w2 [] HW.out (some ⟨fg, 0, none⟩) r p (by omega) (by omega)).mono ?_
  rintro e w3 ⟨m', R1, vs, rfl, h3⟩
  have H3 := hid h3
  have y1 : w3.cell? ⟨ma, 1, none⟩ = some (.slice (some ⟨R, o, none⟩) r c) := (h3.fam.base.cell (World.block_lt_of_cell? w _ HC.out.1.2)).trans HC.out.1.2
  clear h3
  go_wp2
  clear y1
  go_loopw [7, 8, 63] (fun _ _ x wr => ∃ (i : Nat) (T : List (List UInt8)), i ≤ r ∧ x = .int .i64 i ∧ MB w.heap.size w wr [] (some ⟨fg, 0, none⟩) m' R1 r vs T p ∧ ∀ a b, b < p → ent T a b = if a < i then Mx.prod q (ent A) (ent C) n a b else 0) (fun _ _ x _ => r - (intOf x).toNat)
  case atStart => exact ⟨0, _, Nat.zero_le _, rfl, H3.out, fun a b _ => by rw [ent_zero, if_neg (by omega)]⟩
  case round =>
    clear H3
    obtain ⟨wo, rfl⟩ : ∃ wo : World, wo = wr := ⟨_, rfl⟩
    obtain ⟨i, T, hi, rfl, hm, hent⟩ := hrel
    have HM := hid hm
    have HE := hid hent
    by_cases hlt : i < r
    · obtain ⟨A1, k1, c0, hs, hln⟩ := HROW.out i hlt
      have c1 : wo.cell? ⟨R, o + i, none⟩ = some (.slice A1 n k1) := (hm.fam.base.cell (World.block_lt_of_cell? w _ c0)).trans c0
      obtain ⟨b, off, rfl, hbytes⟩ := hs.byte (by omega)
      rw [hln] at hbytes
      have HBY := hid hbytes
      have HM0 : Hid (∀ a b, b < p → ent T a b = if a < i then Mx.prod q (ent A) (ent C) n a b else if a = i then Mx.prod q (ent A) (ent C) 0 a b else 0) := hid fun a b hb => by
        rw [HE.out a b hb]
        by_cases h1 : a < i
        · rw [if_pos h1, if_pos h1]
        · rw [if_neg h1, if_neg h1]
          split <;> rfl
      have i0 : (0 : Int) ≤ (i : Int) := by omega
      have i1 : (i : Int) < (r : Int) := by omega
      clear hm hent c0 hs hln hbytes
      go_wp2
      clear c1
      go_loopw [9, 10, 70] (fun _ _ x wr => ∃ (j : Nat) (T : List (List UInt8)), j ≤ n ∧ x = .int .i64 j ∧ MB w.heap.size w wr [] (some ⟨fg, 0, none⟩) m' R1 r vs T p ∧ ∀ a b, b < p → ent T a b = if a < i then Mx.prod q (ent A) (ent C) n a b else if a = i then Mx.prod q (ent A) (ent C) j a b else 0) (fun _ _ x _ => n - (intOf x).toNat)
      case atStart => exact ⟨0, T, Nat.zero_le _, rfl, HM.out, HM0.out⟩
      case round =>
        clear HM HE HM0
        obtain ⟨j, T1, hj, rfl, hm, hent⟩ := hrel
        have HM := hid hm
        have HE := hid hent
        by_cases hjl : j < n
        · have x0 : wr.cell? ⟨b, off + j, none⟩ = some (B (ent A i j)) := (hm.fam.base.cell (World.block_lt_of_cell? w _ (HBY.out j hjl))).trans (HBY.out j hjl)
          obtain ⟨y0, y1⟩ := hm.box
          obtain ⟨v, L, hv, hL, ci, fi, oi, li, gi⟩ := hm.row i hlt
          obtain ⟨Av, cv, rfl⟩ := oi.form
          obtain ⟨A3, k3, e0, hs3, hl3⟩ := HROW2.out j (by have := HN.out; omega)
          have e1 : wr.cell? ⟨R2, o2 + j, none⟩ = some (.slice A3 p k3) := (hm.fam.base.cell (World.block_lt_of_cell? w _ e0)).trans e0
          have hm2 := hm.below (Below.refl wr.heap.size wr).drew
          obtain ⟨bv, hbv⟩ : ∃ bv, ent A i j = bv := ⟨_, rfl⟩
          have HADD := hid (AddMul_mb hm2 rfl HFD.out i hlt (by omega) (.slice A3 p k3) (C.getD j []) (hs3.below hm2.fam.base) hl3 bv hv)
          rw [hbv] at x0
          have HBV := hid hbv
          have q0 : wr.cell? ⟨ma, 0, none⟩ = some (.pointer (some ⟨fg, 0, none⟩)) := (hm.fam.base.cell (World.block_lt_of_cell? w _ HC.out.1.1)).trans HC.out.1.1
          have q1 : wr.cell? ⟨mb, 1, none⟩ = some (.slice (some ⟨R2, o2, none⟩) n c2) := (hm.fam.base.cell (World.block_lt_of_cell? w _ HD.out.2)).trans HD.out.2
          have j0 : (0 : Int) ≤ (j : Int) := by omega
          have j1 : (j : Int) < (n : Int) := by omega
          clear hm hent hv hL fi oi li gi e0 hs3 hl3 hm2 hbv y0
          go_upto_region 14 with (fail)
          clear x0
          go_still_tail 19, (by kernel_rfl)
          change wpList _ _ _ _ _ wr.drew
          clear y1 ci e1 q0 q1
          go_wp2_with fail
          refine HADD.out.mono ?_
          rintro e w6 ⟨rfl, T2, hT2, he2⟩
          have R1' := hid hT2
          have R2' : Hid (∀ a b, b < p → ent T2 a b = if a < i then Mx.prod q (ent A) (ent C) n a b else if a = i then Mx.prod q (ent A) (ent C) (j + 1) a b else 0) := hid fun a b hb => by
            rw [he2 a b, HE.out a b hb, HE.out i b hb]
            by_cases h1 : a = i
            · rw [if_pos ⟨h1, hb⟩, if_neg (by omega), if_pos rfl, if_neg (by omega), if_pos h1, h1, ← HBV.out]
              rfl
            · rw [if_neg (fun h => h1 h.1), if_neg h1, if_neg h1]
          clear hT2 he2 HADD
          go_wp2
          go_roundw
          case rel => exact ⟨j + 1, T2, by omega, by go_num, R1'.out, R2'.out⟩
          case measure => simp [intOf]; omega
        · have R1' : Hid (∀ a b, b < p → ent T1 a b = if a < i + 1 then Mx.prod q (ent A) (ent C) n a b else 0) := hid fun a b hb => by
            rw [HE.out a b hb]
            by_cases h1 : a < i
            · rw [if_pos h1, if_pos (by omega)]
            · rw [if_neg h1]
              by_cases h2 : a = i
              · rw [if_pos h2, if_pos (by omega), show j = n by omega]
              · rw [if_neg h2, if_neg (by omega)]
          clear hm hent
          go_wp2
          go_roundw
          case rel => exact ⟨i + 1, T1, by omega, by go_num, HM.out, R1'.out⟩
          case measure => simp [intOf]; omega
    · have R1' : Hid (MatAt wo m' q T p ∧ T.length = r ∧ (∀ a b, a < r → b < p → ent T a b = Mx.prod q (ent A) (ent C) n a b) ∧ Below w.heap.size w wo) := hid ⟨hm.done (HFD.out.next hm.fam.base) ⟨pa.1, by omega⟩ ⟨pb.2, by omega⟩, hm.r.symm, fun a b ha hb => by rw [HE.out a b hb, if_pos (by omega)], hm.fam.base⟩
      clear hm hent
      go_wp2
      go_ret2
      exact ⟨m', T, rfl, R1'.out⟩
end Go.Proofs.Ytkklonldplekcaa
