/- The walks of package matrix: Vandermonde. -/
import Derived.Test.YtkklonldplekcaaMxS
import Derived.Test.YtkklonldplekcaaMxC
namespace Go.Proofs.Ytkklonldplekcaa
open Go.RowKit
theorem sized_ok (w : World) (fp : Addr) (r n : Nat) (hr : 0 < r ∧ r ≤ 256) (hn : 0 < n ∧ n ≤ 256) : Calls Try.prog 80 #[.pointer (some fp), .int .i64 r, .int .i64 n] w fun e w' => e = .returned (.int .i64 0) ∧ w' = w := by
  have h1 : ¬ (r : Int) < 1 := by omega
  have h2 : ¬ (n : Int) < 1 := by omega
  have h3 : (r : Int) ≤ 256 := by omega
  have h4 : (n : Int) ≤ 256 := by omega
  go_enter Try.func80, Try.ntmps80
  go_wp2
  go_ret
  exact ⟨rfl, rfl⟩
/-- row i is filled up to j, those ahead of it are done -/
def Vdm (q : UInt8) (P : List UInt8) (n i j : Nat) (T : List (List UInt8)) : Prop := ∀ a b, b < n → ent T a b = if a < i ∨ a = i ∧ b < j then Mx.pwr q (P.getD a 0) b else 0
theorem Vdm.put {q : UInt8} {P : List UInt8} {n i j : Nat} {T T' : List (List UInt8)} (h : Vdm q P n i j T) (he : ent T' = fun a t => if a = i ∧ t = j then Mx.pwr q (P.getD i 0) j else ent T a t) : Vdm q P n i (j + 1) T' := by
  intro a b hb
  rw [he]
  show (if a = i ∧ b = j then _ else ent T a b) = _
  by_cases e : a = i ∧ b = j
  · rw [if_pos e, if_pos (.inr ⟨e.1, by omega⟩), e.1, e.2]
  · rw [if_neg e, h a b hb]
    by_cases h1 : a < i ∨ a = i ∧ b < j
    · rw [if_pos h1, if_pos (by omega)]
    · rw [if_neg h1, if_neg (by omega)]
theorem Vdm.row {q : UInt8} {P : List UInt8} {n i j : Nat} {T : List (List UInt8)} (h : Vdm q P n i j T) (hj : n ≤ j) : Vdm q P n (i + 1) 0 T := by
  intro a b hb
  rw [h a b hb]
  by_cases h1 : a < i ∨ a = i ∧ b < j
  · rw [if_pos h1, if_pos (by omega)]
  · rw [if_neg h1, if_neg (by omega)]
/-- what is read of a matrix that is made: its rows, one row, one byte -/
theorem MB.at3 {B : Nat} {w0 w : World} {ts : List Thing} {fp : Option Addr} {m R r N i g c : Nat} {vs : List Value} {M : List (List UInt8)} (h : MB B w0 w ts fp m R r vs M N) (hi : i < r) (hv : vs.getD i (.slice none 0 0) = .slice (some ⟨g, 0, none⟩) N c) (k : Nat) (hk : k < N) : w.cell? ⟨m, 1, none⟩ = some (.slice (some ⟨R, 0, none⟩) r r) ∧ w.cell? ⟨R, i, none⟩ = some (.slice (some ⟨g, 0, none⟩) N c) ∧ w.cell? ⟨g, k, none⟩ = some (Go.Proofs.Ytkklonldplekcaa.B (ent M i k)) := by
  obtain ⟨v', L, e1, e2, c1, _, o1, l1, _⟩ := h.row i hi
  rw [hv] at e1
  subst e1 e2
  exact ⟨h.box.2, c1, (o1.at_ k (by omega)).1⟩
theorem MB.set3 {B : Nat} {w0 w : World} {ts : List Thing} {fp : Option Addr} {m R r N i g c : Nat} {vs : List Value} {M : List (List UInt8)} (h : MB B w0 w ts fp m R r vs M N) (hi : i < r) (hv : vs.getD i (.slice none 0 0) = .slice (some ⟨g, 0, none⟩) N c) (k : Nat) (hk : k < N) (b : UInt8) : ∃ M', MB B w0 (w.setCell ⟨g, k, none⟩ (Go.Proofs.Ytkklonldplekcaa.B b)) ts fp m R r vs M' N ∧ ent M' = fun a t => if a = i ∧ t = k then b else ent M a t := by
  obtain ⟨v', L, e1, e2, c1, _, o1, l1, _⟩ := h.row i hi
  exact ⟨_, h.byte hi hv e2 k b, ent_byte (by have := h.r; omega) e2 (by omega)⟩
/-- what Vandermonde answers -/
def VdmE (q : UInt8) (P : List UInt8) (n : Nat) (w : World) (e : Ending) (w' : World) : Prop := ∃ m T, e = .returned (.tuple #[.pointer (some ⟨m, 0, none⟩), .int .i64 0]) ∧ MatAt w' m q T n ∧ T.length = P.length ∧ (∀ i j, i < P.length → j < n → ent T i j = Mx.pwr q (P.getD i 0) j) ∧ Below w.heap.size w w'
set_option maxRecDepth 100000 in
set_option maxHeartbeats 8000000 in
theorem Vandermonde_any (w : World) (fg : Nat) (q : UInt8) (hF : FieldAt w fg q) (u : Value) (P : List UInt8) (hu : SlB w u P) (hP : 0 < P.length ∧ P.length ≤ 256) (n : Nat) (hn : 0 < n ∧ n ≤ 256) :
    Calls Try.prog 41 #[.pointer (some ⟨fg, 0, none⟩), u, .int .i64 n] w (VdmE q P n w) := by
  obtain ⟨Au, cu, rfl⟩ := hu.form
  have HU := hid hu
  have HFD := hid hF
  obtain ⟨hp1, hp2⟩ := hP
  obtain ⟨hn1, hn2⟩ := hn
  clear hu hF
  go_enter Try.func41, Try.ntmps41
  go_wp2_with fail
  refine (sized_ok w _ P.length n ⟨hp1, hp2⟩ ⟨hn1, hn2⟩).mono ?_
  rintro e w ⟨rfl, rfl⟩
  go_wp2_with fail
  refine (blank_mb w.heap.size w w [] (Fam.start w) (some ⟨fg, 0, none⟩) P.length n (by omega) (by omega)).mono ?_
  rintro e w3 ⟨m, R1, vs, rfl, h3⟩
  have H3 := hid h3
  clear h3
  go_wp2
  go_loopw [10, 11, 12, 28] (fun _ _ _ x wr => ∃ (i : Nat) (T : List (List UInt8)), i ≤ P.length ∧ x = .int .i64 i ∧ MB w.heap.size w wr [] (some ⟨fg, 0, none⟩) m R1 P.length vs T n ∧ Vdm q P n i 0 T) (fun _ _ _ x _ => P.length - (intOf x).toNat)
  case atStart => exact ⟨0, _, Nat.zero_le _, rfl, H3.out, fun a b _ => by rw [ent_zero, if_neg (by omega)]⟩
  case round =>
    clear H3
    obtain ⟨wo, rfl⟩ : ∃ wo : World, wo = wr := ⟨_, rfl⟩
    obtain ⟨i, T, hi, rfl, hm, hT⟩ := hrel
    have HT := hid hT
    by_cases hlt : i < P.length
    · obtain ⟨bu, ou, rfl, hbytes⟩ := (HU.out.below hm.fam.base).cells (by omega)
      have x0 := hbytes i hlt
      obtain ⟨p, hp⟩ : ∃ p, P.getD i 0 = p := ⟨_, rfl⟩
      rw [hp] at x0
      have HP := hid hp
      obtain ⟨y0, y1⟩ := hm.box
      obtain ⟨g, c, c0, z0, f0, hput⟩ := hm.cell i 0 hlt (by omega)
      obtain ⟨T2, hM2, hl2, he2⟩ := hput 1
      have HM2 := hid hM2
      have HT2 : Hid (Vdm q P n i 1 T2) := hid (HT.out.put (j := 0) he2)
      have i0 : (0 : Int) ≤ (i : Int) := by omega
      have i1 : (i : Int) < (P.length : Int) := by omega
      have i2 : (0 : Int) < (n : Int) := by omega
      clear hm hT hbytes hp hput hM2 hl2 he2 y0
      go_upto_block 2 with (fail)
      clear x0 y1 c0 z0 f0
      obtain ⟨w4, hw4⟩ : ∃ w4, wo.setCell ⟨g, 0, none⟩ (B 1) = w4 := ⟨_, rfl⟩
      change Code.wp _ _ _ _ (wo.setCell ⟨g, 0, none⟩ (B 1))
      rw [hw4] at HM2 ⊢
      clear hw4
      go_wp2
      go_loopw [12] (fun x wr => ∃ (j : Nat) (T : List (List UInt8)), 1 ≤ j ∧ j ≤ n ∧ x = .int .i64 j ∧ MB w.heap.size w wr [] (some ⟨fg, 0, none⟩) m R1 P.length vs T n ∧ Vdm q P n i j T) (fun x _ => n - (intOf x).toNat)
      case atStart => exact ⟨1, T2, Nat.le_refl _, by omega, rfl, HM2.out, HT2.out⟩
      case round =>
        clear HM2 HT2
        obtain ⟨j, T3, hj1, hj, rfl, hm, hT⟩ := hrel
        have HT := hid hT
        have HM := hid hm
        by_cases hjl : j < n
        · obtain ⟨k, hkj⟩ : ∃ k, j = k + 1 := ⟨j - 1, by omega⟩
          have HK := hid hkj
          obtain ⟨v, L, hv, hL, ci, fi, oi, li, gi⟩ := hm.row i hlt
          obtain ⟨g, c, e, _, _, _⟩ := oi.some_ (by omega)
          subst e
          rw [li] at hv
          have HV := hid hv
          obtain ⟨y1, c0, z0⟩ := hm.at3 hlt hv k (by omega)
          obtain ⟨_, _, z1⟩ := hm.at3 hlt hv j hjl
          have f1 := (oi.at_ j (by omega)).2
          have hek := HT.out i k (by omega)
          rw [if_pos (.inr ⟨rfl, by omega⟩), HP.out] at hek
          obtain ⟨b, hb⟩ : ∃ b, Mx.pwr q p k = b := ⟨_, rfl⟩
          rw [hek, hb] at z0
          have HMUL := hid (Mul_any fg q b p wr.drew ((HFD.out.next hm.fam.base).any rfl))
          obtain ⟨pn, hpn⟩ : ∃ pn, Gf.mul q b p = pn := ⟨_, rfl⟩
          have HE : Hid (pn = Mx.pwr q p (k + 1)) := hid (by rw [← hpn, ← hb]; rfl)
          rw [hpn] at HMUL
          have HSET := hid (fun (nn : Nat) => (hm.below (below_drewN (Below.refl wr.heap.size wr) nn)).set3 hlt hv j hjl pn)
          have HS3 := hid (fun (nn : Nat) => (show ((wr.drewN nn).setCell ⟨g, j, none⟩ (B pn)).cell? ⟨m, 1, none⟩ = some (.slice (some ⟨R1, 0, none⟩) P.length P.length) ∧ ((wr.drewN nn).setCell ⟨g, j, none⟩ (B pn)).cell? ⟨R1, i, none⟩ = some (.slice (some ⟨g, 0, none⟩) n c) ∧ ((wr.drewN nn).setCell ⟨g, j, none⟩ (B pn)).cell? ⟨g, k, none⟩ = some (B b) from by
            obtain ⟨M', h1, h2⟩ := HSET.out nn
            obtain ⟨a1, a2, a3⟩ := h1.at3 hlt HV.out k (by omega)
            refine ⟨a1, a2, ?_⟩
            rw [a3, h2]
            show some (B (if i = i ∧ k = j then pn else ent T3 i k)) = _
            rw [if_neg (by omega), hek, hb]))
          have HS0 := hid (show wr.drew.cell? ⟨m, 1, none⟩ = some (.slice (some ⟨R1, 0, none⟩) P.length P.length) ∧ wr.drew.cell? ⟨R1, i, none⟩ = some (.slice (some ⟨g, 0, none⟩) n c) ∧ wr.drew.cell? ⟨g, k, none⟩ = some (B b) from ⟨y1, c0, z0⟩)
          have HS1 := hid (fun (nn : Nat) => (show (wr.drewN nn).cell? ⟨m, 1, none⟩ = some (.slice (some ⟨R1, 0, none⟩) P.length P.length) ∧ (wr.drewN nn).cell? ⟨R1, i, none⟩ = some (.slice (some ⟨g, 0, none⟩) n c) ∧ (wr.drewN nn).cell? ⟨g, k, none⟩ = some (B b) from ⟨y1, c0, z0⟩))
          generalize ent T3 i j = zb at z1
          have i3 : (0 : Int) ≤ (k : Int) := by omega
          have i4 : (k : Int) < (n : Int) := by omega
          have i5 : (0 : Int) ≤ (j : Int) := by omega
          have i6 : (j : Int) < (n : Int) := by omega
          have hw : IntKind.i64.wrap ((j : Int) - 1) = (k : Int) := by rw [IntKind.wrap_i64]; omega
          clear hm hT hek hb hv hL fi oi li gi hpn ci hkj
          go_upto_region 12 with (fail)
          go_region_held3 (fun W => W.cell? ⟨m, 1, none⟩ = some (.slice (some ⟨R1, 0, none⟩) P.length P.length) ∧ W.cell? ⟨R1, i, none⟩ = some (.slice (some ⟨g, 0, none⟩) n c) ∧ W.cell? ⟨g, k, none⟩ = some (B b))
            (first | with_reducible exact HS0.out | with_reducible exact HS1.out _ | with_reducible exact HS3.out _)
            ((go_at_call 37; (with_reducible refine HMUL.out.mono ?_); rintro e w5 ⟨rfl, nn, rfl⟩))
          all_goals
            obtain ⟨T4, hm4, he4⟩ := HSET.out (1 + nn)
            have R1' := hid hm4
            have R2' : Hid (Vdm q P n i (j + 1) T4) := hid (HT.out.put (by rw [he4, HE.out, HP.out, HK.out]))
            clear y1 c0 z0 z1 f1 hm4 he4
            go_wp2
            go_roundw
            case rel => exact ⟨j + 1, T4, by omega, by omega, by go_num, R1'.out, R2'.out⟩
            case measure => simp [intOf]; omega
        · have R2' := hid (HT.out.row (show n ≤ j by omega))
          clear hm hT
          go_wp2
          go_roundw
          case rel => exact ⟨i + 1, T3, by omega, by go_num, HM.out, R2'.out⟩
          case measure => simp [intOf]; omega
    · obtain rfl : i = P.length := by omega
      have HE : Hid (VdmE q P n w (.returned (.tuple #[.pointer (some ⟨m, 0, none⟩), .int .i64 0])) wo) := hid ⟨m, T, rfl, hm.done (HFD.out.next hm.fam.base) ⟨hp1, by omega⟩ ⟨hn1, by omega⟩, hm.r.symm, fun a b ha hb => by rw [hT a b hb, if_pos (.inl ha)], hm.fam.base⟩
      clear hm hT
      go_wp2
      go_ret2
      exact HE.out
end Go.Proofs.Ytkklonldplekcaa
