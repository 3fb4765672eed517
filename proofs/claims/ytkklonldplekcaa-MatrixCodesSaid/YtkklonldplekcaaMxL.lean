/- The walks of package matrix: Transpose. -/
import Derived.Test.YtkklonldplekcaaMxK
namespace Go.Proofs.Ytkklonldplekcaa
open Go.RowKit
theorem SlB.byte {w : World} {A : Option Addr} {n k : Nat} {L : List UInt8} (h : SlB w (.slice A n k) L) (h0 : 0 < L.length) : ∃ b o, A = some ⟨b, o, none⟩ ∧ ∀ t, t < L.length → w.cell? ⟨b, o + t, none⟩ = some (B (L.getD t 0)) := by
  obtain ⟨A', c', e, h1, h2, h3⟩ := h
  injection e with e1 e2 e3
  subst e1
  exact h3 h0
set_option maxRecDepth 100000 in
set_option maxHeartbeats 8000000 in
theorem Transpose_any (w : World) (m : Nat) (q : UInt8) (M : List (List UInt8)) (n : Nat) (h : MatAt w m q M n) :
    Calls Try.prog 22 #[.pointer (some ⟨m, 0, none⟩)] w fun e w' => ∃ m' T, e = .returned (.pointer (some ⟨m', 0, none⟩)) ∧ MatAt w' m' q T M.length ∧ T.length = n ∧ (∀ a b, a < n → b < M.length → ent T a b = ent M b a) ∧ Below w.heap.size w w' := by
  have H := hid h
  have hle := h.le.1
  have hnle := h.le.2
  have hpos := h.pos.1
  have hnpos := h.pos.2
  obtain ⟨fg, R, o, c, hfd, c0, c1, hcl, hrow⟩ := h.cells
  obtain ⟨A, kk, z0, hs, hln⟩ := hrow 0 hpos
  rw [Nat.add_zero] at z0
  have HFD := hid hfd
  have HROW := hid hrow
  have HC1 := hid c1
  have HW := hid ((Fam.start w).below (Below.refl w.heap.size w).drew)
  clear h hfd hrow hs hln
  go_enter Try.func22, Try.ntmps22
  go_upto_region 3 with (fail)
  go_still_tail 16, (by kernel_rfl)
  change wpList _ _ _ _ _ w.drew
  obtain ⟨r, hr⟩ : ∃ r, M.length = r := ⟨_, rfl⟩
  have HR := hid hr
  rw [hr] at HC1 HROW hle hpos hcl ⊢
  clear c0 c1 z0 hr
  generalize w.drew = w2 at *
  go_wp2_with fail
  refine (blank_mb w.heap.size w w2 [] HW.out (some ⟨fg, 0, none⟩) n r (by omega) (by omega)).mono ?_
  rintro e w3 ⟨m', R1, vs, rfl, h3⟩
  have H3 := hid h3
  have y1 : w3.cell? ⟨m, 1, none⟩ = some (.slice (some ⟨R, o, none⟩) r c) := (h3.fam.base.cell (World.block_lt_of_cell? w _ HC1.out)).trans HC1.out
  clear h3
  go_wp2
  clear y1
  go_loopw [4, 5, 32] (fun _ _ x wr => ∃ (i : Nat) (T : List (List UInt8)), i ≤ r ∧ x = .int .i64 i ∧ MB w.heap.size w wr [] (some ⟨fg, 0, none⟩) m' R1 n vs T r ∧ ∀ a b, a < n → ent T a b = if b < i then ent M b a else 0) (fun _ _ x _ => r - (intOf x).toNat)
  case atStart => exact ⟨0, _, Nat.zero_le _, rfl, H3.out, fun a b _ => by rw [ent_zero, if_neg (by omega)]⟩
  case round =>
    clear H3
    obtain ⟨wo, rfl⟩ : ∃ wo : World, wo = wr := ⟨_, rfl⟩
    obtain ⟨i, T, hi, rfl, hm, hent⟩ := hrel
    have HM := hid hm
    have HE := hid hent
    by_cases hlt : i < r
    · obtain ⟨A1, k1, c0, hs, hln⟩ := HROW.out i hlt
      have c1 : wo.cell? ⟨R, o + i, none⟩ = some (.slice A1 n k1) := (hm.fam.base.cell (World.block_lt_of_cell? w _ c0)).trans c0
      obtain ⟨b, off, rfl, hbytes⟩ := hs.byte (by omega)
      rw [hln] at hbytes
      have HBY := hid hbytes
      have HM0 : Hid (∀ a b, a < n → ent T a b = if b < i ∨ (b = i ∧ a < 0) then ent M b a else 0) := hid fun a b ha => by
        rw [HE.out a b ha]
        by_cases h1 : b < i
        · rw [if_pos h1, if_pos (.inl h1)]
        · rw [if_neg h1, if_neg (by omega)]
      have i0 : (0 : Int) ≤ (i : Int) := by omega
      have i1 : (i : Int) < (r : Int) := by omega
      clear hm hent c0 hs hln hbytes
      go_wp2
      clear c1
      go_loopw [6, 7, 39] (fun _ _ x wr => ∃ (j : Nat) (T : List (List UInt8)), j ≤ n ∧ x = .int .i64 j ∧ MB w.heap.size w wr [] (some ⟨fg, 0, none⟩) m' R1 n vs T r ∧ ∀ a b, a < n → ent T a b = if b < i ∨ (b = i ∧ a < j) then ent M b a else 0) (fun _ _ x _ => n - (intOf x).toNat)
      case atStart => exact ⟨0, T, Nat.zero_le _, rfl, HM.out, HM0.out⟩
      case round =>
        clear HM HE HM0
        obtain ⟨j, T1, hj, rfl, hm, hent⟩ := hrel
        have HM := hid hm
        have HE := hid hent
        by_cases hjl : j < n
        · have x0 : wr.cell? ⟨b, off + j, none⟩ = some (B (ent M i j)) := (hm.fam.base.cell (World.block_lt_of_cell? w _ (HBY.out j hjl))).trans (HBY.out j hjl)
          obtain ⟨y0, y1⟩ := hm.box
          obtain ⟨g, cc, d0, e0, f0, hput⟩ := hm.cell j i hjl hlt
          obtain ⟨T2, hT2, hl2, he2⟩ := hput (ent M i j)
          have R1' := hid hT2
          have R2 : Hid (∀ a b, a < n → ent T2 a b = if b < i ∨ (b = i ∧ a < j + 1) then ent M b a else 0) := hid fun a b ha => by
            rw [he2]
            show (if a = j ∧ b = i then ent M i j else ent T1 a b) = _
            rw [HE.out a b ha]
            by_cases h1 : a = j ∧ b = i
            · rw [if_pos h1, if_pos (.inr ⟨h1.2, by omega⟩), h1.1, h1.2]
            · rw [if_neg h1]
              by_cases h2 : b < i ∨ (b = i ∧ a < j)
              · rw [if_pos h2, if_pos (by omega)]
              · rw [if_neg h2, if_neg (by omega)]
          have j0 : (0 : Int) ≤ (j : Int) := by omega
          have j1 : (j : Int) < (n : Int) := by omega
          generalize ent M i j = bv at x0 R1'
          clear hm hent hput hT2 hl2 he2 y0
          go_wp2
          go_roundw
          case rel => exact ⟨j + 1, T2, by omega, by go_num, R1'.out, R2.out⟩
          case measure => simp [intOf]; omega
        · have R1' : Hid (∀ a b, a < n → ent T1 a b = if b < i + 1 then ent M b a else 0) := hid fun a b ha => by
            rw [HE.out a b ha]
            by_cases h1 : b < i + 1
            · rw [if_pos h1, if_pos (by omega)]
            · rw [if_neg h1, if_neg (by omega)]
          clear hm hent
          go_wp2
          go_roundw
          case rel => exact ⟨i + 1, T1, by omega, by go_num, HM.out, R1'.out⟩
          case measure => simp [intOf]; omega
    · have R1' : Hid (MatAt wo m' q T r ∧ T.length = n ∧ (∀ a b, a < n → b < r → ent T a b = ent M b a) ∧ Below w.heap.size w wo) := hid ⟨hm.done (HFD.out.next hm.fam.base) ⟨hnpos, by omega⟩ ⟨hpos, by omega⟩, hm.r.symm, fun a b ha hb => by rw [HE.out a b ha, if_pos (by omega)], hm.fam.base⟩
      clear hm hent
      go_wp2
      go_ret
      exact ⟨m', T, rfl, by rw [HR.out]; exact R1'.out⟩
end Go.Proofs.Ytkklonldplekcaa
