/- The helpers of the matrix laws. -/
import Derived.Test.YtkklonldplekcaaMxO
namespace Go.Proofs.Ytkklonldplekcaa
open Go.RowKit
theorem sameBytes_yes (w : World) (u v : Value) (l : List UInt8) (hu : SlB w u l) (hv : SlB w v l) : Calls Try.prog 35 #[u, v] w fun e w' => e = .returned (.bool true) ∧ w' = w := by
  obtain ⟨A, c, rfl⟩ := hu.form
  obtain ⟨A2, c2, rfl⟩ := hv.form
  have k1 := conv_str hu
  have k2 := conv_str hv
  clear hu hv
  go_enter Try.func35, Try.ntmps35
  go_wp2
  go_ret
  exact ⟨by simp, rfl⟩
theorem SlBB.at_ {w : World} {A : Option Addr} {n c : Nat} {M : List (List UInt8)} (h : SlBB w (.slice A n c) M) (i : Nat) (hi : i < M.length) : ∃ R o v, A = some ⟨R, o, none⟩ ∧ w.cell? ⟨R, o + i, none⟩ = some v ∧ SlB w v (M.getD i []) := by
  obtain ⟨f, ⟨A', c', e, h1, h2, h3⟩, h4⟩ := h
  injection e with e1 e2 e3
  subst e1
  obtain ⟨R, o, e4, hc⟩ := h3 (by omega)
  exact ⟨R, o, f i, e4, hc i hi, h4 i hi⟩
theorem SlBB.form {w : World} {v : Value} {M : List (List UInt8)} (h : SlBB w v M) : ∃ A c, v = .slice A M.length c := by
  obtain ⟨f, ⟨A, c, e, _⟩, _⟩ := h
  exact ⟨A, c, e⟩
set_option maxRecDepth 100000 in
set_option maxHeartbeats 1000000 in
theorem sameRows_yes (w : World) (u v : Value) (M : List (List UInt8)) (hu : SlBB w u M) (hv : SlBB w v M) (hl : M.length ≤ 1099511627776) : Calls Try.prog 20 #[u, v] w fun e w' => e = .returned (.bool true) ∧ ∃ n, w' = w.drewN n := by
  obtain ⟨A, c, rfl⟩ := hu.form
  obtain ⟨A2, c2, rfl⟩ := hv.form
  have HU := hid hu
  have HV := hid hv
  have hb : ((M.length : Int) != (M.length : Int)) = false := by simp
  clear hu hv
  go_enter Try.func20, Try.ntmps20
  go_wp2
  go_loopw [5, 13] (fun _ x wr => ∃ k n : Nat, k ≤ M.length ∧ x = .int .i64 k ∧ wr = w.drewN n) (fun _ x _ => M.length - (intOf x).toNat)
  case atStart => exact ⟨0, 0, Nat.zero_le _, rfl, rfl⟩
  case round =>
    obtain ⟨k, nn, hk, rfl, hw⟩ := hrel
    have HW := hid hw
    have hb1 : Below w.heap.size w wr := by rw [hw]; exact below_drewN (Below.refl _ _) nn
    by_cases hlt : k < M.length
    · obtain ⟨R, o, v1, rfl, c0, s0⟩ := (HU.out.below hb1).at_ k hlt
      obtain ⟨R2, o2, v2, rfl, d0, t0⟩ := (HV.out.below hb1).at_ k hlt
      obtain ⟨L, hL⟩ : ∃ L, M.getD k [] = L := ⟨_, rfl⟩
      rw [hL] at s0 t0
      obtain ⟨A3, c3, rfl⟩ := s0.form
      obtain ⟨A4, c4, rfl⟩ := t0.form
      have HC : Hid (∀ m, Calls Try.prog 35 #[.slice A3 L.length c3, .slice A4 L.length c4] (wr.drewN m) fun e w' => e = .returned (.bool true) ∧ ∃ n, w' = (wr.drewN m).drewN n) := hid fun m => (sameBytes_yes (wr.drewN m) _ _ L (s0.drewN m) (t0.drewN m)).mono fun e w' ⟨a, b⟩ => ⟨a, 0, b⟩
      have i0 : (0 : Int) ≤ (k : Int) := by omega
      have i1 : (k : Int) < (M.length : Int) := by omega
      clear s0 t0 hb1 hw hL
      go_wp2
      go_quiet ((go_at_call 35; exact Calls.quiet_of (HC.out _)))
      have HW2 : Hid (∃ n, wr.drewN nq = w.drewN n) := hid ⟨nn + nq, by rw [HW.out]; exact World.drewN_drewN w nn nq⟩
      clear HC c0 d0
      go_wp2
      go_roundw
      case rel => exact ⟨k + 1, HW2.out.choose, by omega, by go_num, HW2.out.choose_spec⟩
      case measure => simp [intOf]; omega
    · clear hb1 hw
      go_wp2
      go_ret
      exact ⟨rfl, nn, HW.out⟩
def sz6 (n : Int) : Nat := (n % 6).toNat + 1
set_option maxHeartbeats 1000000 in
theorem size_any (n : Int) (_ : -9223372036854775808 ≤ n) (_ : n ≤ 9223372036854775807) (w : World) : Calls Try.prog 15 #[.int .i64 n] w fun e w' => e = .returned (.int .i64 (sz6 n : Int)) ∧ w' = w := by
  have t1 := Int.tmod_lt_of_pos n (show (0 : Int) < 6 by omega)
  have t2 := Int.lt_tmod_of_pos n (show (0 : Int) < 6 by omega)
  have HE : Hid (n.tmod 6 % 6 + 1 = (sz6 n : Int)) := hid (by
    unfold sz6
    have d : n.tmod 6 = n % 6 - (if 0 ≤ n ∨ (6 : Int) ∣ n then 0 else ((6 : Int)).natAbs) := Int.tmod_eq_emod
    have e1 := Int.emod_nonneg n (show (6 : Int) ≠ 0 by omega)
    have e2 := Int.emod_lt_of_pos n (show (0 : Int) < 6 by omega)
    split at d <;> simp at d ⊢ <;> omega)
  go_enter Try.func15, Try.ntmps15
  go_wp2
  go_ret
  exact ⟨congrArg (fun n => Ending.returned (.int .i64 n)) HE.out, rfl⟩
/-- rows that are told, as they are read -/
theorem Told.slBB {B : Nat} {w0 W : World} {ts : List Thing} {M : List (List UInt8)} {v : Value} (h : Told B w0 W ts M M.length v) : SlBB W v M := by
  obtain ⟨R, c, vs, rfl, hl, hf⟩ := h
  rw [List.take_length] at hf
  exact hf.slBB rfl hl
theorem Told.base {B : Nat} {w0 W : World} {ts : List Thing} {M : List (List UInt8)} {v : Value} {k : Nat} (h : Told B w0 W ts M k v) : Below B w0 W := by
  obtain ⟨R, c, vs, _, _, hf⟩ := h
  exact hf.base
/-- Rows, as they are read alone -/
theorem Rows_read (w : World) (m : Nat) (q : UInt8) (M : List (List UInt8)) (n : Nat) (h : MatAt w m q M n) :
    Calls Try.prog 23 #[.pointer (some ⟨m, 0, none⟩)] w fun e w' => ∃ v, e = .returned v ∧ SlBB w' v M ∧ Below w.heap.size w w' :=
  (Rows_any w.heap.size w w [] (Fam.start w) m q M n h).mono fun _ _ ⟨v, he, ht⟩ => ⟨v, he, ht.slBB, ht.base⟩
set_option maxHeartbeats 1000000 in
theorem product_any (w : World) (ma mb : Nat) (q : UInt8) (A C : List (List UInt8)) (n p : Nat) (ha : MatAt w ma q A n) (hb : MatAt w mb q C p) (hn : C.length = n) :
    Calls Try.prog 21 #[.pointer (some ⟨ma, 0, none⟩), .pointer (some ⟨mb, 0, none⟩)] w fun e w' => ∃ v T, e = .returned v ∧ SlBB w' v T ∧ T.length = A.length ∧ (∀ i, i < T.length → (T.getD i []).length = p) ∧ (∀ i j, i < A.length → j < p → ent T i j = Mx.prod q (ent A) (ent C) n i j) ∧ Below w.heap.size w w' := by
  have C0 := hid (Mul_mat w ma mb q A C n p ha hb hn)
  clear ha hb hn
  go_enter Try.func21, Try.ntmps21
  go_wp2_with fail
  refine C0.out.mono ?_
  rintro e w2 ⟨m', T, rfl, hm, hl, he, hb⟩
  have HM := hid hm
  have HL := hid hl
  have HE := hid he
  have HB := hid hb
  clear hm hl he hb
  go_wp2_with fail
  refine (Rows_read w2 m' q T p HM.out).mono ?_
  rintro e w3 ⟨v, rfl, hs, hb3⟩
  have HS := hid hs
  have HB3 := hid (below_then HB.out hb3)
  obtain ⟨Av, cv, rfl⟩ := hs.form
  clear hs hb3
  go_wp2
  go_ret
  exact ⟨_, T, rfl, HS.out, HL.out, HM.out.len, HE.out, HB3.out⟩
/-- rows of the same size and elements are the same -/
theorem rows_eq {A C : List (List UInt8)} {n : Nat} (hl : A.length = C.length) (ha : ∀ i, i < A.length → (A.getD i []).length = n) (hc : ∀ i, i < C.length → (C.getD i []).length = n) (h : ∀ i j, i < A.length → j < n → ent A i j = ent C i j) : A = C := by
  apply List.ext_getElem hl
  intro i h1 h2
  have e1 : A.getD i [] = A[i] := by rw [List.getD_eq_getElem?_getD, List.getElem?_eq_getElem h1]; rfl
  have e2 : C.getD i [] = C[i] := by rw [List.getD_eq_getElem?_getD, List.getElem?_eq_getElem h2]; rfl
  have l1 := ha i h1
  have l2 := hc i h2
  rw [e1] at l1
  rw [e2] at l2
  apply List.ext_getElem (by omega)
  intro j h3 h4
  have := h i j h1 (by omega)
  unfold ent at this
  rw [e1, e2, List.getD_eq_getElem?_getD, List.getElem?_eq_getElem h3, List.getD_eq_getElem?_getD, List.getElem?_eq_getElem h4] at this
  exact this
end Go.Proofs.Ytkklonldplekcaa
