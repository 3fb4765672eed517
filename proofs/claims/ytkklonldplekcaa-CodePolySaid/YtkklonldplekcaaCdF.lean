/- Plain law: any k rows of the generator have an inverse. Walk: slices.Equal of bytes. -/
import Derived.Test.YtkklonldplekcaaCdE
namespace Go.Proofs.Ytkklonldplekcaa
open Go.RowKit
theorem ap_col (q : UInt8) (A : Nat → Nat → UInt8) (n : Nat) (x : Nat → UInt8) (i : Nat) : Mx.ap q A n x i = Mx.prod q A (fun l _ => x l) n i 0 := rfl
theorem ap_prod (q : UInt8) (A X : Nat → Nat → UInt8) (k : Nat) (x : Nat → UInt8) (i : Nat) : Mx.ap q (Mx.prod q A X k) k x i = Mx.ap q A k (Mx.ap q X k x) i := by
  rw [ap_col, Mx.prod_assoc]
  rfl
theorem gen_full (g : Gf.Gen 0x1d) {n k r : Nat} {G HS : List (List UInt8)} (hG : GenOf n k G) (hn : n ≤ 255) (idx : Nat → Nat) (hi : ∀ i, i < k → idx i < n) (hinj : ∀ i j, i < k → j < k → idx i = idx j → i = j) (hH : ∀ i j, i < k → j < k → ent HS i j = ent G (idx i) j) (hr : Mx.Rk 0x1d (ent HS) k k r) : r = k := by
  obtain ⟨X, h1, h2, h3⟩ := hG
  refine full_of_null g hr fun x hx => ?_
  have hy : ∀ l, l < k → Mx.ap 0x1d X k x l = 0 := Mx.vander_null g k (fun i => UInt8.ofNat (idx i)) (fun i j hi' hj' e => hinj i j hi' hj' (ofNat_inj (by have := hi i hi'; omega) (by have := hi j hj'; omega) e)) (Mx.ap 0x1d X k x) fun i hi' => by
    have h0 := hx i hi'
    have e : Mx.ap 0x1d (ent HS) k x i = Mx.ap 0x1d (Mx.prod 0x1d VM X k) k x (idx i) := Mx.sm_congr k fun j hj => by rw [hH i j hi' hj, h3 (idx i) j (hi i hi') hj]
    rw [e, ap_prod] at h0
    exact h0
  intro j hj
  have e1 : Mx.ap 0x1d (Mx.prod 0x1d VM X k) k x j = x j := by
    have e2 : Mx.ap 0x1d (Mx.prod 0x1d VM X k) k x j = Mx.ap 0x1d Mx.unitM k x j := Mx.sm_congr k fun l hl => by rw [h1 j l hj hl]
    rw [e2, ap_col, Mx.prod_unit_l _ _ _ _ _ hj]
  rw [← e1, ap_prod]
  exact Mx.sm_null k fun l hl => by rw [hy l hl, Gf.mul_zero]
set_option maxHeartbeats 2000000 in
theorem Equal_any (w : World) (u v : Value) (l m : List UInt8) (hu : SlB w u l) (hv : SlB w v m) (hlen : l.length ≤ 1099511627776) : Calls Try.prog 85 #[u, v] w fun e w' => e = .returned (.bool (decide (l = m))) ∧ ∃ n, w' = w.drewN n := by
  obtain ⟨A, c, rfl⟩ := hu.form
  obtain ⟨A2, c2, rfl⟩ := hv.form
  have HU := hid hu
  have HV := hid hv
  clear hu hv
  by_cases hl : l.length = m.length
  · obtain ⟨n, hn⟩ : ∃ n, m.length = n := ⟨_, rfl⟩
    rw [hn] at hl HV ⊢
    rw [hl] at HU ⊢
    have HL := hid hl
    have HM := hid hn
    have hn2 : n ≤ 1099511627776 := by omega
    have hb : ((n : Int) != (n : Int)) = false := by simp
    clear hl hn
    go_enter Try.func85, Try.ntmps85
    go_wp2
    go_loopw [5, 13] (fun _ x wr => ∃ k nn : Nat, k ≤ n ∧ x = .int .i64 k ∧ wr = w.drewN nn ∧ ∀ i, i < k → l.getD i 0 = m.getD i 0) (fun _ x _ => n - (intOf x).toNat)
    case atStart => exact ⟨0, 0, Nat.zero_le _, rfl, rfl, fun i hi => by omega⟩
    case round =>
      obtain ⟨k, nn, hk, rfl, hw, hall⟩ := hrel
      have HW := hid hw
      have HALL := hid hall
      have hb1 : Below w.heap.size w wr := by rw [hw]; exact below_drewN (Below.refl _ _) nn
      clear hall hw
      by_cases hlt : k < n
      · obtain ⟨b1, o1, rfl, x1⟩ := (HU.out.below hb1).byte (by have := HL.out; omega)
        obtain ⟨b2, o2, rfl, x2⟩ := (HV.out.below hb1).byte (by have := HM.out; omega)
        have y1 := x1 k (by have := HL.out; omega)
        have y2 := x2 k (by have := HM.out; omega)
        obtain ⟨p, hp⟩ : ∃ p, l.getD k 0 = p := ⟨_, rfl⟩
        obtain ⟨q, hq⟩ : ∃ q, m.getD k 0 = q := ⟨_, rfl⟩
        rw [hp] at y1
        rw [hq] at y2
        have i0 : (0 : Int) ≤ (k : Int) := by omega
        have i1 : (k : Int) < (n : Int) := by omega
        have HP := hid hp
        have HQ := hid hq
        clear x1 x2 hb1 hp hq
        by_cases hpq : p = q
        · subst hpq
          have R1 : Hid (∀ i, i < k + 1 → l.getD i 0 = m.getD i 0) := hid fun i hi => by
            by_cases e : i = k
            · rw [e, HP.out, HQ.out]
            · exact HALL.out i (by omega)
          go_wp2
          go_quiet (fail)
          have R2 : Hid (∃ t, wr.drewN nq = w.drewN t) := hid ⟨nn + nq, by rw [HW.out]; exact World.drewN_drewN w nn nq⟩
          clear y1 y2
          go_wp2
          go_roundw
          case rel => exact ⟨k + 1, R2.out.choose, by omega, by go_num, R2.out.choose_spec, R1.out⟩
          case measure => simp [intOf]; omega
        · have hne : ((p.toNat : Int) != (q.toNat : Int)) = true := by rw [bne_iff_ne]; intro e; exact hpq (UInt8.toNat_inj.1 (by exact_mod_cast e))
          have hne2 : (p.toNat != q.toNat) = true := by rw [bne_iff_ne]; intro e; exact hpq (UInt8.toNat_inj.1 e)
          have HD : Hid (decide (l = m) = false) := hid (by
            rw [decide_eq_false_iff_not]
            intro e
            exact hpq (by rw [← HP.out, ← HQ.out, e]))
          clear hpq
          go_wp2
          go_quiet (fail)
          have R2 : Hid (∃ t, wr.drewN nq = w.drewN t) := hid ⟨nn + nq, by rw [HW.out]; exact World.drewN_drewN w nn nq⟩
          clear y1 y2
          go_wp2
          go_ret
          exact ⟨by rw [HD.out]; rfl, R2.out⟩
      · have HD : Hid (decide (l = m) = true) := hid (by
          rw [decide_eq_true_eq]
          apply List.ext_getElem (by rw [HL.out, HM.out])
          intro i h1 h2
          have := HALL.out i (by have := HL.out; omega)
          rw [List.getD_eq_getElem?_getD, List.getD_eq_getElem?_getD, List.getElem?_eq_getElem h1, List.getElem?_eq_getElem h2] at this
          exact this)
        clear hb1
        go_wp2
        go_ret
        exact ⟨by rw [HD.out]; rfl, nn, HW.out⟩
  · have hb : ((l.length : Int) != (m.length : Int)) = true := by rw [bne_iff_ne]; omega
    have hb2 : (l.length != m.length) = true := by rw [bne_iff_ne]; exact hl
    have HD : Hid (decide (l = m) = false) := hid (by
      rw [decide_eq_false_iff_not]
      intro e
      exact hl (by rw [e]))
    clear hl
    go_enter Try.func85, Try.ntmps85
    go_wp2
    go_ret
    exact ⟨by rw [HD.out]; rfl, 0, rfl⟩
end Go.Proofs.Ytkklonldplekcaa
