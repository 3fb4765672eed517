/- The walks of package code: sum, shaped, New. -/
import Derived.Test.YtkklonldplekcaaCdA
namespace Go.Proofs.Ytkklonldplekcaa
open Go.RowKit
/-- a code, as it lies in memory -/
structure CodeAt (w : World) (c n k : Nat) (G : List (List UInt8)) : Prop where
  ex : ∃ fg Rv, w.heap[c]? = some (.cells #[.pointer (some ⟨fg, 0, none⟩), .int .i64 (n : Int), .int .i64 (k : Int), Rv] 120 (0, 0)) ∧ FieldAt w fg 0x1d ∧ SlBB w Rv G
  len : G.length = n
  row : ∀ i, i < n → (G.getD i []).length = k
  k1 : 1 ≤ k
  kn : k ≤ n
  n255 : n ≤ 255
theorem CodeAt.below {w w' : World} {c n k : Nat} {G : List (List UInt8)} (h : CodeAt w c n k G) (hb : Below w.heap.size w w') : CodeAt w' c n k G := by
  obtain ⟨⟨fg, Rv, h1, h2, h3⟩, a, b, d, e, f⟩ := h
  exact ⟨⟨fg, Rv, (hb.block c (blk_lt h1)).trans h1, h2.next hb, h3.below hb⟩, a, b, d, e, f⟩
theorem CodeAt.cells {w : World} {c n k : Nat} {G : List (List UInt8)} (h : CodeAt w c n k G) : ∃ fg R o cp, FieldAt w fg 0x1d ∧ w.cell? ⟨c, 0, none⟩ = some (.pointer (some ⟨fg, 0, none⟩)) ∧ w.cell? ⟨c, 1, none⟩ = some (.int .i64 (n : Int)) ∧ w.cell? ⟨c, 2, none⟩ = some (.int .i64 (k : Int)) ∧ w.cell? ⟨c, 3, none⟩ = some (.slice (some ⟨R, o, none⟩) n cp) ∧
    ∀ i, i < n → ∃ A q, w.cell? ⟨R, o + i, none⟩ = some (.slice A k q) ∧ SlB w (.slice A k q) (G.getD i []) := by
  have hk1 := h.k1
  have hkn := h.kn
  obtain ⟨⟨fg, Rv, h1, h2, h3⟩, a, b, d, e, f⟩ := h
  obtain ⟨R, o, cp, rfl, hr⟩ := h3.cells (n := k) (by omega) (by rw [a]; exact b)
  rw [a] at h1 hr
  exact ⟨fg, R, o, cp, h2, by rw [blk_cell h1]; rfl, by rw [blk_cell h1]; rfl, by rw [blk_cell h1]; rfl, by rw [blk_cell h1]; rfl, hr⟩
/-- the sum of multiples of rows of s bytes -/
def comb (F : List UInt8) (D : List (List UInt8)) (s : Nat) : List UInt8 := (List.range s).map fun t => Mx.sm D.length fun j => Gf.mul 0x1d (F.getD j 0) (ent D j t)
theorem comb_length (F : List UInt8) (D : List (List UInt8)) (s : Nat) : (comb F D s).length = s := by simp [comb]
theorem comb_get (F : List UInt8) (D : List (List UInt8)) (s t : Nat) (ht : t < s) : (comb F D s).getD t 0 = Mx.sm D.length fun j => Gf.mul 0x1d (F.getD j 0) (ent D j t) := by simp [comb, ht]
set_option maxRecDepth 100000 in
set_option maxHeartbeats 8000000 in
theorem sum_any (w : World) (c n k : Nat) (G : List (List UInt8)) (h : CodeAt w c n k G) (u : Value) (F : List UInt8) (hu : SlB w u F) (v : Value) (D : List (List UInt8)) (hv : SlBB w v D) (s : Nat) (hs : ∀ i, i < D.length → (D.getD i []).length = s) (hD : 0 < D.length) (hF : D.length ≤ F.length) (hF2 : F.length ≤ 1024) (hs2 : s ≤ 140737488355328) :
    Calls Try.prog 79 #[.pointer (some ⟨c, 0, none⟩), u, v] w fun e w' => ∃ y, e = .returned y ∧ OwnB w' w.heap.size y (comb F D s) ∧ Below w.heap.size w w' := by
  obtain ⟨fg, R, o, cp, hfd, c0, _, _, _, _⟩ := h.cells
  obtain ⟨R2, o2, c2, rfl, hrow⟩ := hv.cells hD hs
  obtain ⟨Au, cu, rfl⟩ := hu.form
  obtain ⟨A0, q0, z0, _⟩ := hrow 0 hD
  rw [Nat.add_zero] at z0
  have HFD := hid hfd
  have HU := hid hu
  have HROW := hid hrow
  have HC := hid c0
  have HS := hid hs
  obtain ⟨w1, hmk, ho1, hb1⟩ := make_bytes w s (by omega)
  obtain ⟨g, hg⟩ : ∃ g, w.heap.size = g := ⟨_, rfl⟩
  rw [hg] at hmk ho1 hb1 ⊢
  have HG := hid hg
  have HO1 := hid ho1
  have HB1 := hid hb1
  clear h hv hu hfd hrow ho1 hb1 hg hs c0
  go_enter Try.func79, Try.ntmps79
  go_wp2
  clear hmk z0
  go_loopw [8, 9, 17] (fun _ _ x wr => ∃ (j : Nat) (Y : List UInt8), j ≤ D.length ∧ x = .int .i64 j ∧ OwnB wr g (.slice (some ⟨g, 0, none⟩) s s) Y ∧ (Y.length = s ∧ ∀ t, t < s → Y.getD t 0 = Mx.sm j fun l => Gf.mul 0x1d (F.getD l 0) (ent D l t)) ∧ Below g w wr) (fun _ _ x _ => D.length - (intOf x).toNat)
  case atStart => exact ⟨0, _, Nat.zero_le _, rfl, HO1.out, ⟨by simp, fun t ht => by simp [ht, Mx.sm]⟩, HB1.out⟩
  case round =>
    clear HO1 HB1
    obtain ⟨j, Y, hj, rfl, hO, hY, hb⟩ := hrel
    have HO := hid hO
    have HY := hid hY
    have HB := hid hb
    have hb2 : Below w.heap.size w wr := by rw [HG.out]; exact hb
    by_cases hlt : j < D.length
    · obtain ⟨A1, q1, e0, s1⟩ := HROW.out j hlt
      have e1 : wr.cell? ⟨R2, o2 + j, none⟩ = some (.slice A1 s q1) := (hb2.cell (World.block_lt_of_cell? w _ e0)).trans e0
      obtain ⟨bu, ou, rfl, hbytes⟩ := (HU.out.below hb2).cells (by omega)
      have x0 := hbytes j (by omega)
      obtain ⟨f, hf⟩ : ∃ f, F.getD j 0 = f := ⟨_, rfl⟩
      rw [hf] at x0
      have HFJ := hid hf
      have y0 : wr.cell? ⟨c, 0, none⟩ = some (.pointer (some ⟨fg, 0, none⟩)) := (hb2.cell (World.block_lt_of_cell? w _ HC.out)).trans HC.out
      have hbd := below_then hb2 (Below.refl wr.heap.size wr).drew
      have HADD := hid (AddMul_any fg 0x1d f wr.drew (HFD.out.next hbd) (.slice (some ⟨g, 0, none⟩) s s) Y g hO.drew (some ⟨g, 0, none⟩) 0 s s (fun _ => ⟨g, s, by rw [hY.1], rfl, by have := HFD.out.lt; have := HG.out; omega⟩) (by omega) (.slice A1 s q1) (D.getD j []) (s1.below hbd) (HS.out j hlt) (by omega) (Nat.le_refl _))
      have i0 : (0 : Int) ≤ (j : Int) := by omega
      have i1 : (j : Int) < (D.length : Int) := by omega
      have i2 : (j : Int) < (F.length : Int) := by omega
      clear hO hY hb hb2 hbd e0 s1 hbytes hf
      go_wp2
      go_still_tail 10, (by kernel_rfl)
      change wpList _ _ _ _ _ wr.drew
      clear e1 x0 y0
      go_wp2_with fail
      refine HADD.out.mono ?_
      rintro e w3 ⟨rfl, ho, hg⟩
      have R1 := hid ho
      have R2' : Hid ((am 0x1d f 0 Y (D.getD j []) (D.getD j []).length).length = s ∧ ∀ t, t < s → (am 0x1d f 0 Y (D.getD j []) (D.getD j []).length).getD t 0 = Mx.sm (j + 1) fun l => Gf.mul 0x1d (F.getD l 0) (ent D l t)) := hid ⟨by rw [am_length]; exact HY.out.1, fun t ht => by
        rw [am_get _ _ _ _ _ _ _ (by have := HY.out.1; omega), if_pos (by have := HS.out j hlt; omega), HY.out.2 t ht]
        rw [← HFJ.out]; rfl⟩
      have R3 : Hid (Below g w w3) := hid (OwnB.grown (HB.out.drew) HO.out.drew (Nat.le_refl _) (by have := HB.out.size; have := HG.out; show g ≤ wr.heap.size; omega) hg)
      clear ho hg HADD
      go_wp2
      go_roundw
      case rel => exact ⟨j + 1, _, by omega, by go_num, R1.out, R2'.out, R3.out⟩
      case measure => simp [intOf]; omega
    · have R1 : Hid (OwnB wr g (.slice (some ⟨g, 0, none⟩) s s) (comb F D s)) := hid (by
        have e : Y = comb F D s := by
          apply List.ext_getElem (by rw [comb_length]; exact hY.1)
          intro t h1 h2
          have h3 := hY.2 t (by have := hY.1; omega)
          rw [show j = D.length by omega, ← comb_get F D s t (by have := hY.1; omega), List.getD_eq_getElem?_getD, List.getD_eq_getElem?_getD, List.getElem?_eq_getElem h1, List.getElem?_eq_getElem h2] at h3
          exact h3
        rw [← e]; exact hO)
      clear hO hY hb hb2
      go_wp2
      go_ret
      exact ⟨_, rfl, R1.out, HB.out⟩
theorem IndexFuncG_no (w : World) (cl rb R o r c : Nat) (hcf : ∀ (args : Array Value) (w : World), (callFunc cl args).run Try.prog w = .ok (.enter cl args) w) (h : ∀ i, i < r → ∃ v, w.cell? ⟨R, o + i, none⟩ = some v ∧ Calls Try.prog cl #[v, .pointer (some ⟨rb, 0, none⟩)] w fun e w' => e = .returned (.bool false) ∧ w' = w) (hr : r ≤ 1099511627776) : Calls Try.prog 112 #[.slice (some ⟨R, o, none⟩) r c, .func (.func cl) #[] #[.pointer (some ⟨rb, 0, none⟩)]] w fun e w' => e = .returned (.int .i64 (-1)) ∧ w' = w := by
  have H := hid h
  clear h
  go_enter Try.func112, Try.ntmps112
  go_wp2
  go_loop [5, 8] (fun _ x => ∃ k : Nat, k ≤ r ∧ x = .int .i64 k) (fun _ x => r - (intOf x).toNat)
  case atStart => exact ⟨0, Nat.zero_le _, rfl⟩
  case round =>
    obtain ⟨k, hk, rfl⟩ := hrel
    by_cases hlt : k < r
    · obtain ⟨v, c0, hc⟩ := H.out k hlt
      have HC := hid hc
      have i0 : (0 : Int) ≤ (k : Int) := by omega
      have i1 : (k : Int) < (r : Int) := by omega
      clear hc
      go_wp2_with fail
      refine HC.out.mono ?_
      rintro e w ⟨rfl, rfl⟩
      go_wp2
      go_round
      case rel => exact ⟨k + 1, by omega, by go_num⟩
      case measure => simp [intOf]; omega
    · go_wp2
      go_ret
      exact ⟨rfl, rfl⟩
theorem ContainsFuncG_no (w : World) (cl rb R o r c : Nat) (hcf : ∀ (args : Array Value) (w : World), (callFunc cl args).run Try.prog w = .ok (.enter cl args) w) (h : ∀ i, i < r → ∃ v, w.cell? ⟨R, o + i, none⟩ = some v ∧ Calls Try.prog cl #[v, .pointer (some ⟨rb, 0, none⟩)] w fun e w' => e = .returned (.bool false) ∧ w' = w) (hr : r ≤ 1099511627776) : Calls Try.prog 74 #[.slice (some ⟨R, o, none⟩) r c, .func (.func cl) #[] #[.pointer (some ⟨rb, 0, none⟩)]] w fun e w' => e = .returned (.bool false) ∧ w' = w := by
  have C := hid (IndexFuncG_no w cl rb R o r c hcf h hr)
  clear h hcf
  go_enter Try.func74, Try.ntmps74
  go_wp2_with fail
  refine C.out.mono ?_
  rintro e w ⟨rfl, rfl⟩
  go_wp2
  go_ret
  exact ⟨rfl, rfl⟩
theorem shaped1_no (w : World) (rb R o r c s : Nat) (h : Bx1 w rb R o r c s) (A : Option Addr) (k : Nat) : Calls Try.prog 114 #[.slice A s k, .pointer (some ⟨rb, 0, none⟩)] w fun e w' => e = .returned (.bool false) ∧ w' = w := by
  obtain ⟨b, rows, hpos⟩ := h
  obtain ⟨A0, k0, c0⟩ := rows 0 hpos
  rw [Nat.add_zero] at c0
  clear rows
  go_enter Try.func114, Try.ntmps114
  go_wp2
  go_ret
  exact ⟨by simp, rfl⟩
set_option maxRecDepth 100000 in
set_option maxHeartbeats 4000000 in
theorem shaped_yes (w : World) (c n k : Nat) (G : List (List UInt8)) (h : CodeAt w c n k G) (v : Value) (D : List (List UInt8)) (hv : SlBB w v D) (s : Nat) (hs : ∀ i, i < D.length → (D.getD i []).length = s) (hD : D.length = k) :
    Calls Try.prog 78 #[.pointer (some ⟨c, 0, none⟩), v] w fun e w' => e = .returned (.bool true) ∧ Below w.heap.size w w' := by
  have hmf : ∀ (fn : Fn) (first cap : Array Value) (w : World), (Instr.makeFunc fn first cap).run Try.prog w = .ok (.func fn first cap) w := fun _ _ _ _ => rfl
  have hk1 := h.k1
  have hk2 : k ≤ 255 := Nat.le_trans h.kn h.n255
  obtain ⟨fg, R0, o0, cp, hfd, _, _, c2, _, _⟩ := h.cells
  obtain ⟨R, o, cD, rfl, hrow⟩ := hv.cells (by omega) hs
  rw [hD] at hrow ⊢
  have HROW := hid hrow
  have HC := hid c2
  clear h hv hfd hrow hs hD c2
  go_enter Try.func78, Try.ntmps78
  go_upto_region 1 with (fail)
  obtain ⟨rb, hrb⟩ : ∃ rb, w.heap.size = rb := ⟨_, rfl⟩
  refine Code.seen (fun W => Bx1 W rb R o k cD s ∧ Below w.heap.size w W) ?_ fun w1 H1 => ?_
  · rw [← hrb]
    have hb := (Below.refl w.heap.size w).alloc (Nat.le_refl _) (.cells #[.slice (some ⟨R, o, none⟩) k cD] 35 (0, 0))
    exact ⟨⟨by rw [blk_cell (heap_alloc_new _ _)]; rfl, fun i hi => by obtain ⟨A, q, c0, _⟩ := HROW.out i hi; exact ⟨A, q, (hb.cell (World.block_lt_of_cell? w _ c0)).trans c0⟩, by omega⟩, hb⟩
  rw [hrb]
  have b0 := H1.out.1.box
  have c2 : w1.cell? ⟨c, 2, none⟩ = some (.int .i64 (k : Int)) := (H1.out.2.cell (World.block_lt_of_cell? w _ HC.out)).trans HC.out
  have HCON : Hid (∀ kk, Calls Try.prog 74 #[.slice (some ⟨R, o, none⟩) k cD, .func (.func 114) #[] #[.pointer (some ⟨rb, 0, none⟩)]] (w1.drewN kk) fun e w' => e = .returned (.bool false) ∧ ∃ m, w' = (w1.drewN kk).drewN m) := hid fun kk =>
    (ContainsFuncG_no (w1.drewN kk) 114 rb R o k cD (fun _ _ => by kernel_rfl) (fun i hi => by
      obtain ⟨A, q, c0⟩ := H1.out.1.rows i hi
      exact ⟨_, c0, shaped1_no (w1.drewN kk) rb R o k cD s ⟨H1.out.1.box, H1.out.1.rows, by omega⟩ A q⟩) (by omega)).mono fun _ _ ⟨a, b⟩ => ⟨a, 0, b⟩
  have HB1 := hid H1.out.2
  clear H1 hrb
  go_quiet ((go_at_call 74; with_reducible exact Calls.quiet_of (HCON.out _)))
  have HE := hid (below_drewN HB1.out nq)
  clear b0 c2 HCON
  go_wp2
  go_ret
  exact ⟨rfl, HE.out⟩
/-- the values at the points 0 .. of the powers -/
def VM : Nat → Nat → UInt8 := fun i j => Mx.pwr 0x1d (UInt8.ofNat i) j
/-- the generator -/
def GenOf (n k : Nat) (G : List (List UInt8)) : Prop := ∃ X : Nat → Nat → UInt8, (∀ i j, i < k → j < k → Mx.prod 0x1d VM X k i j = Mx.unitM i j) ∧ (∀ i j, i < k → j < k → Mx.prod 0x1d X VM k i j = Mx.unitM i j) ∧ ∀ i j, i < n → j < k → ent G i j = Mx.prod 0x1d VM X k i j
theorem full_of_null {q : UInt8} (g : Gf.Gen q) {A : Nat → Nat → UInt8} {n k : Nat} (hk : Mx.Rk q A n n k) (h : ∀ x, Mx.Null q A n n x → ∀ j, j < n → x j = 0) : k = n :=
  hk.full_iff.2 ((Mx.free_iff g).2 h)
theorem ofNat_inj {i j : Nat} (hi : i < 256) (hj : j < 256) (h : UInt8.ofNat i = UInt8.ofNat j) : i = j := by
  have := congrArg UInt8.toNat h
  simp at this
  omega
theorem vm_full (g : Gf.Gen 0x1d) {k r : Nat} (hk : k ≤ 255) (hr : Mx.Rk 0x1d VM k k r) : r = k :=
  full_of_null g hr fun x hx => Mx.vander_null g k (fun i => UInt8.ofNat i) (fun i j hi hj e => ofNat_inj (by omega) (by omega) e) x hx
/-- the list of the points -/
def pts (n : Nat) : List UInt8 := (List.range n).map UInt8.ofNat
theorem pts_length (n : Nat) : (pts n).length = n := by simp [pts]
theorem pts_get (n i : Nat) (hi : i < n) : (pts n).getD i 0 = UInt8.ofNat i := by simp [pts, hi]
theorem pts_take (n k : Nat) (hk : k ≤ n) : (pts n).take k = pts k := by
  unfold pts
  rw [← List.map_take, List.take_range, Nat.min_eq_left hk]
end Go.Proofs.Ytkklonldplekcaa
