/- The helpers of the matrix laws: taken. -/
import Derived.Test.YtkklonldplekcaaMxS
namespace Go.Proofs.Ytkklonldplekcaa
open Go.RowKit
theorem lit_bytes {w : World} {b : Nat} {t : TypeId} {fr : Nat × Nat} (l : List UInt8) (h : w.heap[b]? = some (.cells (l.map B).toArray t fr)) : SlB w (.slice (some ⟨b, 0, none⟩) l.length l.length) l := by
  refine ⟨_, _, rfl, Nat.le_refl _, (fun e => by cases e), fun _ => ⟨b, 0, rfl, fun i hi => ?_⟩⟩
  rw [cell_of_row w b (0 + i) _ t fr h]
  simp [hi]
theorem lit_rows {w : World} {b : Nat} {t : TypeId} {fr : Nat × Nat} (vs : List Value) (M : List (List UInt8)) (hl : vs.length = M.length) (h : w.heap[b]? = some (.cells vs.toArray t fr)) (hr : ∀ i, i < M.length → SlB w (vs.getD i (.slice none 0 0)) (M.getD i [])) : SlBB w (.slice (some ⟨b, 0, none⟩) M.length M.length) M := by
  refine ⟨fun i => vs.getD i (.slice none 0 0), ⟨_, _, rfl, Nat.le_refl _, (fun e => by cases e), fun _ => ⟨b, 0, rfl, fun i hi => ?_⟩⟩, hr⟩
  rw [cell_of_row w b (0 + i) _ t fr h]
  simp [hl, hi]
theorem lit_22 {w : World} {a b c d : UInt8} (w' : World) (hw : w' = ((w.alloc (.cells #[B a, B b] 5 (0, 0))).alloc (.cells #[B c, B d] 5 (0, 0))).alloc (.cells #[.slice (some ⟨w.heap.size, 0, none⟩) 2 2, .slice (some ⟨w.heap.size + 1, 0, none⟩) 2 2] 22 (0, 0))) :
    SlBB w' (.slice (some ⟨w.heap.size + 2, 0, none⟩) 2 2) [[a, b], [c, d]] ∧ Below w.heap.size w w' := by
  subst hw
  have h1 := heap_alloc_new w (.cells #[B a, B b] 5 (0, 0))
  have h2 := heap_alloc_new (w.alloc (.cells #[B a, B b] 5 (0, 0))) (.cells #[B c, B d] 5 (0, 0))
  have e1 : (w.alloc (.cells #[B a, B b] 5 (0, 0))).heap.size = w.heap.size + 1 := by simp
  rw [e1] at h2
  have b1 := (Below.refl w.heap.size w).alloc (Nat.le_refl _) (.cells #[B a, B b] 5 (0, 0))
  have b2 := (Below.refl (w.alloc (.cells #[B a, B b] 5 (0, 0))).heap.size (w.alloc (.cells #[B a, B b] 5 (0, 0)))).alloc (Nat.le_refl _) (.cells #[B c, B d] 5 (0, 0))
  have b3 := (Below.refl ((w.alloc (.cells #[B a, B b] 5 (0, 0))).alloc (.cells #[B c, B d] 5 (0, 0))).heap.size ((w.alloc (.cells #[B a, B b] 5 (0, 0))).alloc (.cells #[B c, B d] 5 (0, 0)))).alloc (Nat.le_refl _) (.cells #[.slice (some ⟨w.heap.size, 0, none⟩) 2 2, .slice (some ⟨w.heap.size + 1, 0, none⟩) 2 2] 22 (0, 0))
  have s1 := ((lit_bytes (l := [a, b]) h1).below b2).below b3
  have s2 := (lit_bytes (l := [c, d]) h2).below b3
  refine ⟨?_, below_then (below_then b1 b2) b3⟩
  have h3 := heap_alloc_new ((w.alloc (.cells #[B a, B b] 5 (0, 0))).alloc (.cells #[B c, B d] 5 (0, 0))) (.cells #[.slice (some ⟨w.heap.size, 0, none⟩) 2 2, .slice (some ⟨w.heap.size + 1, 0, none⟩) 2 2] 22 (0, 0))
  have e2 : ((w.alloc (.cells #[B a, B b] 5 (0, 0))).alloc (.cells #[B c, B d] 5 (0, 0))).heap.size = w.heap.size + 2 := by simp
  rw [e2] at h3
  refine lit_rows [.slice (some ⟨w.heap.size, 0, none⟩) 2 2, .slice (some ⟨w.heap.size + 1, 0, none⟩) 2 2] [[a, b], [c, d]] rfl h3 fun i hi => ?_
  match i, hi with
  | 0, _ => exact s1
  | 1, _ => exact s2
namespace Mx
open Go.Proofs.Ytkklonldplekcaa.Gf
theorem solve_unique {q : UInt8} {n : Nat} {X M : Nat → Nat → UInt8} {y v : Nat → UInt8} (h1 : ∀ i j, i < n → j < n → prod q X M n i j = unitM i j) (h2 : ∀ i, i < n → ap q M n y i = v i) : ∀ i, i < n → y i = ap q X n v i := by
  intro i hi
  have e := prod_assoc q X M (fun l _ => y l) n n i 0
  rw [prod_congr (A' := unitM) (B' := fun l _ => y l) (fun l hl => h1 i l hi hl) (fun _ _ => rfl), prod_unit_l q _ n i 0 hi] at e
  rw [e]
  exact sm_congr n fun l hl => by rw [← h2 l hl]; rfl
end Mx
def M0 : List (List UInt8) := [[1, 1], [1, 2]]
def X0 : List (List UInt8) := [[0xf5, 0xf4], [0xf4, 0xf4]]
theorem two_cases {P : Nat → Prop} (h0 : P 0) (h1 : P 1) : ∀ i, i < 2 → P i
  | 0, _ => h0
  | 1, _ => h1
theorem inv0_l : ∀ i j, i < 2 → j < 2 → Mx.prod 0x1d (ent X0) (ent M0) 2 i j = Mx.unitM i j := fun i j hi hj =>
  two_cases (P := fun i => ∀ j, j < 2 → Mx.prod 0x1d (ent X0) (ent M0) 2 i j = Mx.unitM i j) (two_cases (by kernel_rfl) (by kernel_rfl)) (two_cases (by kernel_rfl) (by kernel_rfl)) i hi j hj
theorem rank0 (g : Gf.Gen 0x1d) : Mx.Rk 0x1d (ent M0) 2 2 2 := Mx.full_of_inverse g inv0_l
theorem len_of {A : List (List UInt8)} (h : A = M0 ∨ A = X0) : ∀ i, i < A.length → (A.getD i []).length = 2 := by
  rcases h with rfl | rfl <;> exact two_cases rfl rfl
theorem inv0_eq {X : List (List UInt8)} (hl : X.length = 2) (hn : ∀ i, i < X.length → (X.getD i []).length = 2) (h : ∀ i j, i < 2 → j < 2 → Mx.prod 0x1d (ent M0) (ent X) 2 i j = Mx.unitM i j) : X = X0 :=
  rows_eq hl hn (len_of (.inr rfl)) fun i j hi hj => Mx.inverse_twice inv0_l h i j (by omega) hj
theorem sol0_eq {Y : List UInt8} {B : Nat → Nat → UInt8} {piv : List Nat} (hr : Mx.Red 0x1d 2 3 (Mx.withCol 2 (ent M0) fun i => [(0 : UInt8), 3].getD i 0) B piv 2) (h0 : ∀ i, piv.length ≤ i → i < 2 → B i 2 = 0) (hY : Y.length = 2 ∧ ∀ j, j < 2 → Y.getD j 0 = Mx.sol piv B 2 j) : Y = [1, 1] := by
  have h1 := Mx.solve_unique inv0_l (Mx.solved_of hr h0)
  have e : ∀ j, j < 2 → Y.getD j 0 = Mx.ap 0x1d (ent X0) 2 (fun i => [(0 : UInt8), 3].getD i 0) j := fun j hj => by rw [hY.2 j hj, h1 j hj]
  have e0 := e 0 (by omega)
  have e1 := e 1 (by omega)
  rw [show Mx.ap 0x1d (ent X0) 2 (fun i => [(0 : UInt8), 3].getD i 0) 0 = 1 by kernel_rfl] at e0
  rw [show Mx.ap 0x1d (ent X0) 2 (fun i => [(0 : UInt8), 3].getD i 0) 1 = 1 by kernel_rfl] at e1
  match Y, hY.1 with
  | [a, b], _ => 
    have e0 : a = 1 := e0
    have e1 : b = 1 := e1
    rw [e0, e1]
theorem sol0_ex {B : Nat → Nat → UInt8} {piv : List Nat} (hr : Mx.Red 0x1d 2 3 (Mx.withCol 2 (ent M0) fun i => [(0 : UInt8), 3].getD i 0) B piv 2) {i : Nat} (h1 : piv.length ≤ i) (h2 : i < 2) (h3 : B i 2 ≠ 0) : False :=
  Mx.unsolved_of hr h1 h2 h3 ⟨fun _ => 1, two_cases (by kernel_rfl) (by kernel_rfl)⟩
set_option maxRecDepth 100000 in
set_option maxHeartbeats 4000000 in
theorem taken_any (w : World) : Calls Try.prog 26 #[] w fun e w' => e = .returned (.bool true) ∧ Below w.heap.size w w' := by
  go_enter Try.func26, Try.ntmps26
  go_wp2_with fail
  refine (Std_any w).mono ?_
  rintro e w1 ⟨fg, rfl, -, hF, hb1⟩
  have HF := hid hF
  have HB1 := hid hb1
  clear hF hb1
  go_wp2_with fail
  refine Calls.seen (fun W => SlBB W (.slice (some ⟨w1.heap.size + 1 + 1, 0, none⟩) 2 2) M0 ∧ Below w1.heap.size w1 W) (lit_22 (a := 1) (b := 1) (c := 1) (d := 2) _ rfl) fun w2 H2 => ?_
  refine (New_any w2 fg 0x1d (HF.out.next H2.out.2) _ M0 2 H2.out.1 (by decide) (len_of (.inl rfl)) (by decide)).mono ?_
  rintro e w3 ⟨m, rfl, hm, hb3⟩
  have HM := hid hm
  have HB3 := hid (below_then (below_then HB1.out H2.out.2) hb3)
  clear hm hb3 H2
  go_wp2_with fail
  refine (Rank_any w3 m 0x1d M0 2 HM.out).mono ?_
  rintro e w4 ⟨k, rfl, hk, hb4⟩
  obtain rfl : k = 2 := hk.unique (rank0 HF.out.gen)
  have HM4 := hid (HM.out.below hb4)
  have HB4 := hid (below_then HB3.out hb4)
  clear hk hb4 HB3
  go_wp2_with fail
  refine (Invert_any w4 m 0x1d M0 2 HM4.out rfl (by omega)).mono ?_
  rintro e w5 ⟨hb5, ⟨k, hk, hrk, _⟩ | ⟨m2, X, rfl, hm2, hl2, hp1, hp2⟩⟩
  · exact absurd (hrk.unique (rank0 HF.out.gen)) (by omega)
  obtain rfl : X = X0 := inv0_eq hl2 (by have := hm2.len; exact this) hp1
  have HM5 := hid (HM4.out.below hb5)
  have HX5 := hid hm2
  have HB5 := hid (below_then HB4.out hb5)
  clear hb5 hm2 hl2 hp1 hp2 HB4
  go_wp2_with fail
  refine Calls.seen (fun W => SlB W (.slice (some ⟨w5.heap.size, 0, none⟩) 2 2) [0, 3] ∧ Below w5.heap.size w5 W) ⟨lit_bytes [0, 3] (heap_alloc_new _ _), (Below.refl _ _).alloc (Nat.le_refl _) _⟩ fun w6 H6 => ?_
  refine (Solve_any w6 m 0x1d M0 2 (HM5.out.below H6.out.2) (by decide) _ [0, 3] H6.out.1 rfl).mono ?_
  rintro e w7 ⟨hb7, B, piv, hred, ⟨⟨i, h1, h2, h3⟩, _⟩ | ⟨h0, v, Y, rfl, hoy, hy1, hy2⟩⟩
  · exact absurd (sol0_ex hred h1 h2 h3) id
  obtain rfl : Y = [1, 1] := sol0_eq hred h0 ⟨hy1, hy2⟩
  have HB7 := hid (below_then (below_then HB5.out H6.out.2) hb7)
  have HX7 := hid ((HX5.out.below H6.out.2).below hb7)
  have HY7 := hid hoy.sl
  obtain ⟨Ay, cy, rfl⟩ := hoy.form
  clear hb7 hred h0 hoy hy1 hy2 H6 HX5 HB5
  go_wp2_with fail
  refine (Rows_read w7 m2 0x1d X0 2 HX7.out).mono ?_
  rintro e w8 ⟨v8, rfl, hs8, hb8⟩
  have HS8 := hid hs8
  have HB8 := hid (below_then HB7.out hb8)
  have HY8 := hid (HY7.out.below hb8)
  obtain ⟨A8, c8, rfl⟩ := hs8.form
  clear hs8 hb8 HB7 HY7
  go_wp2_with fail
  refine Calls.seen (fun W => SlBB W (.slice (some ⟨w8.heap.size + 1 + 1, 0, none⟩) 2 2) X0 ∧ Below w8.heap.size w8 W) (lit_22 (a := 0xf5) (b := 0xf4) (c := 0xf4) (d := 0xf4) _ rfl) fun w9 H9 => ?_
  refine (sameRows_yes w9 _ _ X0 (HS8.out.below H9.out.2) H9.out.1 (by decide)).mono ?_
  rintro e wx ⟨rfl, nn, rfl⟩
  have HB9 := hid (below_drewN (below_then HB8.out H9.out.2) nn)
  have HY9 := hid ((HY8.out.below H9.out.2).drewN nn)
  generalize w9.drewN nn = wx at *
  clear H9 HS8 HB8 HY8
  go_wp2_with fail
  refine Calls.seen (fun W => SlB W (.slice (some ⟨wx.heap.size, 0, none⟩) 2 2) [1, 1] ∧ Below wx.heap.size wx W) ⟨lit_bytes [1, 1] (heap_alloc_new _ _), (Below.refl _ _).alloc (Nat.le_refl _) _⟩ fun wy H10 => ?_
  refine (sameBytes_yes wy _ _ [1, 1] (HY9.out.below H10.out.2) H10.out.1).mono ?_
  rintro e wz ⟨rfl, rfl⟩
  have HE := hid (below_then HB9.out H10.out.2)
  clear H10
  go_wp2
  go_ret
  exact ⟨rfl, HE.out⟩
end Go.Proofs.Ytkklonldplekcaa
