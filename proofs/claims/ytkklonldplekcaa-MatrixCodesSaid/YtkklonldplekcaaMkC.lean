/- The walks of package matrix: Cauchy. -/
import Derived.Test.YtkklonldplekcaaCdA
namespace Go.Proofs.Ytkklonldplekcaa
open Go.RowKit
/-- row i is filled up to j, those ahead of it are done -/
def Cau (q : UInt8) (X Y : List UInt8) (n i j : Nat) (T : List (List UInt8)) : Prop := ∀ a b, b < n → (a < i ∨ a = i ∧ b < j) → Gf.mul q (X.getD a 0 ^^^ Y.getD b 0) (ent T a b) = 1
theorem Cau.put {q : UInt8} {X Y : List UInt8} {n i j : Nat} {T T' : List (List UInt8)} {c : UInt8} (h : Cau q X Y n i j T) (he : ent T' = fun a t => if a = i ∧ t = j then c else ent T a t) (hc : Gf.mul q (X.getD i 0 ^^^ Y.getD j 0) c = 1) : Cau q X Y n i (j + 1) T' := by
  intro a b hb hab
  rw [he]
  show Gf.mul q _ (if a = i ∧ b = j then c else ent T a b) = 1
  by_cases e : a = i ∧ b = j
  · rw [if_pos e, e.1, e.2]; exact hc
  · rw [if_neg e]; exact h a b hb (by omega)
theorem Cau.row {q : UInt8} {X Y : List UInt8} {n i j : Nat} {T : List (List UInt8)} (h : Cau q X Y n i j T) (hj : n ≤ j) : Cau q X Y n (i + 1) 0 T := fun a b hb hab => h a b hb (by omega)
/-- what Cauchy answers -/
def CauE (q : UInt8) (X Y : List UInt8) (w : World) (e : Ending) (w' : World) : Prop := ∃ m T, e = .returned (.tuple #[.pointer (some ⟨m, 0, none⟩), .int .i64 0]) ∧ MatAt w' m q T Y.length ∧ T.length = X.length ∧ (∀ i j, i < X.length → j < Y.length → Gf.mul q (X.getD i 0 ^^^ Y.getD j 0) (ent T i j) = 1) ∧ Below w.heap.size w w'
set_option maxRecDepth 100000 in
set_option maxHeartbeats 8000000 in
theorem Cauchy_any (w : World) (fg : Nat) (q : UInt8) (hF : FieldAt w fg q) (u v : Value) (X Y : List UInt8) (hu : SlB w u X) (hv : SlB w v Y) (hX : 0 < X.length ∧ X.length ≤ 256) (hY : 0 < Y.length ∧ Y.length ≤ 256) (hne : ∀ i j, i < X.length → j < Y.length → X.getD i 0 ≠ Y.getD j 0) :
    Calls Try.prog 42 #[.pointer (some ⟨fg, 0, none⟩), u, v] w (CauE q X Y w) := by
  obtain ⟨Au, cu, rfl⟩ := hu.form
  obtain ⟨Av, cv, rfl⟩ := hv.form
  have HU := hid hu
  have HV := hid hv
  have HFD := hid hF
  have HNE := hid hne
  obtain ⟨hp1, hp2⟩ := hX
  obtain ⟨hn1, hn2⟩ := hY
  clear hu hv hF hne
  go_enter Try.func42, Try.ntmps42
  go_wp2_with fail
  refine (sized_ok w _ X.length Y.length ⟨hp1, hp2⟩ ⟨hn1, hn2⟩).mono ?_
  rintro e w ⟨rfl, rfl⟩
  go_wp2_with fail
  refine (blank_mb w.heap.size w w [] (Fam.start w) (some ⟨fg, 0, none⟩) X.length Y.length (by omega) (by omega)).mono ?_
  rintro e w3 ⟨m, R1, vs, rfl, h3⟩
  have H3 := hid h3
  clear h3
  go_wp2
  go_loopw [10, 11, 12, 13, 14, 15, 33] (fun _ _ _ _ _ _ x wr => ∃ (i : Nat) (T : List (List UInt8)), i ≤ X.length ∧ x = .int .i64 i ∧ MB w.heap.size w wr [] (some ⟨fg, 0, none⟩) m R1 X.length vs T Y.length ∧ Cau q X Y Y.length i 0 T) (fun _ _ _ _ _ _ x _ => X.length - (intOf x).toNat)
  case atStart => exact ⟨0, _, Nat.zero_le _, rfl, H3.out, fun a b _ h => by omega⟩
  case round =>
    clear H3
    obtain ⟨wo, rfl⟩ : ∃ wo : World, wo = wr := ⟨_, rfl⟩
    obtain ⟨i, T, hi, rfl, hm, hT⟩ := hrel
    have HT := hid hT
    have HM := hid hm
    by_cases hlt : i < X.length
    · obtain ⟨bu, ou, rfl, hbytes⟩ := (HU.out.below hm.fam.base).cells (by omega)
      have x0 := hbytes i hlt
      obtain ⟨p, hp⟩ : ∃ p, X.getD i 0 = p := ⟨_, rfl⟩
      rw [hp] at x0
      have HP := hid hp
      have i0 : (0 : Int) ≤ (i : Int) := by omega
      have i1 : (i : Int) < (X.length : Int) := by omega
      clear hm hT hbytes hp
      go_wp2
      clear x0
      go_loopw [12, 13, 14, 15, 40] (fun _ _ _ _ x wr => ∃ (j : Nat) (T : List (List UInt8)), j ≤ Y.length ∧ x = .int .i64 j ∧ MB w.heap.size w wr [] (some ⟨fg, 0, none⟩) m R1 X.length vs T Y.length ∧ Cau q X Y Y.length i j T) (fun _ _ _ _ x _ => Y.length - (intOf x).toNat)
      case atStart => exact ⟨0, T, by omega, rfl, HM.out, HT.out⟩
      case round =>
        clear HM HT
        obtain ⟨j, T3, hj, rfl, hm, hT⟩ := hrel
        have HT := hid hT
        have HM := hid hm
        by_cases hjl : j < Y.length
        · obtain ⟨bv, ov, e, hby⟩ := (HV.out.below hm.fam.base).cells (by omega)
          subst e
          have y0 := hby j hjl
          obtain ⟨y, hy⟩ : ∃ y, Y.getD j 0 = y := ⟨_, rfl⟩
          rw [hy] at y0
          have HY := hid hy
          obtain ⟨c, hc⟩ := Gf.inv_ex HFD.out.gen (p ^^^ y) (fun e => HNE.out i j hlt hjl (by rw [HP.out, hy]; exact UInt8.xor_eq_zero_iff.1 e))
          obtain ⟨d, hd⟩ : ∃ d, p ^^^ y = d := ⟨_, rfl⟩
          have HADD := hid (Add_any p y wr)
          rw [hd] at hc HADD
          have HINV := hid (Inv_any fg q d c hc wr (HFD.out.next hm.fam.base))
          have HC : Hid (Gf.mul q (X.getD i 0 ^^^ Y.getD j 0) c = 1) := hid (by rw [HP.out, hy, hd]; exact hc)
          have i5 : (0 : Int) ≤ (j : Int) := by omega
          have i6 : (j : Int) < (Y.length : Int) := by omega
          clear hm hT hby hy hd hc
          go_wp2_with fail
          refine HADD.out.mono ?_
          rintro e w4 ⟨rfl, hw4⟩
          have hw4 := hw4.symm
          subst hw4
          go_wp2_with fail
          refine HINV.out.mono ?_
          rintro e w4 ⟨rfl, nn, rfl⟩
          have hm := HM.out.below (below_drewN (Below.refl wr.heap.size wr) nn)
          obtain ⟨z1, z2⟩ := hm.box
          obtain ⟨g, cg, c0, z0, f0, hput⟩ := hm.cell i j hlt hjl
          obtain ⟨T2, hM2, hl2, he2⟩ := hput c
          have HM2 := hid hM2
          have HT2 : Hid (Cau q X Y Y.length i (j + 1) T2) := hid (HT.out.put he2 HC.out)
          clear hm hput hM2 hl2 he2 z1
          generalize wr.drewN nn = w5 at *
          go_wp2
          clear y0 z2 c0 z0 f0
          go_roundw
          case rel => exact ⟨j + 1, T2, by omega, by go_num, HM2.out, HT2.out⟩
          case measure => simp [intOf]; omega
        · have R2' := hid (HT.out.row (show Y.length ≤ j by omega))
          clear hm hT
          go_wp2
          go_roundw
          case rel => exact ⟨i + 1, T3, by omega, by go_num, HM.out, R2'.out⟩
          case measure => simp [intOf]; omega
    · obtain rfl : i = X.length := by omega
      have HE : Hid (CauE q X Y w (.returned (.tuple #[.pointer (some ⟨m, 0, none⟩), .int .i64 0])) wo) := hid ⟨m, T, rfl, hm.done (HFD.out.next hm.fam.base) ⟨hp1, by omega⟩ ⟨hn1, by omega⟩, hm.r.symm, fun a b ha hb => hT a b hb (.inl ha), hm.fam.base⟩
      clear hm hT
      go_wp2
      go_ret2
      exact HE.out
end Go.Proofs.Ytkklonldplekcaa
