/- The walks of package code: refused. -/
import Derived.Test.YtkklonldplekcaaCdC
import Derived.Test.YtkklonldplekcaaOpenL
import Derived.Laws.Tables
import Derived.Deep.MidRow
namespace Go.Proofs.Ytkklonldplekcaa
open Go.RowKit
/-- a part, as it lies: its number and its bytes -/
def PR (w : World) (ys : List Value) (p : Int × List UInt8) : Prop := ∃ u, ys = [.int .i64 p.1, u] ∧ SlB w u p.2
def SlP (w : World) (v : Value) (ps : List (Int × List UInt8)) : Prop := SlR PR 2 w v ps
theorem SlP.below {w w' : World} {v : Value} {ps : List (Int × List UInt8)} (h : SlP w v ps) (hb : Below w.heap.size w w') : SlP w' v ps :=
  SlR.below (fun ys a ⟨u, e, hs⟩ => ⟨u, e, hs.below hb⟩) h hb
theorem SlP.form {w : World} {v : Value} {ps : List (Int × List UInt8)} (h : SlP w v ps) : ∃ A c, v = .slice A ps.length c ∧ ps.length ≤ c := by
  obtain ⟨A, c, ys, e, h1, _⟩ := h
  exact ⟨A, c, e, h1⟩
theorem SlP.some_ {w : World} {A : Option Addr} {n c : Nat} {ps : List (Int × List UInt8)} (h : SlP w (.slice A n c) ps) (h0 : 0 < ps.length) : ∃ b off, A = some ⟨b, off, none⟩ ∧ ∀ i p, ps[i]? = some p → ∃ u, w.cell? ⟨b, off + i * 2, none⟩ = some (.int .i64 p.1) ∧ w.cell? ⟨b, off + i * 2 + 1, none⟩ = some u ∧ SlB w u p.2 := by
  obtain ⟨A', c', ys, e1, h1, h2, h3, h4⟩ := h
  injection e1 with e1 e2 e3
  subst e1
  obtain ⟨b, off, eA, hc⟩ := h4 h0
  refine ⟨b, off, eA, fun i p hi => ?_⟩
  have hil := (List.getElem?_eq_some_iff.1 hi).1
  obtain ⟨_, u, hy, hs⟩ := h3 i p hi
  have c0 := hc i hil 0 (by omega)
  have c1 := hc i hil 1 (by omega)
  rw [hy] at c0 c1
  rw [Nat.add_zero] at c0
  rw [← Nat.add_assoc] at c1
  exact ⟨u, c0, c1, hs⟩
/-- which numbers have been seen -/
def seenC (f : Nat → Bool) : Array Value := arr 255 fun i => .bool (f i)
theorem seen_start : Try.prog.built 149 [] = some (seenC fun _ => false) := by kernel_rfl
theorem seen_zero : (Try.prog.info? 149).map (fun i => (i.zero, i.size)) = some (some (.agg (seenC fun _ => false)), 255) := by kernel_rfl
/-- part i -/
def prt (ps : List (Int × List UInt8)) (i : Nat) : Int × List UInt8 := ps.getD i (0, [])
theorem prt_get {ps : List (Int × List UInt8)} {i : Nat} (hi : i < ps.length) : ps[i]? = some (prt ps i) := by
  unfold prt
  rw [List.getD_eq_getElem?_getD, List.getElem?_eq_getElem hi]; rfl
/-- the parts, as they lie: every part's number and bytes -/
structure PAt (w : World) (b off : Nat) (ps : List (Int × List UInt8)) : Prop where
  at_ : ∀ i, i < ps.length → ∃ A c, w.cell? ⟨b, off + i * 2, none⟩ = some (.int .i64 (prt ps i).1) ∧ w.cell? ⟨b, off + i * 2 + 1, none⟩ = some (.slice A (prt ps i).2.length c) ∧ SlB w (.slice A (prt ps i).2.length c) (prt ps i).2
theorem PAt.below {w w' : World} {b off : Nat} {ps : List (Int × List UInt8)} (h : PAt w b off ps) (hb : Below w.heap.size w w') : PAt w' b off ps := ⟨fun i hi => by
  obtain ⟨A, c, h1, h2, h3⟩ := h.at_ i hi
  exact ⟨A, c, (hb.cell (World.block_lt_of_cell? w _ h1)).trans h1, (hb.cell (World.block_lt_of_cell? w _ h2)).trans h2, h3.below hb⟩⟩
theorem SlP.pat {w : World} {A : Option Addr} {n c : Nat} {ps : List (Int × List UInt8)} (h : SlP w (.slice A n c) ps) (h0 : 0 < ps.length) : ∃ b off, A = some ⟨b, off, none⟩ ∧ PAt w b off ps := by
  obtain ⟨b, off, e, h1⟩ := h.some_ h0
  refine ⟨b, off, e, ⟨fun i hi => ?_⟩⟩
  obtain ⟨u, c0, c1, hs⟩ := h1 i _ (prt_get hi)
  obtain ⟨A1, q1, rfl⟩ := hs.form
  exact ⟨A1, q1, c0, c1, hs⟩
theorem part_size : (Try.prog.info? 74).map (·.size) = some 2 := by kernel_rfl
set_option maxHeartbeats 2000000 in
theorem refused1_any (w : World) (rb b off r cp : Nat) (ps : List (Int × List UInt8)) (hb : w.cell? ⟨rb, 0, none⟩ = some (.slice (some ⟨b, off, none⟩) r cp)) (hp : PAt w b off ps) (hr : ps.length = r) (h0 : 0 < r) (x : Int) (A : Option Addr) (m q : Nat) : Calls Try.prog 116 #[.agg #[.int .i64 x, .slice A m q], .pointer (some ⟨rb, 0, none⟩)] w fun e w' => e = .returned (.bool (decide (m ≠ (prt ps 0).2.length))) ∧ Below w.heap.size w w' := by
  obtain ⟨A0, c0, p0, p1, _⟩ := hp.at_ 0 (by omega)
  rw [Nat.zero_mul, Nat.add_zero] at p0 p1
  generalize (prt ps 0).2.length = m0 at *
  have h0' : (0 : Int) < (r : Int) := by omega
  have HB := hid hb
  have HP := hid p1
  clear hp hr p0
  go_enter Try.func116, Try.ntmps116
  go_upto_region 1 with (fail)
  refine Code.seen (fun V => Below w.heap.size w V ∧ V.cell? ⟨w.heap.size, 1, none⟩ = some (.slice A m q)) ⟨(Below.refl _ _).alloc (Nat.le_refl _) _, by rw [blk_cell (heap_alloc_new _ _)]; rfl⟩ fun w1 H1 => ?_
  have b1 : w1.cell? ⟨rb, 0, none⟩ = some (.slice (some ⟨b, off, none⟩) r cp) := (H1.out.1.cell (World.block_lt_of_cell? w _ HB.out)).trans HB.out
  have b2 : w1.cell? ⟨b, off + 1, none⟩ = some (.slice A0 m0 c0) := (H1.out.1.cell (World.block_lt_of_cell? w _ HP.out)).trans HP.out
  have b3 := H1.out.2
  clear hb p1
  by_cases hm : m = m0
  · subst hm
    go_quiet (fail)
    have HE := hid (below_drewN H1.out.1 nq)
    clear b1 b2 b3
    go_wp2
    go_ret
    exact ⟨by simp, HE.out⟩
  · have hne : ((m : Int) != (m0 : Int)) = true := by rw [bne_iff_ne]; omega
    have hne2 : (m != m0) = true := by rw [bne_iff_ne]; exact hm
    go_quiet (fail)
    have HE := hid (below_drewN H1.out.1 nq)
    clear b1 b2 b3
    go_wp2
    go_ret
    exact ⟨by simp [hm], HE.out⟩
/-- all parts are of one size -/
def SameS (ps : List (Int × List UInt8)) : Prop := ∀ i, i < ps.length → (prt ps i).2.length = (prt ps 0).2.length
/-- what is answered: none, or the number of one of another size -/
def IxE (ps : List (Int × List UInt8)) (w : World) (e : Ending) (w' : World) : Prop := Below w.heap.size w w' ∧ ∃ r : Int, e = .returned (.int .i64 r) ∧ (r = -1 ∧ SameS ps ∨ 0 ≤ r ∧ ¬ SameS ps)
set_option maxRecDepth 100000 in
set_option maxHeartbeats 4000000 in
theorem IndexFuncP_any (w : World) (rb r cp : Nat) (A : Option Addr) (ps : List (Int × List UInt8)) (hb : w.cell? ⟨rb, 0, none⟩ = some (.slice A r cp)) (hv : SlP w (.slice A r cp) ps) (hr : ps.length = r) (hr2 : r ≤ 1099511627776) : Calls Try.prog 134 #[.slice A r cp, .func (.func 116) #[] #[.pointer (some ⟨rb, 0, none⟩)]] w (IxE ps w) := by
  have hcf : ∀ (args : Array Value) (w : World), (callFunc 116 args).run Try.prog w = .ok (.enter 116 args) w := fun _ _ => by kernel_rfl
  have HB := hid hb
  have HV := hid hv
  have HR := hid hr
  clear hb hv hr
  go_enter Try.func134, Try.ntmps134
  go_wp2
  go_loopw [5, 8] (fun _ x wr => ∃ k : Nat, k ≤ r ∧ x = .int .i64 k ∧ Below w.heap.size w wr ∧ ∀ i, i < k → (prt ps i).2.length = (prt ps 0).2.length) (fun _ x _ => r - (intOf x).toNat)
  case atStart => exact ⟨0, Nat.zero_le _, rfl, Below.refl _ _, fun i hi => by omega⟩
  case round =>
    obtain ⟨k, hk, rfl, hbw, hall⟩ := hrel
    have HBW := hid hbw
    have HALL := hid hall
    by_cases hlt : k < r
    · obtain ⟨b, off, rfl, hp⟩ := HV.out.pat (by have := HR.out; omega)
      have hpw := hp.below hbw
      obtain ⟨A1, c1, p0, p1, s1⟩ := hpw.at_ k (by have := HR.out; omega)
      have CR := hid (fun x m q => refused1_any wr rb b off r cp ps ((hbw.cell (World.block_lt_of_cell? w _ HB.out)).trans HB.out) hpw HR.out (by omega) x A1 m q)
      generalize (prt ps k).1 = x at p0
      obtain ⟨m, hm⟩ : ∃ m, (prt ps k).2.length = m := ⟨_, rfl⟩
      rw [hm] at p1
      have HMM := hid hm
      have HSZ := hid part_size
      have i0 : (0 : Int) ≤ (k : Int) := by omega
      have i1 : (k : Int) < (r : Int) := by omega
      clear hall hbw hp hpw s1 hm
      go_wp2_with fail
      refine (CR.out _ _ _).mono ?_
      rintro e w2 ⟨rfl, hb2⟩
      have HB2 := hid (below_then HBW.out hb2)
      clear hb2 p0 p1
      by_cases he : m = (prt ps 0).2.length
      · have hd : decide (m ≠ (prt ps 0).2.length) = false := by simp [he]
        rw [hd]
        have R1 : Hid (∀ i, i < k + 1 → (prt ps i).2.length = (prt ps 0).2.length) := hid fun i hi => by
          by_cases e : i = k
          · rw [e, HMM.out]; exact he
          · exact HALL.out i (by omega)
        clear he hd
        go_wp2
        go_roundw
        case rel => exact ⟨k + 1, by omega, by go_num, HB2.out, R1.out⟩
        case measure => simp [intOf]; omega
      · have hd : decide (m ≠ (prt ps 0).2.length) = true := by simp [he]
        rw [hd]
        have R1 : Hid (¬ SameS ps) := hid fun h => he (by rw [← HMM.out]; exact h k (by have := HR.out; omega))
        clear he hd
        go_wp2
        go_ret
        exact ⟨HB2.out, _, rfl, .inr ⟨by omega, R1.out⟩⟩
    · have R1 : Hid (SameS ps) := hid fun i hi => hall i (by have := HR.out; omega)
      clear hall hbw
      go_wp2
      go_ret
      exact ⟨HBW.out, _, rfl, .inl ⟨rfl, R1.out⟩⟩
/-- whether there is one of another size -/
def CtE (ps : List (Int × List UInt8)) (w : World) (e : Ending) (w' : World) : Prop := Below w.heap.size w w' ∧ (e = .returned (.bool false) ∧ SameS ps ∨ e = .returned (.bool true) ∧ ¬ SameS ps)
theorem ContainsFuncP_any (w : World) (rb r cp : Nat) (A : Option Addr) (ps : List (Int × List UInt8)) (hb : w.cell? ⟨rb, 0, none⟩ = some (.slice A r cp)) (hv : SlP w (.slice A r cp) ps) (hr : ps.length = r) (hr2 : r ≤ 1099511627776) : Calls Try.prog 115 #[.slice A r cp, .func (.func 116) #[] #[.pointer (some ⟨rb, 0, none⟩)]] w (CtE ps w) := by
  have C := hid (IndexFuncP_any w rb r cp A ps hb hv hr hr2)
  clear hb hv hr
  go_enter Try.func115, Try.ntmps115
  go_wp2_with fail
  refine C.out.mono ?_
  rintro e w2 ⟨hb, x, rfl, ⟨rfl, hs⟩ | ⟨hx, hs⟩⟩
  · have HB := hid hb
    have HS := hid hs
    clear hb hs
    go_wp2
    go_ret
    exact ⟨HB.out, .inl ⟨rfl, HS.out⟩⟩
  · have HB := hid hb
    have HS := hid hs
    clear hb hs
    go_wp2
    go_ret
    exact ⟨HB.out, .inr ⟨by simp [hx], HS.out⟩⟩
end Go.Proofs.Ytkklonldplekcaa
