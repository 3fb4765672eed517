/- taken: two datagrams, one doubled, one taken. -/
import Derived.Test.YtahpkknbejgnkaaDoorNetQ
namespace Go.Proofs.YtahpkknbejgnkaaDoor
open Go.RowKit
/-- a network behind calls since w2: only its own block and new ones have changed -/
def NX (B n : Nat) (w2 : World) (d : Nat) (W : World) (P : List Pkt) : Prop :=
  ∃ S, NAt W S d P ∧ (∀ k, S k → (B ≤ k ∧ k < n) ∨ w2.heap.size ≤ k) ∧ Fr (fun k => (B ≤ k ∧ k < n) ∨ w2.heap.size ≤ k) w2 W
theorem NX.below {B n : Nat} {w2 W W' : World} {d : Nat} {P : List Pkt} (h : NX B n w2 d W P) (hb : Below W.heap.size W W') : NX B n w2 d W' P := by
  obtain ⟨S, h1, h2, h3⟩ := h
  exact ⟨S, h1.below hb, h2, h3.trans ((Fr.of_below hb).mono fun _ _ h => h.elim)⟩
theorem NX.nt {B n : Nat} {w2 W W' : World} {d : Nat} {P' : List Pkt} {S : Nat → Prop} (h2 : ∀ k, S k → (B ≤ k ∧ k < n) ∨ w2.heap.size ≤ k) (h3 : Fr (fun k => (B ≤ k ∧ k < n) ∨ w2.heap.size ≤ k) w2 W) (h : Nt W W' S d P') : NX B n w2 d W' P' :=
  ⟨_, h.1, fun k hk => hk.elim (h2 k) (fun g => .inr (Nat.le_trans h3.size g.1)), h3.trans (h.2.mono fun k _ hk => .inl (h2 k hk))⟩
theorem NX.fr {B n : Nat} {w2 W : World} {d : Nat} {P : List Pkt} (h : NX B n w2 d W P) : Fr (fun k => (B ≤ k ∧ k < n) ∨ w2.heap.size ≤ k) w2 W := h.elim fun _ h => h.2.2
section
variable {B n : Nat} {w2 W : World} {d : Nat} {P : List Pkt}
theorem Send_nx (h : NX B n w2 d W P) (p : Pkt) (u : Value) (hv : SlB W u p.data) (h1 : okNode p.fk p.fi = true) (h2 : okNode p.tk p.ti = true) (h3 : p.data.length ≤ 66000) (hP : P.length ≤ 1099511627776) :
    Calls Tryd.prog 22 #[.pointer (some ⟨d, 0, none⟩), p.val u] W fun e w' => e = .returned (.int .i64 0) ∧ NX B n w2 d w' (P ++ [p]) := by
  obtain ⟨S, k1, k2, k3⟩ := h
  exact (Send_ok W S d P p u k1 hv h1 h2 h3 hP).mono fun e w' ⟨he, hn⟩ => ⟨he, NX.nt k2 k3 hn⟩
theorem Take_nx (h : NX B n w2 d W P) (hF : FtAt W) (i : Nat) (hi : i < P.length) (hl : ∀ p ∈ P, p.data.length ≤ 140737488355328) (hP : P.length ≤ 1099511627776) :
    Calls Tryd.prog 6 #[.pointer (some ⟨d, 0, none⟩), .int .i64 (i : Int)] W fun e w' => ∃ u, e = .returned (.tuple #[P[i].val u, .int .i64 0]) ∧ SlB w' u P[i].data ∧ NX B n w2 d w' (P.eraseIdx i) := by
  obtain ⟨S, k1, k2, k3⟩ := h
  exact (Take_ok W S d P i hF k1 hi hl hP).mono fun e w' ⟨u, he, hs, hn⟩ => ⟨u, he, hs, NX.nt k2 k3 hn⟩
theorem Double_nx (h : NX B n w2 d W P) (hF : FtAt W) (i : Nat) (hi : i < P.length) (hl : ∀ p ∈ P, p.data.length ≤ 140737488355328) (hP : P.length ≤ 1099511627776) :
    Calls Tryd.prog 8 #[.pointer (some ⟨d, 0, none⟩), .int .i64 (i : Int)] W fun e w' => e = .returned (.int .i64 0) ∧ NX B n w2 d w' (P ++ [P[i]]) := by
  obtain ⟨S, k1, k2, k3⟩ := h
  exact (Double_ok W S d P i hF k1 hi hl hP).mono fun e w' ⟨he, hn⟩ => ⟨he, NX.nt k2 k3 hn⟩
theorem Flight_nx (h : NX B n w2 d W P) (hl : ∀ p ∈ P, p.data.length ≤ 140737488355328) (hP : P.length ≤ 1099511627776) :
    Calls Tryd.prog 19 #[.pointer (some ⟨d, 0, none⟩)] W fun e w' => ∃ v, e = .returned v ∧ RdP w' v P ∧ Below W.heap.size W w' := by
  obtain ⟨S, k1, k2, k3⟩ := h
  exact (Flight_any W S d P k1 hl hP).mono fun e w' ⟨v, he, hp, hb⟩ => ⟨v, he, hp.rd, hb⟩
end
def pA : Pkt := ⟨2, 1, 1, 0, [1, 2], false⟩
def pB : Pkt := ⟨1, 0, 2, 1, [3], false⟩
theorem PkAt.o3 {W : World} {g h k : Nat} {a0 a1 a2 a3 b0 b1 b2 b3 c0 c1 c2 c3 : Int} {va vb vc : Value} {la lb lc : Bool} (H : PkAt W g a0 a1 a2 a3 va la ∧ PkAt W h b0 b1 b2 b3 vb lb ∧ PkAt W k c0 c1 c2 c3 vc lc) :
    (W.cell? ⟨g, 0, none⟩ = some (.int .i64 a0) ∧ W.cell? ⟨g, 1, none⟩ = some (.int .i64 a1) ∧ W.cell? ⟨g, 2, none⟩ = some (.int .i64 a2) ∧ W.cell? ⟨g, 3, none⟩ = some (.int .i64 a3) ∧ W.cell? ⟨g, 4, none⟩ = some va ∧ W.cell? ⟨g, 5, none⟩ = some (.bool la)) ∧ (W.cell? ⟨h, 0, none⟩ = some (.int .i64 b0) ∧ W.cell? ⟨h, 1, none⟩ = some (.int .i64 b1) ∧ W.cell? ⟨h, 2, none⟩ = some (.int .i64 b2) ∧ W.cell? ⟨h, 3, none⟩ = some (.int .i64 b3) ∧ W.cell? ⟨h, 4, none⟩ = some vb ∧ W.cell? ⟨h, 5, none⟩ = some (.bool lb)) ∧ (W.cell? ⟨k, 0, none⟩ = some (.int .i64 c0) ∧ W.cell? ⟨k, 1, none⟩ = some (.int .i64 c1) ∧ W.cell? ⟨k, 2, none⟩ = some (.int .i64 c2) ∧ W.cell? ⟨k, 3, none⟩ = some (.int .i64 c3) ∧ W.cell? ⟨k, 4, none⟩ = some vc ∧ W.cell? ⟨k, 5, none⟩ = some (.bool lc)) := H
theorem samePacket_at (fk fi tk ti : Int) (l : List UInt8) (lost : Bool) (u v : Value) (w : World) (hu : SlB w u l) (hv : SlB w v l) :
    Calls Tryd.prog 7 #[.agg #[.int .i64 fk, .int .i64 fi, .int .i64 tk, .int .i64 ti, u, .bool lost], .agg #[.int .i64 fk, .int .i64 fi, .int .i64 tk, .int .i64 ti, v, .bool lost]] w fun e w' => e = .returned (.bool true) ∧ Below w.heap.size w w' :=
  samePacket_yes ⟨fk, fi, tk, ti, l, lost⟩ u v w hu hv
theorem lit_two {W : World} {X : Nat} {s : Value} (h : W.heap[X]? = some (.cells #[.int .i64 2, .int .i64 1, .int .i64 1, .int .i64 0, s, .bool false, .int .i64 2, .int .i64 1, .int .i64 1, .int .i64 0, s, .bool false] 32 (0, 0))) (hs : SlB W s [1, 2]) : RdP W (.slice (some ⟨X, 0, none⟩) 2 2) [pA, pA] := by
  refine ⟨_, _, rfl, fun _ => ⟨X, 0, rfl, fun i hi => ⟨s, ?_, fun j x hx => ?_⟩⟩⟩
  · have : [pA, pA][i] = pA := by
      match i, hi with
      | 0, _ => rfl
      | 1, _ => rfl
    rw [this]; exact hs
  · rw [blk_cell h]
    have hj : j < 6 := (List.getElem?_eq_some_iff.1 hx).1
    match i, hi with
    | 0, _ => match j, hj with
      | 0, _ => exact hx
      | 1, _ => exact hx
      | 2, _ => exact hx
      | 3, _ => exact hx
      | 4, _ => exact hx
      | 5, _ => exact hx
    | 1, _ => match j, hj with
      | 0, _ => exact hx
      | 1, _ => exact hx
      | 2, _ => exact hx
      | 3, _ => exact hx
      | 4, _ => exact hx
      | 5, _ => exact hx
set_option maxRecDepth 100000 in
set_option maxHeartbeats 4000000 in
theorem taken_any (w : World) (hF : FtAt w) : Calls Tryd.prog 11 #[] w fun e w' => e = .returned (.bool true) ∧ Below w.heap.size w w' := by
  have HFT := hid hF
  have hFl : 0 < w.heap.size := World.block_lt_of_cell? w _ hF.c0
  clear hF
  go_enter Tryd.func11, Tryd.ntmps11
  go_wp2_with fail
  refine (New_two w).mono ?_
  rintro e w1 ⟨d, rfl, h1⟩
  have H1 := hid h1
  clear h1
  go_upto_region 4 with (fail)
  refine Code.seen (fun W => W.heap.size = w1.heap.size + 4 ∧ Below w1.heap.size w1 W ∧ SlB W (.slice (some ⟨w1.heap.size, 0, none⟩) 2 2) [1, 2] ∧ SlB W (.slice (some ⟨w1.heap.size + 1 + 1, 0, none⟩) 1 1) [3] ∧ PkAt W (w1.heap.size + 1) 2 1 1 0 (.slice (some ⟨w1.heap.size, 0, none⟩) 2 2) false ∧ PkAt W (w1.heap.size + 1 + 1 + 1) 1 0 2 1 (.slice (some ⟨w1.heap.size + 1 + 1, 0, none⟩) 1 1) false) ⟨by simp, ?_, ?_, ?_, ?_, ?_⟩ fun w2 Z2 => ?_
  · exact (((((Below.refl _ _).alloc (Nat.le_refl _) _).alloc (by simp) _).alloc (by simp; omega) _).alloc (by simp; omega) _)
  · exact (((lit_sl w1 [1, 2] (by simp)).alloc _).alloc _).alloc _
  · have := ((lit_sl ((w1.alloc (.cells #[.int .u8 1, .int .u8 2] 5)).alloc (.cells #[.int .i64 2, .int .i64 1, .int .i64 1, .int .i64 0, .slice (some ⟨w1.heap.size, 0, none⟩) 2 2, .bool false] 32)) [3] (by simp) (fr := (0, 0))).alloc (.cells #[.int .i64 1, .int .i64 0, .int .i64 2, .int .i64 1, .slice (some ⟨w1.heap.size + 1 + 1, 0, none⟩) 1 1, .bool false] 32))
    rw [show ((w1.alloc (.cells #[.int .u8 1, .int .u8 2] 5)).alloc (.cells #[.int .i64 2, .int .i64 1, .int .i64 1, .int .i64 0, .slice (some ⟨w1.heap.size, 0, none⟩) 2 2, .bool false] 32)).heap.size = w1.heap.size + 1 + 1 by simp] at this
    exact this
  · refine pk_at (t := 32) ((heap_alloc_old _ _ (by simp)).trans ((heap_alloc_old _ _ (by simp)).trans ?_))
    rw [show w1.heap.size + 1 = (w1.alloc (.cells #[.int .u8 1, .int .u8 2] 5)).heap.size by simp]
    exact heap_alloc_new _ _
  · refine pk_at (t := 32) ?_
    rw [show w1.heap.size + 1 + 1 + 1 = (((w1.alloc (.cells #[.int .u8 1, .int .u8 2] 5)).alloc (.cells #[.int .i64 2, .int .i64 1, .int .i64 1, .int .i64 0, .slice (some ⟨w1.heap.size, 0, none⟩) 2 2, .bool false] 32)).alloc (.cells #[.int .u8 3] 5)).heap.size by simp]
    exact heap_alloc_new _ _
  have H0 : Hid (NX w.heap.size w1.heap.size w2 d w2 []) := hid (by
    obtain ⟨S, T, k1, k2, k3, k4, k5, k6⟩ := H1.out
    exact ⟨S, k1.below Z2.out.2.1, fun k hk => .inl ⟨k3 k hk, k1.lt k hk⟩, Fr.refl _ _⟩)
  have HK : Hid (∀ W, Fr (fun k => (w.heap.size ≤ k ∧ k < w1.heap.size) ∨ w2.heap.size ≤ k) w2 W → SlB W (.slice (some ⟨w1.heap.size, 0, none⟩) 2 2) [1, 2] ∧ SlB W (.slice (some ⟨w1.heap.size + 1 + 1, 0, none⟩) 1 1) [3] ∧ PkAt W (w1.heap.size + 1) 2 1 1 0 (.slice (some ⟨w1.heap.size, 0, none⟩) 2 2) false ∧ PkAt W (w1.heap.size + 1 + 1 + 1) 1 0 2 1 (.slice (some ⟨w1.heap.size + 1 + 1, 0, none⟩) 1 1) false) := hid fun W hf => by
    obtain ⟨z1, z2, z3, z4, z5, z6⟩ := Z2.out
    refine ⟨sl_fr0 z3 hf fun _ k hk => ?_, sl_fr0 z4 hf fun _ k hk => ?_, z5.fr hf (by omega), z6.fr hf (by omega)⟩
    · injection hk with hk
      have hk : w1.heap.size = k := hk
      omega
    · injection hk with hk
      have hk : w1.heap.size + 1 + 1 = k := hk
      omega
  have HBW : Hid (∀ W, Fr (fun k => (w.heap.size ≤ k ∧ k < w1.heap.size) ∨ w2.heap.size ≤ k) w2 W → Below w.heap.size w W) := hid fun W hf => by
    have h1 := H1.out.base
    have h2 := Z2.out.2.1
    have h3 := H1.out.size
    exact (h1.trans (h2.mono h3)).trans (hf.to_below (fun k hk e => by have := h2.size; omega) (by have := h2.size; omega))
  have hs := hid Z2.out.1
  clear H1 Z2
  obtain ⟨-, -, ⟨x0, x1, x2, x3, x4, x5⟩, -⟩ := HK.out w2 (Fr.refl _ _)
  go_wp2_with fail
  refine (Send_nx H0.out pA (.slice (some ⟨w1.heap.size, 0, none⟩) 2 2) (HK.out w2 (Fr.refl _ _)).1 (by decide) (by decide) (by decide) (by decide)).mono ?_
  rintro e w3 ⟨rfl, h3⟩
  have H3 := hid h3
  clear h3 x0 x1 x2 x3 x4 x5
  obtain ⟨-, -, -, x0, x1, x2, x3, x4, x5⟩ := HK.out w3 H3.out.fr
  go_wp2_with fail
  refine (Send_nx H3.out pB (.slice (some ⟨w1.heap.size + 1 + 1, 0, none⟩) 1 1) (HK.out w3 H3.out.fr).2.1 (by decide) (by decide) (by decide) (by decide)).mono ?_
  rintro e w4 ⟨rfl, h4⟩
  have H4 : Hid (NX w.heap.size w1.heap.size w2 d w4 [pA, pB]) := hid h4
  clear h4 x0 x1 x2 x3 x4 x5
  go_wp2_with fail
  refine Calls.mono (Double_nx (i := 0) H4.out (HFT.out.below hFl (HBW.out _ H4.out.fr)) (by decide) (fun p hp => by simp only [List.mem_cons, List.not_mem_nil, or_false] at hp; rcases hp with rfl | rfl <;> decide) (by decide)) ?_
  rintro e w5 ⟨rfl, h5⟩
  have H5 : Hid (NX w.heap.size w1.heap.size w2 d w5 [pA, pB, pA]) := hid h5
  clear h5
  go_wp2_with fail
  refine Calls.mono (Take_nx (i := 1) H5.out (HFT.out.below hFl (HBW.out _ H5.out.fr)) (by decide) (fun p hp => by simp only [List.mem_cons, List.not_mem_nil, or_false] at hp; rcases hp with rfl | rfl | rfl <;> decide) (by decide)) ?_
  rintro e w6 ⟨u, rfl, hu, h6⟩
  have HU : Hid (SlB w6 u [3]) := hid hu
  have H6 : Hid (NX w.heap.size w1.heap.size w2 d w6 [pA, pA]) := hid h6
  rw [show [pA, pB, pA][1].val u = .agg #[.int .i64 1, .int .i64 0, .int .i64 2, .int .i64 1, u, .bool false] from rfl]
  obtain ⟨Au, cu, rfl⟩ := hu.form
  rw [show ([pA, pB, pA][1].data.length) = 1 from rfl] at HU ⊢
  clear hu h6
  go_upto_region 7 with (fail)
  refine Code.seen (fun W => PkAt W w6.heap.size 1 0 2 1 (.slice Au 1 cu) false ∧ Below w6.heap.size w6 W) ⟨pk_at (t := 32) (heap_alloc_new _ _), (Below.refl _ _).alloc (Nat.le_refl _) _⟩ fun w7 Z7 => ?_
  have H7 := hid (H6.out.below Z7.out.2)
  have HU7 := hid (HU.out.below Z7.out.2)
  have HALL : Hid (∀ W, Below w7.heap.size w7 W → PkAt W w6.heap.size 1 0 2 1 (.slice Au 1 cu) false ∧ PkAt W (w1.heap.size + 1 + 1 + 1) 1 0 2 1 (.slice (some ⟨w1.heap.size + 1 + 1, 0, none⟩) 1 1) false ∧ PkAt W (w1.heap.size + 1) 2 1 1 0 (.slice (some ⟨w1.heap.size, 0, none⟩) 2 2) false) := hid fun W hb => by
    have k := HK.out w7 H7.out.fr
    exact ⟨Z7.out.1.fr (Fr.of_below hb) id, k.2.2.2.fr (Fr.of_below hb) id, k.2.2.1.fr (Fr.of_below hb) id⟩
  have HSA := hid (HK.out w7 H7.out.fr).1
  have HSB := hid (HK.out w7 H7.out.fr).2.1
  have HW7 := hid (HBW.out w7 H7.out.fr)
  have HA7 := hid (HALL.out w7 (Below.refl _ _))
  have HA7d := hid (HALL.out w7.drew (drew_below w7))
  obtain ⟨⟨x0, x1, x2, x3, x4, x5⟩, ⟨y0, y1, y2, y3, y4, y5⟩, ⟨z0, z1, z2, z3, z4, z5⟩⟩ := HA7.out
  clear HK Z7 HU HFT H6 H5 H4 H3 H0
  go_region_held3 (fun W => (W.cell? ⟨w6.heap.size, 0, none⟩ = some (.int .i64 1) ∧ W.cell? ⟨w6.heap.size, 1, none⟩ = some (.int .i64 0) ∧ W.cell? ⟨w6.heap.size, 2, none⟩ = some (.int .i64 2) ∧ W.cell? ⟨w6.heap.size, 3, none⟩ = some (.int .i64 1) ∧ W.cell? ⟨w6.heap.size, 4, none⟩ = some (.slice Au 1 cu) ∧ W.cell? ⟨w6.heap.size, 5, none⟩ = some (.bool false)) ∧ (W.cell? ⟨w1.heap.size + 1 + 1 + 1, 0, none⟩ = some (.int .i64 1) ∧ W.cell? ⟨w1.heap.size + 1 + 1 + 1, 1, none⟩ = some (.int .i64 0) ∧ W.cell? ⟨w1.heap.size + 1 + 1 + 1, 2, none⟩ = some (.int .i64 2) ∧ W.cell? ⟨w1.heap.size + 1 + 1 + 1, 3, none⟩ = some (.int .i64 1) ∧ W.cell? ⟨w1.heap.size + 1 + 1 + 1, 4, none⟩ = some (.slice (some ⟨w1.heap.size + 1 + 1, 0, none⟩) 1 1) ∧ W.cell? ⟨w1.heap.size + 1 + 1 + 1, 5, none⟩ = some (.bool false)) ∧ (W.cell? ⟨w1.heap.size + 1, 0, none⟩ = some (.int .i64 2) ∧ W.cell? ⟨w1.heap.size + 1, 1, none⟩ = some (.int .i64 1) ∧ W.cell? ⟨w1.heap.size + 1, 2, none⟩ = some (.int .i64 1) ∧ W.cell? ⟨w1.heap.size + 1, 3, none⟩ = some (.int .i64 0) ∧ W.cell? ⟨w1.heap.size + 1, 4, none⟩ = some (.slice (some ⟨w1.heap.size, 0, none⟩) 2 2) ∧ W.cell? ⟨w1.heap.size + 1, 5, none⟩ = some (.bool false)))
    (first | with_reducible assumption | with_reducible exact PkAt.o3 HA7.out | with_reducible exact PkAt.o3 HA7d.out | with_reducible exact PkAt.o3 (HALL.out _ HBa.out) | with_reducible exact PkAt.o3 (HALL.out _ HBb.out) | with_reducible exact PkAt.o3 (HALL.out _ HBc.out) | with_reducible exact PkAt.o3 (HALL.out _ (HBa.out.alloc HBa.out.size _)) | with_reducible exact PkAt.o3 (HALL.out _ (HBb.out.alloc HBb.out.size _)))
    (first
      | (go_at_call 7; (with_reducible refine Calls.mono (samePacket_at 1 0 2 1 [3] false (.slice Au 1 cu) (.slice (some ⟨w1.heap.size + 1 + 1, 0, none⟩) 1 1) w7.drew (HU7.out.drew) (HSB.out.drew)) ?_); rintro e wa ⟨rfl, hba⟩; have HBa := hid (below_then (drew_below w7) hba); clear hba)
      | (go_at_call 19; (with_reducible refine Calls.mono (Flight_nx (W := wa) (H7.out.below HBa.out) (by intro p hp; simp only [List.mem_cons, List.not_mem_nil, or_false] at hp; rcases hp with rfl | rfl <;> decide) (by decide)) ?_); rintro e wb ⟨v, rfl, hrd, hbb⟩; have HBb := hid (below_then HBa.out hbb); have HRD := hid hrd; have tok1 : True := trivial; clear hrd hbb)
      | (go_at_call 19; (with_reducible refine Calls.mono (Flight_nx (W := wa.alloc _) (H7.out.below (HBa.out.alloc HBa.out.size _)) (by intro p hp; simp only [List.mem_cons, List.not_mem_nil, or_false] at hp; rcases hp with rfl | rfl <;> decide) (by decide)) ?_); rintro e wb ⟨v, rfl, hrd, hbb⟩; have HBb := hid (below_then (HBa.out.alloc HBa.out.size _) hbb); have HRD := hid hrd; have HLIT := hid (blk_keep hbb (heap_alloc_new wa _) (by simp)); have tok2 : True := trivial; clear hrd hbb)
      | (go_at_call 18; have t1 := tok1; (with_reducible refine Calls.mono (same_yes [pA, pA] v (.slice (some ⟨wb.heap.size, 0, none⟩) 2 2) (wb.alloc _) (HRD.out.below ((Below.refl wb.heap.size wb).alloc (Nat.le_refl _) _)) (lit_two (heap_alloc_new wb _) ((HSA.out.below HBb.out).alloc _)) (by decide)) ?_); rintro e wc ⟨rfl, hbc⟩; have HBc := hid (below_then (HBb.out.alloc HBb.out.size _) hbc); clear hbc)
      | (go_at_call 18; have t2 := tok2; (with_reducible refine Calls.mono (same_yes [pA, pA] v (.slice (some ⟨wa.heap.size, 0, none⟩) 2 2) wb HRD.out (lit_two HLIT.out (HSA.out.below HBb.out)) (by decide)) ?_); rintro e wc ⟨rfl, hbc⟩; have HBc := hid (below_then HBb.out hbc); clear hbc))
  all_goals
    go_wp2
    go_ret
    exact ⟨rfl, HW7.out.trans (HBc.out.mono HW7.out.size)⟩
end Go.Proofs.YtahpkknbejgnkaaDoor
