/- The walk of package code: refused. -/
import Derived.Test.YtkklonldplekcaaCdD
namespace Go.Proofs.Ytkklonldplekcaa
open Go.RowKit
attribute [local irreducible] seenC
theorem seenC_size (f : Nat → Bool) : (seenC f).size = 255 := by unfold seenC; exact arr_size _ _
theorem seenC_get (f : Nat → Bool) (i : Nat) (h : i < 255) : (seenC f)[i]? = some (.bool (f i)) := by unfold seenC; exact arr_get _ _ i h
theorem seenC_one (f : Nat → Bool) : (seenC f).all (·.oneCell') = true := by unfold seenC; exact arr_one _ _ fun _ => rfl
theorem seenC_set (f : Nat → Bool) (q : Nat) : (seenC f).setIfInBounds q (.bool true) = seenC fun i => if i = q then true else f i := by
  unfold seenC
  rw [arr_set]
  exact arr_congr fun i _ => by dsimp only; split <;> rfl
theorem zero149 : Try.zeroCells149 = seenC fun _ => false := by unfold seenC; kernel_rfl
theorem seen_info : (Try.prog.info? 149).map (·.size) = some 255 := by kernel_rfl
def InR (n : Nat) (ps : List (Int × List UInt8)) (j : Nat) : Prop := ∀ i, i < j → 0 ≤ (prt ps i).1 ∧ (prt ps i).1 < (n : Int)
def Dup (ps : List (Int × List UInt8)) (j : Nat) : Prop := ∃ a b, a < b ∧ b < j ∧ (prt ps a).1 = (prt ps b).1
def SeenF (ps : List (Int × List UInt8)) (j : Nat) (f : Nat → Bool) : Prop := ∀ q, f q = true ↔ ∃ i, i < j ∧ (prt ps i).1 = (q : Int)
theorem SeenF.next {ps : List (Int × List UInt8)} {j q : Nat} {f : Nat → Bool} (h : SeenF ps j f) (hq : (prt ps j).1 = (q : Int)) : SeenF ps (j + 1) fun i => if i = q then true else f i := by
  intro t
  show (if t = q then true else f t) = true ↔ _
  by_cases e : t = q
  · rw [if_pos e]
    exact ⟨fun _ => ⟨j, by omega, by rw [e]; exact hq⟩, fun _ => rfl⟩
  · rw [if_neg e, h t]
    constructor
    · rintro ⟨i, hi, h1⟩
      exact ⟨i, by omega, h1⟩
    · rintro ⟨i, hi, h1⟩
      refine ⟨i, ?_, h1⟩
      by_cases e2 : i = j
      · rw [e2, hq] at h1; exact absurd (by omega) e
      · omega
theorem Dup.next {ps : List (Int × List UInt8)} {j q : Nat} {f : Nat → Bool} {tw : Bool} (h : SeenF ps j f) (ht : tw = true ↔ Dup ps j) (hq : (prt ps j).1 = (q : Int)) : (tw || f q) = true ↔ Dup ps (j + 1) := by
  rw [Bool.or_eq_true, ht, h q]
  constructor
  · rintro (⟨a, b, h1, h2, h3⟩ | ⟨i, hi, h1⟩)
    · exact ⟨a, b, h1, by omega, h3⟩
    · exact ⟨i, j, hi, by omega, by rw [h1, hq]⟩
  · rintro ⟨a, b, h1, h2, h3⟩
    by_cases e : b = j
    · exact .inr ⟨a, by omega, by rw [h3, e, hq]⟩
    · exact .inl ⟨a, b, h1, by omega, h3⟩
/-- why parts are not gone through, or 0 -/
def RfE (n k : Nat) (ps : List (Int × List UInt8)) (w : World) (e : Ending) (w' : World) : Prop := Below w.heap.size w w' ∧
  (e = .returned (.int .i64 22) ∧ ¬ InR n ps ps.length ∨ e = .returned (.int .i64 21) ∧ InR n ps ps.length ∧ Dup ps ps.length ∨ e = .returned (.int .i64 23) ∧ InR n ps ps.length ∧ ¬ Dup ps ps.length ∧ ¬ SameS ps ∨ e = .returned (.int .i64 20) ∧ InR n ps ps.length ∧ ¬ Dup ps ps.length ∧ SameS ps ∧ ps.length < k ∨ e = .returned (.int .i64 0) ∧ InR n ps ps.length ∧ ¬ Dup ps ps.length ∧ SameS ps ∧ k ≤ ps.length)
set_option maxRecDepth 100000 in
set_option maxHeartbeats 16000000 in
theorem refused_any (w : World) (c n k : Nat) (G : List (List UInt8)) (h : CodeAt w c n k G) (v : Value) (ps : List (Int × List UInt8)) (hv : SlP w v ps) (hl : ps.length ≤ 1099511627776) :
    Calls Try.prog 84 #[.pointer (some ⟨c, 0, none⟩), v] w (RfE n k ps w) := by
  have hmf : ∀ (fn : Fn) (first cap : Array Value) (w : World), (Instr.makeFunc fn first cap).run Try.prog w = .ok (.func fn first cap) w := fun _ _ _ _ => rfl
  obtain ⟨A, cp, rfl, hcp⟩ := hv.form
  have hn := h.n255
  obtain ⟨fg, R0, o0, c0, hfd, _, c1, c2, _, _⟩ := h.cells
  have HV := hid hv
  have HC := hid (And.intro c1 c2)
  have HZ := hid seen_info
  obtain ⟨r, hr⟩ : ∃ r, ps.length = r := ⟨_, rfl⟩
  have HR := hid hr
  rw [hr] at hl ⊢
  clear h hv hfd c1 c2 hcp
  go_enter Try.func84, Try.ntmps84
  go_upto_region 2 with (refine wpList_store_row rfl 149 (.tmp 5) (.tmp 9) rfl (w.heap.size + 1) Try.zeroCells149 rfl rfl 149 _ (by rw [show w.heap.size + 1 = (w.alloc (.cells #[.slice A r cp] 71 (0, 0))).heap.size by simp]; exact heap_alloc_new _ _) (by rw [zero149, seenC_size]; exact HZ.out) rfl (by rw [zero149]; exact seenC_one _) ?_)
  obtain ⟨rb, hrb⟩ : ∃ rb, w.heap.size = rb := ⟨_, rfl⟩
  obtain ⟨g, hg⟩ : ∃ g, w.heap.size + 1 = g := ⟨_, rfl⟩
  refine Code.seen (fun W => W.heap[rb]? = some (.cells #[.slice A r cp] 71 (0, 0)) ∧ W.heap[g]? = some (.cells (seenC fun _ => false) 149 (0, 0)) ∧ Below w.heap.size w W) ?_ fun w1 H1 => ?_
  · rw [← hrb, ← hg]
    have h1 := heap_alloc_new w (.cells #[.slice A r cp] 71 (0, 0))
    have h2 := heap_alloc_new (w.alloc (.cells #[.slice A r cp] 71 (0, 0))) (.cells Try.zeroCells149 149 (0, 0))
    have e1 : (w.alloc (.cells #[.slice A r cp] 71 (0, 0))).heap.size = w.heap.size + 1 := by simp
    rw [e1] at h2
    refine ⟨?_, ?_, ?_⟩
    · rw [setRow_other _ _ _ _ (by omega)]
      exact (((Below.refl _ _).alloc (Nat.le_refl _) _).block _ (by rw [e1]; omega)).trans h1
    · rw [setRow_heap _ _ _ _ _ _ h2, zero149]
    · exact below_setRow (((Below.refl w.heap.size w).alloc (Nat.le_refl _) _).alloc (by rw [e1]; omega) _) (by omega) _
  rw [hg, hrb]
  have hne : rb ≠ g := by omega
  have HNE := hid hne
  have HRB : Hid (w.heap.size ≤ rb ∧ w.heap.size ≤ g) := hid ⟨by omega, by omega⟩
  clear hrb hg hne
  have b0 : w1.cell? ⟨rb, 0, none⟩ = some (.slice A r cp) := by rw [blk_cell H1.out.1]; rfl
  go_wp2
  clear b0
  go_loopw [6, 8, 12] (fun t _ x wr => ∃ (j : Nat) (tw : Bool) (f : Nat → Bool), j ≤ r ∧ x = .int .i64 j ∧ t = .bool tw ∧ wr.heap[rb]? = some (.cells #[.slice A r cp] 71 (0, 0)) ∧ wr.heap[g]? = some (.cells (seenC f) 149 (0, 0)) ∧ Below w.heap.size w wr ∧ InR n ps j ∧ SeenF ps j f ∧ (tw = true ↔ Dup ps j)) (fun _ _ x _ => r - (intOf x).toNat)
  case atStart => exact ⟨0, false, fun _ => false, Nat.zero_le _, rfl, rfl, H1.out.1, H1.out.2.1, H1.out.2.2, fun i hi => by omega, fun q => ⟨(fun h => by cases h), fun ⟨i, hi, _⟩ => by omega⟩, ⟨(fun h => by cases h), fun ⟨a, b, h1, h2, _⟩ => by omega⟩⟩
  case round =>
    clear H1
    obtain ⟨j, tw, f, hj, rfl, rfl, hrb, hg, hb, hin, hse, htw⟩ := hrel
    have HRBX := hid hrb
    have HGX := hid hg
    have HB := hid hb
    have HIN := hid hin
    have HSE := hid hse
    have HTW := hid htw
    clear hrb hg hb hin hse htw
    by_cases hlt : j < r
    · obtain ⟨b, off, rfl, hp⟩ := HV.out.pat (by have := HR.out; omega)
      obtain ⟨A1, q1, p0, p1, s1⟩ := (hp.below HB.out).at_ j (by have := HR.out; omega)
      obtain ⟨x, hx⟩ : ∃ x, (prt ps j).1 = x := ⟨_, rfl⟩
      rw [hx] at p0
      have HX := hid hx
      generalize (prt ps j).2.length = m at p1
      have HSZ := hid part_size
      have j0 : (0 : Int) ≤ (j : Int) := by omega
      have j1 : (j : Int) < (r : Int) := by omega
      clear hp s1 hx
      go_upto_region 6 with (fail)
      clear p0 p1
      obtain ⟨pb, hpb⟩ : ∃ pb, wr.heap.size = pb := ⟨_, rfl⟩
      refine Code.seen (fun W => W.cell? ⟨pb, 0, none⟩ = some (.int .i64 x) ∧ W.heap[rb]? = some (.cells #[.slice (some ⟨b, off, none⟩) r cp] 71 (0, 0)) ∧ W.heap[g]? = some (.cells (seenC f) 149 (0, 0)) ∧ Below w.heap.size w W) ?_ fun w2 H2 => ?_
      · rw [← hpb]
        have hba := (Below.refl wr.heap.size wr).alloc (Nat.le_refl _) (.cells #[.int .i64 x, .slice A1 m q1] 74 (0, 0))
        exact ⟨by rw [blk_cell (heap_alloc_new _ _)]; rfl, (hba.block _ (blk_lt HRBX.out)).trans HRBX.out, (hba.block _ (blk_lt HGX.out)).trans HGX.out, below_then HB.out hba⟩
      rw [hpb]
      have x0 := H2.out.1
      have x1 : w2.cell? ⟨c, 1, none⟩ = some (.int .i64 (n : Int)) := (H2.out.2.2.2.cell (World.block_lt_of_cell? w _ HC.out.1)).trans HC.out.1
      by_cases hx0 : x < 0
      · have HE : Hid (¬ InR n ps r) := hid fun h => by have := (h j hlt).1; rw [HX.out] at this; omega
        have hx1 : ¬ 0 ≤ x := by omega
        go_quiet (fail)
        have HBE := hid (below_drewN H2.out.2.2.2 nq)
        clear x0 x1 hpb
        go_wp2
        go_ret
        exact ⟨HBE.out, .inl ⟨rfl, by rw [HR.out]; exact HE.out⟩⟩
      · by_cases hxn : (n : Int) ≤ x
        · have HE : Hid (¬ InR n ps r) := hid fun h => by have := (h j hlt).2; rw [HX.out] at this; omega
          go_quiet (fail)
          have HBE := hid (below_drewN H2.out.2.2.2 nq)
          clear x0 x1 hpb
          go_wp2
          go_ret
          exact ⟨HBE.out, .inl ⟨rfl, by rw [HR.out]; exact HE.out⟩⟩
        · obtain ⟨q, rfl⟩ : ∃ q : Nat, x = (q : Int) := ⟨x.toNat, by omega⟩
          have hqn : (q : Int) < (n : Int) := by omega
          have hq0 : ¬ (q : Int) < 0 := hx0
          have hq1 : (0 : Int) ≤ (q : Int) := by omega
          have hq2 : (q : Int) < 255 := by omega
          have hq3 : ¬ (n : Int) ≤ (q : Int) := hxn
          have R1 : Hid (InR n ps (j + 1)) := hid fun i hi => by
            by_cases e : i = j
            · rw [e, HX.out]; exact ⟨hq1, hqn⟩
            · exact HIN.out i (by omega)
          have R2' := hid (HSE.out.next HX.out)
          have R3 := hid (Dup.next HSE.out HTW.out HX.out)
          clear hx0 hxn
          go_quiet (fail)
          obtain ⟨w3, hw3⟩ : ∃ w3, w2.drewN nq = w3 := ⟨_, rfl⟩
          have y0 : w3.cell? ⟨pb, 0, none⟩ = some (.int .i64 (q : Int)) := by rw [← hw3]; exact x0
          have HRB3 : Hid (w3.heap[rb]? = some (.cells #[.slice (some ⟨b, off, none⟩) r cp] 71 (0, 0))) := hid (by rw [← hw3]; exact H2.out.2.1)
          have HG3 : Hid (w3.heap[g]? = some (.cells (seenC f) 149 (0, 0))) := hid (by rw [← hw3]; exact H2.out.2.2.1)
          have HB3 : Hid (Below w.heap.size w w3) := hid (by rw [← hw3]; exact below_drewN H2.out.2.2.2 nq)
          rw [hw3]
          have z0 : w3.cell? ⟨g, q, none⟩ = some (.bool (f q)) := by rw [blk_cell HG3.out]; exact seenC_get f q (by omega)
          have z1 : w3.frozen? ⟨g, q, none⟩ = false := blk_frozen HG3.out q
          have R4 : Hid ((w3.setCell ⟨g, q, none⟩ (.bool true)).heap[g]? = some (.cells (seenC fun i => if i = q then true else f i) 149 (0, 0))) := hid (by rw [blk_set HG3.out, seenC_set])
          have R5 : Hid ((w3.setCell ⟨g, q, none⟩ (.bool true)).heap[rb]? = some (.cells #[.slice (some ⟨b, off, none⟩) r cp] 71 (0, 0))) := hid (by rw [Below.heap_setCell _ _ _ _ (show rb ≠ g from HNE.out)]; exact HRB3.out)
          have R6 := hid (show Below w.heap.size w (w3.setCell ⟨g, q, none⟩ (.bool true)) from HB3.out.setCell HRB.out.2 _)
          generalize f q = fq at z0 R3
          clear hw3 x0 x1 hpb
          cases tw <;> cases fq
          all_goals
            go_wp2
            go_roundw
            case rel => exact ⟨j + 1, _, _, by omega, by go_num, rfl, R5.out, R4.out, R6.out, R1.out, R2'.out, R3.out⟩
            case measure => simp [intOf]; omega
    · obtain rfl : j = r := by omega
      have b0 : wr.cell? ⟨rb, 0, none⟩ = some (.slice A j cp) := by rw [blk_cell HRBX.out]; rfl
      cases tw
      · have HND : Hid (¬ Dup ps j) := hid fun h => by have := HTW.out.2 h; cases this
        have CT := hid (ContainsFuncP_any wr rb j cp A ps b0 (by have h := HV.out.below HB.out; rw [HR.out] at h; exact h) HR.out hl)
        go_wp2_with fail
        refine CT.out.mono ?_
        rintro e w4 ⟨hb4, ⟨rfl, hs⟩ | ⟨rfl, hs⟩⟩
        · have HS := hid hs
          have HB4 := hid (below_then HB.out hb4)
          have b1 : w4.cell? ⟨rb, 0, none⟩ = some (.slice A j cp) := (hb4.cell (World.block_lt_of_cell? wr _ b0)).trans b0
          have b2 : w4.cell? ⟨c, 2, none⟩ = some (.int .i64 (k : Int)) := (HB4.out.cell (World.block_lt_of_cell? w _ HC.out.2)).trans HC.out.2
          clear b0 hb4 hs CT
          go_wp2
          by_cases hjk : j < k
          · have i1 : (j : Int) < (k : Int) := by omega
            go_quiet (fail)
            have HE := hid (below_drewN HB4.out nq)
            clear b1 b2
            go_wp2
            go_ret
            exact ⟨HE.out, .inr (.inr (.inr (.inl ⟨rfl, by rw [HR.out]; exact HIN.out, by rw [HR.out]; exact HND.out, HS.out, by rw [HR.out]; exact hjk⟩)))⟩
          · have i1 : ¬ (j : Int) < (k : Int) := by omega
            go_quiet (fail)
            have HE := hid (below_drewN HB4.out nq)
            clear b1 b2
            go_wp2
            go_ret
            exact ⟨HE.out, .inr (.inr (.inr (.inr ⟨rfl, by rw [HR.out]; exact HIN.out, by rw [HR.out]; exact HND.out, HS.out, by rw [HR.out]; omega⟩)))⟩
        · have HS := hid hs
          have HB4 := hid (below_then HB.out hb4)
          clear b0 hb4 hs CT
          go_wp2
          go_ret
          exact ⟨HB4.out, .inr (.inr (.inl ⟨rfl, by rw [HR.out]; exact HIN.out, by rw [HR.out]; exact HND.out, HS.out⟩))⟩
      · have HD : Hid (Dup ps j) := hid (HTW.out.1 rfl)
        clear b0
        go_wp2
        go_ret
        exact ⟨HB.out, .inr (.inl ⟨rfl, by rw [HR.out]; exact HIN.out, by rw [HR.out]; exact HD.out⟩)⟩
end Go.Proofs.Ytkklonldplekcaa
