/- Slots, Load. -/
import Derived.Test.YtcadacljacbipaaDkL
namespace Go.Proofs.Ytcadacljacbipaa
open Go.RowKit
def DC (d : Nat) (n0 n1 : Value) (c : Nat) (W : World) : Prop := W.cell? ⟨d, 1, none⟩ = some n0 ∧ W.cell? ⟨d, 4, none⟩ = some n1 ∧ W.cell? ⟨d, 6, none⟩ = some (.int .i64 (c : Int))
theorem DC.below {d : Nat} {n0 n1 : Value} {c : Nat} {W W' : World} (h : DC d n0 n1 c W) (hb : Below W.heap.size W W') : DC d n0 n1 c W' :=
  ⟨(hb.cell (p := ⟨d, 1, none⟩) (World.block_lt_of_cell? W _ h.1)).trans h.1, (hb.cell (p := ⟨d, 4, none⟩) (World.block_lt_of_cell? W _ h.2.1)).trans h.2.1, (hb.cell (p := ⟨d, 6, none⟩) (World.block_lt_of_cell? W _ h.2.2)).trans h.2.2⟩
def DS (d g : Nat) (n0 n1 : Value) (c : Nat) (W : World) : Prop := W.cell? ⟨d, 1, none⟩ = some n0 ∧ W.cell? ⟨d, 4, none⟩ = some n1 ∧ W.cell? ⟨d, 6, none⟩ = some (.int .i64 (c : Int)) ∧ W.cell? ⟨g, 0, none⟩ = some (.slice none 0 0) ∧ W.cell? ⟨g, 1, none⟩ = some (.slice none 0 0) ∧ W.frozen? ⟨g, 0, none⟩ = false ∧ W.frozen? ⟨g, 1, none⟩ = false
theorem DS.below {d g : Nat} {n0 n1 : Value} {c : Nat} {W W' : World} (h : DS d g n0 n1 c W) (hb : Below W.heap.size W W') : DS d g n0 n1 c W' := by
  obtain ⟨h1, h2, h3, h4, h5, h6, h7⟩ := h
  have hg := World.block_lt_of_cell? W _ h4
  exact ⟨(hb.cell (p := ⟨d, 1, none⟩) (World.block_lt_of_cell? W _ h1)).trans h1, (hb.cell (p := ⟨d, 4, none⟩) (World.block_lt_of_cell? W _ h2)).trans h2, (hb.cell (p := ⟨d, 6, none⟩) (World.block_lt_of_cell? W _ h3)).trans h3,
    (hb.cell (p := ⟨g, 0, none⟩) hg).trans h4, (hb.cell (p := ⟨g, 1, none⟩) hg).trans h5, (hb.frozen (p := ⟨g, 0, none⟩) hg).trans h6, (hb.frozen (p := ⟨g, 1, none⟩) hg).trans h7⟩
theorem DC.set {d g i : Nat} {n0 n1 v : Value} {c : Nat} {W : World} (h : DC d n0 n1 c W) (hne : d ≠ g) : DC d n0 n1 c (W.setCell ⟨g, i, none⟩ v) := by
  have key : ∀ j, (W.setCell ⟨g, i, none⟩ v).cell? ⟨d, j, none⟩ = W.cell? ⟨d, j, none⟩ := fun j => World.cell?_setCell_other _ _ _ _ (by intro e; injection e with e; exact hne e.symm)
  exact ⟨(key 1).trans h.1, (key 4).trans h.2.1, (key 6).trans h.2.2⟩
theorem slots_end {w w1 wa wb W : World} {va vb : Value} {la lb : List UInt8} (hb1 : Below w.heap.size w w1) (hs : w.heap.size < w1.heap.size) (hba : Below w1.drew.heap.size w1.drew wa) (hbb : Below wa.heap.size wa wb) (hoa : OwnB wa w1.drew.heap.size va la) (hob : OwnB wb wa.heap.size vb lb) (hW : Fr (fun k => k = w.heap.size) wb W) :
    OwnB W w.heap.size va la ∧ OwnB W w.heap.size vb lb ∧ (∀ k, va.ownBlock = some k → vb.ownBlock ≠ some k) ∧ Below w.heap.size w W := by
  have h1 : w1.drew.heap.size = w1.heap.size := rfl
  have h2 := hba.size
  have h3 := hbb.size
  refine ⟨own_base ((hoa.below hbb).fr hW fun k hk e => ?_) (by omega), own_base (hob.fr hW fun k hk e => ?_) (by omega), fun k hk hk2 => ?_, ?_⟩
  · have := (World.ownsRow.lt hoa k hk).1; omega
  · have := (World.ownsRow.lt hob k hk).1; omega
  · have := (World.ownsRow.lt hoa k hk).2
    have := (World.ownsRow.lt hob k hk2).1
    omega
  · have hb : Below w.heap.size w wb := hb1.trans ((below_then (below_then (drew_below w1) hba) hbb).mono (by omega))
    exact hb.trans (hW.to_below (fun k hk e => by omega) hb.size)
theorem Slots_nil (w : World) :
    Calls Try.prog 22 #[.pointer none] w fun e w' => e = .returned (.tuple #[.agg #[.slice none 0 0, .slice none 0 0], .int .i64 0]) ∧ Below w.heap.size w w' := by
  go_enter Try.func22, Try.ntmps22
  go_wp2_with (go_at_call 38; refine (gone_nil _).mono ?_; rintro e w' ⟨rfl, rfl⟩)
  exact bodyPost_ret (v := .tuple #[.agg #[.slice none 0 0, .slice none 0 0], .int .i64 0]) (by simp [results, Try.results22, go_sem]) rfl ⟨rfl, (Below.refl _ _).alloc (Nat.le_refl _) _⟩
def Dk.told0 (D : Dk) : List UInt8 := if D.dead then [] else D.s0.now
def Dk.told1 (D : Dk) : List UInt8 := if D.dead then [] else D.s1.now
set_option maxRecDepth 100000 in
set_option maxHeartbeats 4000000 in
theorem Slots_any (w : World) (S : Nat → Prop) (d : Nat) (D : Dk) (h : DAt w S d D) (hroom : D.s0.room + D.s1.room ≤ 140737488355328) :
    Calls Try.prog 22 #[.pointer (some ⟨d, 0, none⟩)] w fun e w' => ∃ v0 v1, e = .returned (.tuple #[.agg #[v0, v1], .int .i64 (D.curN : Int)]) ∧ OwnB w' w.heap.size v0 D.told0 ∧ OwnB w' w.heap.size v1 D.told1 ∧ (∀ k, v0.ownBlock = some k → v1.ownBlock ≠ some k) ∧ Below w.heap.size w w' := by
  have G := hid (gone_any (w.alloc (.cells #[.slice none 0 0, .slice none 0 0] 32)) S d D (h.below ((Below.refl _ _).alloc (Nat.le_refl _) _)))
  by_cases hd : D.dead = true
  · rw [hd] at G
    rw [show D.curN = 0 from if_pos hd, show D.told0 = [] from if_pos hd, show D.told1 = [] from if_pos hd]
    clear h hd
    go_enter Try.func22, Try.ntmps22
    go_wp2_with fail
    refine G.out.mono ?_
    rintro e w1 ⟨rfl, rfl⟩
    go_wp2
    exact bodyPost_ret (v := .tuple #[.agg #[.slice none 0 0, .slice none 0 0], .int .i64 0]) (by simp [results, Try.results22, go_sem]) rfl ⟨_, _, rfl, OwnB.nil _ _, OwnB.nil _ _, fun k hk => by simp [Value.ownBlock] at hk, (Below.refl _ _).alloc (Nat.le_refl _) _⟩
  have hd' : D.dead = false := by simpa using hd
  rw [hd'] at G
  rw [show D.curN = D.cur from if_neg hd, show D.told0 = D.s0.now from if_neg hd, show D.told1 = D.s1.now from if_neg hd]
  obtain ⟨c6, c7, c8, c9, c10, hfz⟩ := h.cells
  obtain ⟨I, l0, n0, a0, l1, n1, a1, hV⟩ := h
  obtain ⟨c0, c1, c2, c3, c4, c5⟩ := hV.cells
  have r0 := D.s0.now_le
  have r1 := D.s1.now_le
  have H0 := hid hV.s0.now.sl
  have H1 := hid hV.s1.now.sl
  have HDC : Hid (DC d n0 n1 D.cur w) := hid ⟨c1, c4, c6⟩
  clear hV hd hd' hfz c0 c1 c2 c3 c4 c5 c6 c7 c8 c9 c10
  go_enter Try.func22, Try.ntmps22
  go_wp2_with fail
  refine G.out.mono ?_
  rintro e w1 ⟨rfl, hw⟩
  have HB1 : Hid (Below w.heap.size w w1) := hid (by rw [hw]; exact (Below.refl _ _).alloc (Nat.le_refl _) _)
  have HR1 : Hid (w1.heap[w.heap.size]? = some (.cells #[.slice none 0 0, .slice none 0 0] 32 (0, 0))) := hid (by rw [hw]; exact heap_alloc_new _ _)
  have HC1 := hid (HDC.out.below HB1.out)
  have K0 := hid (H0.out.below HB1.out)
  have K1 := hid (H1.out.below HB1.out)
  clear hw G
  have hgl := blk_lt HR1.out
  have hS : Hid (DS d w.heap.size n0 n1 D.cur w1) := hid ⟨HC1.out.1, HC1.out.2.1, HC1.out.2.2, by rw [blk_cell HR1.out]; rfl, by rw [blk_cell HR1.out]; rfl, blk_frozen HR1.out _, blk_frozen HR1.out _⟩
  go_wp2
  have hdg : d ≠ w.heap.size := fun e => by
    have : d < w.heap.size := World.block_lt_of_cell? w _ HDC.out.1
    omega
  go_region_held3 (fun W => W.cell? ⟨d, 1, none⟩ = some n0 ∧ W.cell? ⟨d, 4, none⟩ = some n1 ∧ W.cell? ⟨d, 6, none⟩ = some (.int .i64 (D.cur : Int)))
    (first | assumption | exact HC1.out | exact DC.below (HC1.out.below (drew_below w1)) hba | exact DC.below (HC1.out.below (drew_below w1)) hbb | exact DC.below (DC.below (HC1.out.below (drew_below w1)) hba) hbb | exact DC.below (DC.below (HC1.out.below (drew_below w1)) hbb) hba | exact ((DC.below (DC.below (HC1.out.below (drew_below w1)) hba) hbb).set hdg).set hdg | exact ((DC.below (DC.below (HC1.out.below (drew_below w1)) hbb) hba).set hdg).set hdg)
    (first
      | (go_at_call 34; (with_reducible refine (Clone_any n0 D.s0.now _ (by first | exact K0.out.drew | exact K0.out.drew.below hbb) (by omega)).mono ?_); rintro e wa ⟨va, rfl, hoa, hba⟩; obtain ⟨Aa, ca, rfl⟩ := hoa.form; have ga : DS d w.heap.size n0 n1 D.cur wa := (by first | exact DS.below (hS.out.below (drew_below w1)) hba | exact DS.below (DS.below (hS.out.below (drew_below w1)) hbb) hba); obtain ⟨_, _, _, ga1, ga2, ga3, ga4⟩ := ga)
      | (go_at_call 34; (with_reducible refine (Clone_any n1 D.s1.now _ (by first | exact K1.out.drew | exact K1.out.drew.below hba) (by omega)).mono ?_); rintro e wb ⟨vb, rfl, hob, hbb⟩; obtain ⟨Ab, cb, rfl⟩ := hob.form; have gb : DS d w.heap.size n0 n1 D.cur wb := (by first | exact DS.below (hS.out.below (drew_below w1)) hbb | exact DS.below (DS.below (hS.out.below (drew_below w1)) hba) hbb); obtain ⟨_, _, _, gb1, gb2, gb3, gb4⟩ := gb))
  all_goals
    have F : ∀ (W : World) (u v : Value), Fr (fun k => k = w.heap.size) W ((W.setCell ⟨w.heap.size, 0, none⟩ u).setCell ⟨w.heap.size, 1, none⟩ v) := fun W u v => (Fr.set_ _ _).trans ((Fr.set_ _ _).mono fun k _ e => .inl e)
    have sw : ∀ {W : World} {u v : Value}, (OwnB W w.heap.size v D.s1.now ∧ OwnB W w.heap.size u D.s0.now ∧ (∀ k, v.ownBlock = some k → u.ownBlock ≠ some k) ∧ Below w.heap.size w W) → (OwnB W w.heap.size u D.s0.now ∧ OwnB W w.heap.size v D.s1.now ∧ (∀ k, u.ownBlock = some k → v.ownBlock ≠ some k) ∧ Below w.heap.size w W) := fun h => ⟨h.2.1, h.1, fun k hk e => h.2.2.1 k e hk, h.2.2.2⟩
    first
      | have R := hid (slots_end HB1.out hgl hba hbb hoa hob (F _ (.slice Aa D.s0.now.length ca) (.slice Ab D.s1.now.length cb)))
      | have R := hid (sw (slots_end HB1.out hgl hbb hba hob hoa (F _ (.slice Aa D.s0.now.length ca) (.slice Ab D.s1.now.length cb))))
    clear F sw
    go_wp2
    refine bodyPost_ret (v := .tuple #[.agg #[.slice Aa D.s0.now.length ca, .slice Ab D.s1.now.length cb], .int .i64 (D.cur : Int)]) ?_ rfl ⟨_, _, rfl, R.out.1, R.out.2.1, R.out.2.2.1, R.out.2.2.2⟩
    simp [results, Try.results22, go_sem, *]
end Go.Proofs.Ytcadacljacbipaa
