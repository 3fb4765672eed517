/- Two disks that have nothing to do with one another, and blocks of the law's own. -/
import Derived.Test.YtcadacljacbipaaAll21
namespace Go.Proofs.Ytcadacljacbipaa
open Go.RowKit
/-- disks at a and b in blocks of their own from B on, none of them in K; below B all is as in w0 -/
def Duo (K : Nat → Prop) (B : Nat) (w0 w : World) (a : Nat) (A : Dk) (b : Nat) (D : Dk) : Prop :=
  ∃ S T, DAt w S a A ∧ DAt w T b D ∧ (∀ k, S k → B ≤ k ∧ ¬ K k) ∧ (∀ k, T k → B ≤ k ∧ ¬ K k ∧ ¬ S k) ∧ Below B w0 w ∧ B ≤ w.heap.size ∧ (∀ k, K k → k < w.heap.size)
section
variable {K : Nat → Prop} {B : Nat} {w0 w w' : World} {a b : Nat} {A D A' D' : Dk}
theorem Duo.base (h : Duo K B w0 w a A b D) : Below B w0 w := by obtain ⟨S, T, h⟩ := h; exact h.2.2.2.2.1
theorem Duo.size (h : Duo K B w0 w a A b D) : B ≤ w.heap.size := by obtain ⟨S, T, h⟩ := h; exact h.2.2.2.2.2.1
theorem Duo.swap (h : Duo K B w0 w a A b D) : Duo K B w0 w b D a A := by
  obtain ⟨S, T, h1, h2, h3, h4, h5⟩ := h
  exact ⟨T, S, h2, h1, fun k hk => ⟨(h4 k hk).1, (h4 k hk).2.1⟩, fun k hk => ⟨(h3 k hk).1, (h3 k hk).2, fun e => (h4 k e).2.2 hk⟩, h5⟩
theorem Duo.below (h : Duo K B w0 w a A b D) (hb : Below w.heap.size w w') : Duo K B w0 w' a A b D := by
  obtain ⟨S, T, h1, h2, h3, h4, h5, h6, h7⟩ := h
  exact ⟨S, T, h1.below hb, h2.below hb, h3, h4, h5.trans (hb.mono h6), Nat.le_trans h6 hb.size, fun k hk => Nat.lt_of_lt_of_le (h7 k hk) hb.size⟩
theorem Duo.forget (h : Duo K B w0 w a A b D) : Duo (fun _ => False) B w0 w a A b D := by
  obtain ⟨S, T, h1, h2, h3, h4, h5, h6, h7⟩ := h
  exact ⟨S, T, h1, h2, fun k hk => ⟨(h3 k hk).1, fun h => h⟩, fun k hk => ⟨(h4 k hk).1, fun h => h, (h4 k hk).2.2⟩, h5, h6, fun _ h => h.elim⟩
/-- a block of the law's own is laid -/
theorem Duo.lay {w1 : World} (h : Duo (fun _ => False) B w0 w a A b D) (hb : Below w.heap.size w w1) : Duo (fun k => w.heap.size ≤ k ∧ k < w1.heap.size) B w0 w1 a A b D := by
  obtain ⟨S, T, h1, h2, h3, h4, h5, h6, h7⟩ := h
  refine ⟨S, T, h1.below hb, h2.below hb, fun k hk => ⟨(h3 k hk).1, fun e => ?_⟩, fun k hk => ⟨(h4 k hk).1, fun e => ?_, (h4 k hk).2.2⟩, h5.trans (hb.mono h6), Nat.le_trans h6 hb.size, fun k hk => hk.2⟩
  · have := h1.lt k hk; omega
  · have := h2.lt k hk; omega
theorem Duo.turn {S T : Nat → Prop} (h2 : DAt w T b D) (h3 : ∀ k, S k → B ≤ k ∧ ¬ K k) (h4 : ∀ k, T k → B ≤ k ∧ ¬ K k ∧ ¬ S k) (h5 : Below B w0 w) (h6 : B ≤ w.heap.size) (h7 : ∀ k, K k → k < w.heap.size) (h : Dt w w' S a A') : Duo K B w0 w' a A' b D ∧ Fr (fun k => ¬ K k) w w' := by
  refine ⟨⟨_, T, h.1, h2.fr h.2 (fun k hk => (h4 k hk).2.2) (fun _ h => h) (fun k hk => Nat.lt_of_lt_of_le (h2.lt k hk) h.2.size), fun k hk => ?_, fun k hk => ⟨(h4 k hk).1, (h4 k hk).2.1, fun e => ?_⟩, h5.trans (h.2.to_below (fun k hk e => by have := (h3 k e).1; omega) h6), Nat.le_trans h6 h.2.size, fun k hk => Nat.lt_of_lt_of_le (h7 k hk) h.2.size⟩, h.2.mono fun k _ hk => (h3 k hk).2⟩
  · rcases hk with hk | hk
    · exact h3 k hk
    · exact ⟨Nat.le_trans h6 hk.1, fun e => by have := h7 k e; have := hk.1; omega⟩
  · rcases e with e | e
    · exact (h4 k hk).2.2 e
    · have := h2.lt k hk; have := e.1; omega
theorem lawact_duo (h : Duo K B w0 w a A b D) (o : Dop) (v x y z dv : Value) (da : List UInt8) (hf : A.fits da.length) (hk : o.four) (hdv : SlB w dv da) :
    Calls Try.prog 28 #[.pointer (some ⟨a, 0, none⟩), .agg #[.int .i64 o.kind, .int .i64 o.d, .int .i64 o.slot, v, .int .i64 o.n, .bool o.done, x, y, z], dv] w fun e w' => e = .returned (.int .i64 (A.err o.slot (o.act da).wipes)) ∧ Duo K B w0 w' a (A.step o.slot (o.act da)) b D ∧ Fr (fun k => ¬ K k) w w' := by
  obtain ⟨S, T, h1, h2, h3, h4, h5, h6, h7⟩ := h
  exact (lawact_any w S a A o v x y z dv da h1 hf hk hdv).mono fun e w' ⟨he, hd⟩ => ⟨he, Duo.turn h2 h3 h4 h5 h6 h7 hd⟩
theorem Sync_duo (h : Duo K B w0 w a A b D) (n : Int) (hf : A.fits 0) :
    Calls Try.prog 19 #[.pointer (some ⟨a, 0, none⟩), .int .i64 n] w fun e w' => e = .returned (.int .i64 (A.err n false)) ∧ Duo K B w0 w' a (A.step n .sync) b D ∧ Fr (fun k => ¬ K k) w w' := by
  obtain ⟨S, T, h1, h2, h3, h4, h5, h6, h7⟩ := h
  exact (Sync_any w S a A n h1 hf).mono fun e w' ⟨he, hd⟩ => ⟨he, Duo.turn h2 h3 h4 h5 h6 h7 hd⟩
theorem Stop_duo (h : Duo K B w0 w a A b D) (n : Int) (c : Bool) (_ : n ≤ 9223372036854775807) :
    Calls Try.prog 27 #[.pointer (some ⟨a, 0, none⟩), .int .i64 n, .bool c] w fun e w' => e = .returned (.int .i64 (if A.dead then 60 else 0)) ∧ Duo K B w0 w' a (A.stop n c) b D ∧ Fr (fun k => ¬ K k) w w' := by
  obtain ⟨S, T, h1, h2, h3, h4, h5, h6, h7⟩ := h
  exact (Stop_any w S a A n c h1).mono fun e w' ⟨he, hd⟩ => ⟨he, Duo.turn h2 h3 h4 h5 h6 h7 hd⟩
theorem alike_duo (h : Duo K B w0 w a A b D) (ra : A.s0.room + A.s1.room ≤ 140737488355328) (rb : D.s0.room + D.s1.room ≤ 140737488355328) (h0 : A.told0 = D.told0) (h1 : A.told1 = D.told1) (hc : A.curN = D.curN) :
    Calls Try.prog 21 #[.pointer (some ⟨a, 0, none⟩), .pointer (some ⟨b, 0, none⟩)] w fun e w' => e = .returned (.bool true) ∧ Below w.heap.size w w' := by
  obtain ⟨S, T, k1, k2, _⟩ := h
  exact alike_any w S T a b A D k1 k2 ra rb h0 h1 hc
theorem Acts_duo (h : Duo K B w0 w a A b D) : Calls Try.prog 29 #[.pointer (some ⟨a, 0, none⟩)] w fun e w' => e = .returned (.int .i64 (A.done : Int)) ∧ w' = w := by
  obtain ⟨S, T, k1, _⟩ := h
  exact Acts_any w S a A k1
theorem Dead_duo (h : Duo K B w0 w a A b D) : Calls Try.prog 20 #[.pointer (some ⟨a, 0, none⟩)] w fun e w' => e = .returned (.bool A.dead) ∧ w' = w := by
  obtain ⟨S, T, k1, _⟩ := h
  exact Dead_any w S a A k1
theorem Pending_duo (h : Duo K B w0 w a A b D) (hp : A.pending ≤ 1099511627776) : Calls Try.prog 13 #[.pointer (some ⟨a, 0, none⟩)] w fun e w' => e = .returned (.int .i64 (A.pending : Int)) ∧ Below w.heap.size w w' := by
  obtain ⟨S, T, k1, _⟩ := h
  refine (Pending_any w S a A k1 hp).mono ?_
  rintro e w' ⟨he, n, rfl⟩
  exact ⟨he, below_drewN (Below.refl _ _) n⟩
/-- both crash by choices that were there ahead of them; what is found of the two -/
theorem Crash_duo (h : Duo K B w0 w a A b D) (hB : B = w0.heap.size) (v : Value) (cs : List Int) (hf : A.fits 0) (hv : SlZ w0 v cs) :
    Calls Try.prog 14 #[.pointer (some ⟨a, 0, none⟩), v] w fun e w' => ∃ fd, e = .returned (.pointer (some ⟨fd, 0, none⟩)) ∧ Duo K B w0 w' a { A with dead := true } b D ∧ Duo K B w0 w' b D fd (A.crashed cs) ∧ Fr (fun k => ¬ K k) w w' := by
  obtain ⟨S, T, h1, h2, h3, h4, h5, h6, h7⟩ := h
  subst hB
  refine (Crash_any w S a A v cs h1 hf (hv.below h5) (fun h0 k hk hs => ?_)).mono ?_
  · have := slz_lt hv h0 k hk; have := (h3 k hs).1; omega
  · rintro e w' ⟨fd, rfl, k1, k2, k3⟩
    have hfs : Fr S w w' := k1.mono fun k _ e => e ▸ h1.sd
    have hT : DAt w' T b D := h2.fr hfs (fun k hk => (h4 k hk).2.2) (fun _ h => h) (fun k hk => Nat.lt_of_lt_of_le (h2.lt k hk) k1.size)
    have hb : Below w0.heap.size w0 w' := h5.trans (hfs.to_below (fun k hk e => by have := (h3 k e).1; omega) h6)
    refine ⟨fd, rfl, ⟨S, T, k2, hT, h3, h4, hb, Nat.le_trans h6 k1.size, fun k hk => Nat.lt_of_lt_of_le (h7 k hk) k1.size⟩, ⟨T, _, hT, k3, fun k hk => ⟨(h4 k hk).1, (h4 k hk).2.1⟩, fun k hk => ⟨Nat.le_trans h6 hk.1, fun e => ?_, fun e => ?_⟩, hb, Nat.le_trans h6 k1.size, fun k hk => Nat.lt_of_lt_of_le (h7 k hk) k1.size⟩, hfs.mono fun k _ e => (h3 k e).2⟩
    · have := h7 k e; have := hk.1; omega
    · have := h2.lt k e; have := hk.1; omega
/-- a write into blocks of the law's own -/
theorem Duo.free {X : Nat → Prop} (h : Duo K B w0 w a A b D) (hf : Fr X w w') (hX : ∀ k, X k → K k ∧ B ≤ k) : Duo K B w0 w' a A b D := by
  obtain ⟨S, T, h1, h2, h3, h4, h5, h6, h7⟩ := h
  exact ⟨S, T, h1.fr hf (fun k hk e => (h3 k hk).2 (hX k e).1) (fun _ h => h) (fun k hk => Nat.lt_of_lt_of_le (h1.lt k hk) hf.size), h2.fr hf (fun k hk e => (h4 k hk).2.1 (hX k e).1) (fun _ h => h) (fun k hk => Nat.lt_of_lt_of_le (h2.lt k hk) hf.size), h3, h4, h5.trans (hf.to_below (fun k hk e => by have := (hX k e).2; omega) h6), Nat.le_trans h6 hf.size, fun k hk => Nat.lt_of_lt_of_le (h7 k hk) hf.size⟩
end
/-- what is read in kept blocks stays -/
theorem kept_cell {K : Nat → Prop} {w w' : World} {g o : Nat} {v : Value} (hf : Fr (fun k => ¬ K k) w w') (hK : K g) (h : w.cell? ⟨g, o, none⟩ = some v) : w'.cell? ⟨g, o, none⟩ = some v := by
  have hb := World.block_lt_of_cell? w _ h
  rw [World.cell?_of_block (w := w) (w' := w') (a := ⟨g, o, none⟩) (hf.block g hb (fun e => e hK)), h]
theorem DW.kept {K : Nat → Prop} {w w' : World} {g p : Nat} {o : Dop} {v x y z : Value} (h : DW g p o v x y z w) (hf : Fr (fun k => ¬ K k) w w') (hK : K g) : DW g p o v x y z w' := by
  obtain ⟨h0, h1, h2, h3, h4, h5, h6, h7, h8⟩ := h
  exact ⟨kept_cell hf hK h0, kept_cell hf hK h1, kept_cell hf hK h2, kept_cell hf hK h3, kept_cell hf hK h4, kept_cell hf hK h5, kept_cell hf hK h6, kept_cell hf hK h7, kept_cell hf hK h8⟩
theorem DW.below {w w' : World} {g p : Nat} {o : Dop} {v x y z : Value} (h : DW g p o v x y z w) (hb : Below w.heap.size w w') : DW g p o v x y z w' :=
  h.kept (K := fun k => k = g) ((Fr.of_below hb).mono fun _ _ h => h.elim) rfl
end Go.Proofs.Ytcadacljacbipaa

/- A disk that Load makes of what Slots tells goes on as the one that was told of: the plain law. -/
namespace Go.Proofs.Ytcadacljacbipaa
def Dk.plus (D : Dk) (n : Nat) : Dk := { D with done := D.done + n }
theorem plus_eff (o : DOp) (i : Nat) (D : Dk) (n : Nat) : o.eff i (D.plus n) = (o.eff i D).plus n := by
  cases o with
  | append l =>
    simp only [DOp.eff]
    split
    · unfold Dk.setSlot Dk.slot Dk.plus; by_cases h : i = 0 <;> simp [h]
    · rfl
  | wipe => simp only [DOp.eff]; unfold Dk.setSlot Dk.slot Dk.plus; by_cases h : i = 0 <;> simp [h]
  | sync => simp only [DOp.eff]; unfold Dk.setSlot Dk.slot Dk.plus; by_cases h : i = 0 <;> simp [h]
  | switch => rfl
theorem plus_err (D : Dk) (n : Nat) (i : Int) (b : Bool) : (D.plus n).err i b = D.err i b := rfl
theorem plus_step (D : Dk) (n : Nat) (i : Int) (o : DOp) : (D.plus n).step i o = (D.step i o).plus n := by
  unfold Dk.step
  have e1 : (D.plus n).dead = D.dead := rfl
  have e2 : (D.plus n).bad i o.wipes = D.bad i o.wipes := rfl
  have e3 : (D.plus n).named = D.named := rfl
  have e4 : (D.plus n).withIt = D.withIt := rfl
  have e5 : (D.plus n).near = D.near.plus n := rfl
  rw [e1, e2, e3, e4, e5, plus_eff]
  split
  · rfl
  · split
    · rfl
    · split
      · rfl
      · simp only [Dk.plus, Dk.more]; congr 1; omega
theorem step_with (D : Dk) (i : Int) (o : DOp) : (D.step i o).withIt = D.withIt := by
  unfold Dk.step
  split
  · rfl
  · split
    · rfl
    · split
      · rfl
      · show (o.eff i.toNat D.near).withIt = _
        rw [eff_with]; rfl
theorem runD_with : ∀ (ops : List Dop) (D : Dk), (runD D ops).withIt = D.withIt
  | [], D => rfl
  | o :: ops, D => by
    show (runD (if o.fourB then D.step o.slot (o.act o.data) else D) ops).withIt = _
    rw [runD_with ops]
    split
    · exact step_with _ _ _
    · rfl
/-- synced at both slots: all of it lasts -/
theorem synced {D : Dk} (h : Live D) (hw : D.withIt = false) : ∃ x y : List UInt8, (D.step 0 .sync).step 1 .sync = (Dk.load x y D.cur).plus (D.done + 2) ∧ x = D.s0.now ∧ y = D.s1.now ∧ (D.step 0 .sync).err 1 false = 0 := by
  have e1 : D.step 0 .sync = (DOp.sync.eff 0 D.near).more := h.step (.inl rfl) .sync (fun e => by cases e)
  obtain ⟨hd, hn⟩ := h
  obtain ⟨s0, s1, cur, done, named, withIt, dead⟩ := D
  simp only at hd hn hw
  subst hd hn hw
  refine ⟨s0.now, s1.now, ?_, rfl, rfl, by rw [e1]; rfl⟩
  rw [e1]
  have e2 : ((DOp.sync.eff 0 (Dk.near ⟨s0, s1, cur, done, 0, false, false⟩)).more) = ⟨s0.sync, s1, cur, done + 1, 0, false, false⟩ := rfl
  rw [e2]
  have e3 : (Dk.mk s0.sync s1 cur (done + 1) 0 false false).step 1 .sync = (DOp.sync.eff 1 (Dk.near ⟨s0.sync, s1, cur, done + 1, 0, false, false⟩)).more := Live.step ⟨rfl, rfl⟩ (.inr rfl) .sync (fun e => by cases e)
  rw [e3]
  show Dk.mk s0.sync s1.sync cur (done + 1 + 1) 0 false false = Dk.mk ⟨s0.now, []⟩ ⟨s1.now, []⟩ cur (0 + (done + 2)) 0 false false
  congr 1
  omega
theorem plus_told (D : Dk) (n : Nat) : (D.plus n).told0 = D.told0 ∧ (D.plus n).told1 = D.told1 ∧ (D.plus n).curN = D.curN ∧ (D.plus n).pending = D.pending ∧ (D.plus n).done = D.done + n := ⟨rfl, rfl, rfl, rfl, rfl⟩
theorem plus_fits {D : Dk} {m n : Nat} (h : D.fits m) (hd : D.done + n + 1 ≤ 4611686018427387904) : (D.plus n).fits m := ⟨h.room, h.acts, hd, h.named⟩
theorem plus_crashed (D : Dk) (n : Nat) (cs : List Int) : (D.plus n).crashed cs = D.crashed cs := rfl
theorem dead_crashed (D : Dk) (cs : List Int) : ({ D with dead := true } : Dk).crashed cs = D.crashed cs := rfl
theorem load_mild0 (x y : List UInt8) (c m : Nat) (h : x.length + y.length ≤ m) : (Dk.load x y c).mild 0 m := ⟨by simp [Dk.load, Dslot.room, sizes]; exact h, by simp [Dk.load], by simp [Dk.load]⟩
theorem pair_cells {W : World} {g : Nat} {u v : Value} {t : TypeId} (h : W.heap[g]? = some (.cells #[u, v] t (0, 0))) : W.cell? ⟨g, 0, none⟩ = some u ∧ W.cell? ⟨g, 1, none⟩ = some v := ⟨by rw [blk_cell h]; rfl, by rw [blk_cell h]; rfl⟩
theorem data_le (ops : List Dop) (o : Dop) (i : Nat) (h : ops[i]? = some o) : o.data.length ≤ bytesD ops := by
  unfold bytesD
  exact mem_le_sum _ _ (List.mem_map.2 ⟨o, List.mem_of_getElem? h, rfl⟩)
theorem dw_new (w : World) (o : Dop) (v x y z : Value) (t : TypeId := 51) : DW w.heap.size 0 o v x y z (w.alloc (.cells #[.int .i64 o.kind, .int .i64 o.d, .int .i64 o.slot, v, .int .i64 o.n, .bool o.done, x, y, z] t)) := by
  have h := heap_alloc_new w (.cells #[.int .i64 o.kind, .int .i64 o.d, .int .i64 o.slot, v, .int .i64 o.n, .bool o.done, x, y, z] t)
  exact ⟨by rw [blk_cell h]; rfl, by rw [blk_cell h]; rfl, by rw [blk_cell h]; rfl, by rw [blk_cell h]; rfl, by rw [blk_cell h]; rfl, by rw [blk_cell h]; rfl, by rw [blk_cell h]; rfl, by rw [blk_cell h]; rfl, by rw [blk_cell h]; rfl⟩
theorem DW.o {g : Nat} {o : Dop} {v x y z : Value} {W : World} (h : DW g 0 o v x y z W) : W.cell? ⟨g, 0, none⟩ = some (.int .i64 o.kind) ∧ W.cell? ⟨g, 1, none⟩ = some (.int .i64 o.d) ∧ W.cell? ⟨g, 2, none⟩ = some (.int .i64 o.slot) ∧ W.cell? ⟨g, 3, none⟩ = some v ∧ W.cell? ⟨g, 4, none⟩ = some (.int .i64 o.n) ∧ W.cell? ⟨g, 5, none⟩ = some (.bool o.done) ∧ W.cell? ⟨g, 6, none⟩ = some x ∧ W.cell? ⟨g, 7, none⟩ = some y ∧ W.cell? ⟨g, 8, none⟩ = some z := by
  obtain ⟨h0, h1, h2, h3, h4, h5, h6, h7, h8⟩ := h
  exact ⟨h0, h1, h2, h3, h4, h5, h6, h7, h8⟩
end Go.Proofs.Ytcadacljacbipaa

/- A disk whose n-th act is named, and one in life beside it: the plain law. -/
namespace Go.Proofs.Ytcadacljacbipaa
/-- the slots of the two are the same -/
structure Twin (A D : Dk) : Prop where
  s0 : A.s0 = D.s0
  s1 : A.s1 = D.s1
  cur : A.cur = D.cur
theorem Twin.eff {A D : Dk} (h : Twin A D) (o : DOp) (i : Nat) : Twin (o.eff i A) (o.eff i D) := by
  obtain ⟨h0, h1, h2⟩ := h
  have hs : A.slot i = D.slot i := by unfold Dk.slot; rw [h0, h1]
  cases o with
  | append l =>
    simp only [DOp.eff]
    split
    · rw [hs]; unfold Dk.setSlot; split
      · exact ⟨rfl, h1, h2⟩
      · exact ⟨h0, rfl, h2⟩
    · exact ⟨h0, h1, h2⟩
  | wipe =>
    simp only [DOp.eff]
    rw [hs]; unfold Dk.setSlot; split
    · exact ⟨rfl, h1, h2⟩
    · exact ⟨h0, rfl, h2⟩
  | sync =>
    simp only [DOp.eff]
    rw [hs]; unfold Dk.setSlot; split
    · exact ⟨rfl, h1, h2⟩
    · exact ⟨h0, rfl, h2⟩
  | switch => exact ⟨h0, h1, rfl⟩
/-- a, its many-th act named; b in life; so many acts were done -/
structure Rel (many : Nat) (wi : Bool) (A D : Dk) (acts : Nat) (dead : Bool) : Prop where
  t : Twin A D
  ad : A.done = acts
  dd : D.done = acts
  a : A.dead = dead
  d : D.dead = false
  n : D.named = 0
  w : A.withIt = wi
  l : dead = false → A.named = many - acts ∧ (many = 0 ∨ acts < many)
section
variable {many acts : Nat} {wi : Bool} {A D : Dk} (i : Int) (o : DOp)
theorem Rel.dead_step (h : Rel many wi A D acts true) : A.err i o.wipes = 60 ∧ A.step i o = A := by
  unfold Dk.err Dk.step
  rw [if_pos h.a, if_pos h.a]
  exact ⟨rfl, rfl⟩
theorem Rel.bad_step {dead : Bool} (h : Rel many wi A D acts dead) (hd : dead = false) (hb : A.bad i o.wipes = true) : A.err i o.wipes = 61 ∧ A.step i o = A ∧ D.err i o.wipes = 61 ∧ D.step i o = D := by
  subst hd
  have hb2 : D.bad i o.wipes = true := by
    rw [← hb]; unfold Dk.bad; rw [h.t.cur]
  have ha := h.a
  have hd := h.d
  unfold Dk.err Dk.step
  rw [ha, hd, hb, hb2]
  exact ⟨rfl, rfl, rfl, rfl⟩
theorem Rel.live (h : Rel many wi A D acts false) (hb : A.bad i o.wipes = false) : D.err i o.wipes = 0 ∧ D.step i o = (o.eff i.toNat D.near).more := by
  have hb2 : D.bad i o.wipes = false := by
    rw [← hb]; unfold Dk.bad; rw [h.t.cur]
  have hd := h.d
  have hn := h.n
  unfold Dk.err Dk.step
  rw [hd, hb2, hn]
  exact ⟨rfl, rfl⟩
theorem Rel.both (h : Rel many wi A D acts false) (hb : A.bad i o.wipes = false) (hs : A.step i o = (o.eff i.toNat A.near).more) (dead : Bool) (hdead : dead = (A.named == 1)) (hl : dead = false → many = 0 ∨ acts + 1 < many) : Rel many wi (A.step i o) (D.step i o) (acts + 1) dead := by
  obtain ⟨_, hd⟩ := h.live i o hb
  have ht : Twin A.near D.near := ⟨h.t.s0, h.t.s1, h.t.cur⟩
  have hte := ht.eff o i.toNat
  rw [hs, hd]
  refine ⟨⟨hte.s0, hte.s1, hte.cur⟩, ?_, ?_, ?_, ?_, ?_, ?_, fun e => ⟨?_, hl e⟩⟩
  · show (o.eff i.toNat A.near).done + 1 = _
    rw [eff_done]; show A.done + 1 = _; rw [h.ad]
  · show (o.eff i.toNat D.near).done + 1 = _
    rw [eff_done]; show D.done + 1 = _; rw [h.dd]
  · show (o.eff i.toNat A.near).dead = _
    rw [eff_dead, hdead]; rfl
  · show (o.eff i.toNat D.near).dead = _
    rw [eff_dead]; show (D.named == 1) = false; rw [h.n]; rfl
  · show (o.eff i.toNat D.near).named = _
    rw [eff_named]; show D.named - 1 = 0; rw [h.n]
  · show (o.eff i.toNat A.near).withIt = _
    rw [eff_with]; exact h.w
  · show (o.eff i.toNat A.near).named = _
    rw [eff_named]; show A.named - 1 = _
    have := (h.l rfl).1; omega
/-- the named act is not yet met -/
theorem Rel.far_step (h : Rel many wi A D acts false) (hb : A.bad i o.wipes = false) (hm : acts + 1 ≠ many) : A.err i o.wipes = 0 ∧ D.err i o.wipes = 0 ∧ Rel many wi (A.step i o) (D.step i o) (acts + 1) false := by
  have ha := h.a
  obtain ⟨hl1, hl2⟩ := h.l rfl
  have hn1 : A.named ≠ 1 := by omega
  refine ⟨?_, (h.live i o hb).1, h.both i o hb ?_ false (by rw [eq_comm, beq_eq_false_iff_ne]; exact hn1) (fun _ => by omega)⟩
  · unfold Dk.err; rw [ha, hb, if_neg (by decide), if_neg (by decide), if_neg hn1]
  · unfold Dk.step; rw [ha, hb, if_neg (by decide), if_neg (by decide), if_neg (fun e => hn1 e.1)]
/-- the named act is met, and done -/
theorem Rel.met_done (h : Rel many wi A D acts false) (hb : A.bad i o.wipes = false) (hm : acts + 1 = many) (hw : wi = true) : A.err i o.wipes = 60 ∧ D.err i o.wipes = 0 ∧ Rel many wi (A.step i o) (D.step i o) (acts + 1) true := by
  have ha := h.a
  obtain ⟨hl1, hl2⟩ := h.l rfl
  have hn1 : A.named = 1 := by omega
  refine ⟨?_, (h.live i o hb).1, h.both i o hb ?_ true (by rw [hn1]; rfl) (fun e => by cases e)⟩
  · unfold Dk.err; rw [ha, hb, if_neg (by decide), if_neg (by decide), if_pos hn1]
  · unfold Dk.step; rw [ha, hb, if_neg (by decide), if_neg (by decide), if_neg (fun e => by rw [h.w, hw] at e; cases e.2)]
/-- the named act is met, and not done -/
theorem Rel.met_not (h : Rel many wi A D acts false) (hb : A.bad i o.wipes = false) (hm : acts + 1 = many) (hw : wi = false) : A.err i o.wipes = 60 ∧ Rel many wi (A.step i o) D acts true := by
  have ha := h.a
  obtain ⟨hl1, hl2⟩ := h.l rfl
  have hn1 : A.named = 1 := by omega
  have hs : A.step i o = A.near := by
    unfold Dk.step; rw [ha, hb, if_neg (by decide), if_neg (by decide), if_pos ⟨hn1, by rw [h.w, hw]⟩]
  refine ⟨?_, ?_⟩
  · unfold Dk.err; rw [ha, hb, if_neg (by decide), if_neg (by decide), if_pos hn1]
  · rw [hs]
    exact ⟨⟨h.t.s0, h.t.s1, h.t.cur⟩, h.ad, h.dd, by show (A.named == 1) = true; rw [hn1]; rfl, h.d, h.n, h.w, fun e => by cases e⟩
end
theorem Rel.start (many : Nat) (wi : Bool) : Rel many wi (Dk.new.stop (many : Int) wi) Dk.new 0 false :=
  ⟨⟨rfl, rfl, rfl⟩, rfl, rfl, rfl, rfl, rfl, rfl, fun _ => ⟨by show (many : Int).toNat = many - 0; omega, by omega⟩⟩
theorem Twin.crashed {A D : Dk} (h : Twin A D) (cs : List Int) : A.crashed cs = D.crashed cs := by
  unfold Dk.crashed; rw [h.s0, h.s1, h.cur]
theorem Twin.pending {A D : Dk} (h : Twin A D) : A.pending = D.pending := by
  unfold Dk.pending; rw [h.s0, h.s1]
theorem mild_more {D : Dk} {k m m' : Nat} (h : D.mild k m) (hm : m ≤ m') : D.mild (k + 1) m' := ⟨Nat.le_trans h.room hm, Nat.le_succ_of_le h.acts, Nat.le_succ_of_le h.done⟩
theorem mild_step {D : Dk} {k m m' : Nat} (h : D.mild k m) (n : Int) (o : DOp) (hm : m + o.size ≤ m') : (D.step n o).mild (k + 1) m' := by
  have h2 := h.step n o
  exact ⟨Nat.le_trans h2.room hm, h2.acts, h2.done⟩
theorem stop_mild (many : Nat) (wi : Bool) : (Dk.new.stop (many : Int) wi).mild 0 0 := ⟨new_mild.room, new_mild.acts, new_mild.done⟩
/-- a disk of m bytes and k acts at most, whatever is named -/
theorem mild_fits2 {D : Dk} {k m n : Nat} (h : D.mild k m) (hn : D.named ≤ 9223372036854775807) (hk : k ≤ 4194304) (hm : m + n ≤ 4194304) : D.fits n := h.fits hn hk hm
end Go.Proofs.Ytcadacljacbipaa

/- over: spare room and all is written over; what five acts make of a disk that a crash left. -/
namespace Go.Proofs.Ytcadacljacbipaa
open Go.RowKit
set_option maxHeartbeats 1000000 in
theorem over_any (v : Value) (l : List UInt8) (base : Nat) (w : World) (h : OwnB w base v l) :
    Calls Try.prog 23 #[v] w fun e w' => e = .returned (.tuple #[]) ∧ Fr (fun k => v.ownBlock = some k) w w' := by
  obtain ⟨_, ⟨rfl, _⟩ | ⟨g, cap, cur, rfl, _, hg, hn, hm, hs, _⟩⟩ := h
  · go_enter Try.func23, Try.ntmps23
    go_wp2
    go_loopw [3] (fun i wr => i = .int .i64 0 ∧ wr = w) (fun _ _ => 0)
    case atStart => exact ⟨rfl, rfl⟩
    case round =>
      obtain ⟨rfl, hw⟩ := hrel
      have hw := hw.symm
      subst hw
      go_wp2
      go_returns
      exact ⟨rfl, Fr.refl _ _⟩
  · rw [Nat.mul_one] at hs
    have HG := hid hg
    have HS := hid hs
    have hm2 : cap ≤ 9223372036854775807 := by unfold maxLen at hm; omega
    have hown : Hid ((Value.slice (some ⟨g, 0, none⟩) l.length cap).ownBlock = some g) := hid rfl
    clear hg hs
    go_enter Try.func23, Try.ntmps23
    go_wp2
    go_loopw [3] (fun i wr => ∃ (j : Nat) (cur' : Array Value), j ≤ cap ∧ i = .int .i64 j ∧ wr.heap[g]? = some (.cells cur' 5 (0, 0)) ∧ cur'.size = cap ∧ Fr (fun k => k = g) w wr) (fun i _ => cap - (intOf i).toNat)
    case atStart => exact ⟨0, cur, Nat.zero_le _, rfl, HG.out, HS.out, Fr.refl _ _⟩
    case round =>
      clear HG HS
      obtain ⟨j, cur', hj, rfl, hg, hs, hf⟩ := hrel
      have HG := hid hg
      have HS := hid hs
      have HF := hid hf
      clear hg hs hf
      by_cases hlt : j < cap
      · have c0 : wr.cell? ⟨g, j, none⟩ = some (cur'[j]'(by rw [HS.out]; exact hlt)) := by rw [blk_cell HG.out]; exact Array.getElem?_eq_getElem _
        have f0 : wr.frozen? ⟨g, j, none⟩ = false := blk_frozen HG.out _
        go_wp2
        go_roundw
        case rel => exact ⟨j + 1, _, by omega, by go_num, blk_set HG.out j _, by rw [Array.size_setIfInBounds]; exact HS.out, HF.out.trans ((Fr.set_ (g := g) j _).mono fun k _ e => .inl e)⟩
        case measure => simp [intOf]; omega
      · go_wp2
        go_returns
        exact ⟨rfl, HF.out.mono fun k _ e => by rw [e]; exact hown.out⟩
def five (A : Dk) (m : List UInt8) (n : Int) : Dk := ((((A.step 0 (.append m)).step 1 (.append m)).step (1 - n) .switch).step n .wipe).step n .sync
theorem five_0 (a b m : List UInt8) : (five (Dk.load a b 0) m 0).told0 = [] ∧ (five (Dk.load a b 0) m 0).told1 = b ++ m ∧ (Dk.load a b 0).err 0 false = 0 ∧ ((Dk.load a b 0).step 0 (.append m)).err 1 false = 0 ∧ (((Dk.load a b 0).step 0 (.append m)).step 1 (.append m)).err 1 false = 0 ∧
    ((((Dk.load a b 0).step 0 (.append m)).step 1 (.append m)).step 1 .switch).err 0 true = 0 ∧ (((((Dk.load a b 0).step 0 (.append m)).step 1 (.append m)).step 1 .switch).step 0 .wipe).err 0 false = 0 := by
  cases m with
  | nil => exact ⟨rfl, by show b = b ++ []; simp, rfl, rfl, rfl, rfl, rfl⟩
  | cons x m => exact ⟨rfl, rfl, rfl, rfl, rfl, rfl, rfl⟩
theorem five_1 (a b m : List UInt8) : (five (Dk.load a b 1) m 1).told1 = [] ∧ (five (Dk.load a b 1) m 1).told0 = a ++ m ∧ (Dk.load a b 1).err 0 false = 0 ∧ ((Dk.load a b 1).step 0 (.append m)).err 1 false = 0 ∧ (((Dk.load a b 1).step 0 (.append m)).step 1 (.append m)).err 0 false = 0 ∧
    ((((Dk.load a b 1).step 0 (.append m)).step 1 (.append m)).step 0 .switch).err 1 true = 0 ∧ (((((Dk.load a b 1).step 0 (.append m)).step 1 (.append m)).step 0 .switch).step 1 .wipe).err 1 false = 0 := by
  cases m with
  | nil => exact ⟨rfl, by show a = a ++ []; simp, rfl, rfl, rfl, rfl, rfl⟩
  | cons x m => exact ⟨rfl, rfl, rfl, rfl, rfl, rfl, rfl⟩
end Go.Proofs.Ytcadacljacbipaa
