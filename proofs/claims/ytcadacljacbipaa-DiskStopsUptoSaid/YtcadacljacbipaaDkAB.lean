/- A disk that Load makes of what Slots tells goes on as the one that was told of: the plain law. -/
import Derived.Test.YtcadacljacbipaaDkAA
namespace Go.Proofs.Ytcadacljacbipaa
def Dk.plus (D : Dk) (n : Nat) : Dk := { D with done := D.done + n }
theorem plus_eff (o : DOp) (i : Nat) (D : Dk) (n : Nat) : o.eff i (D.plus n) = (o.eff i D).plus n := by
  cases o with
  | append l =>
    simp only [DOp.eff]
    split
    · unfold Dk.setSlot Dk.slot Dk.plus; by_cases h : i = 0 <;> simp [h]
    · rfl
  | wipe => simp only [DOp.eff]; unfold Dk.setSlot Dk.slot Dk.plus; by_cases h : i = 0 <;> simp [h]
  | sync => simp only [DOp.eff]; unfold Dk.setSlot Dk.slot Dk.plus; by_cases h : i = 0 <;> simp [h]
  | switch => rfl
theorem plus_err (D : Dk) (n : Nat) (i : Int) (b : Bool) : (D.plus n).err i b = D.err i b := rfl
theorem plus_step (D : Dk) (n : Nat) (i : Int) (o : DOp) : (D.plus n).step i o = (D.step i o).plus n := by
  unfold Dk.step
  have e1 : (D.plus n).dead = D.dead := rfl
  have e2 : (D.plus n).bad i o.wipes = D.bad i o.wipes := rfl
  have e3 : (D.plus n).named = D.named := rfl
  have e4 : (D.plus n).withIt = D.withIt := rfl
  have e5 : (D.plus n).near = D.near.plus n := rfl
  rw [e1, e2, e3, e4, e5, plus_eff]
  split
  · rfl
  · split
    · rfl
    · split
      · rfl
      · simp only [Dk.plus, Dk.more]; congr 1; omega
theorem step_with (D : Dk) (i : Int) (o : DOp) : (D.step i o).withIt = D.withIt := by
  unfold Dk.step
  split
  · rfl
  · split
    · rfl
    · split
      · rfl
      · show (o.eff i.toNat D.near).withIt = _
        rw [eff_with]; rfl
theorem runD_with : ∀ (ops : List Dop) (D : Dk), (runD D ops).withIt = D.withIt
  | [], D => rfl
  | o :: ops, D => by
    show (runD (if o.fourB then D.step o.slot (o.act o.data) else D) ops).withIt = _
    rw [runD_with ops]
    split
    · exact step_with _ _ _
    · rfl
/-- synced at both slots: all of it lasts -/
theorem synced {D : Dk} (h : Live D) (hw : D.withIt = false) : ∃ x y : List UInt8, (D.step 0 .sync).step 1 .sync = (Dk.load x y D.cur).plus (D.done + 2) ∧ x = D.s0.now ∧ y = D.s1.now ∧ (D.step 0 .sync).err 1 false = 0 := by
  have e1 : D.step 0 .sync = (DOp.sync.eff 0 D.near).more := h.step (.inl rfl) .sync (fun e => by cases e)
  obtain ⟨hd, hn⟩ := h
  obtain ⟨s0, s1, cur, done, named, withIt, dead⟩ := D
  simp only at hd hn hw
  subst hd hn hw
  refine ⟨s0.now, s1.now, ?_, rfl, rfl, by rw [e1]; rfl⟩
  rw [e1]
  have e2 : ((DOp.sync.eff 0 (Dk.near ⟨s0, s1, cur, done, 0, false, false⟩)).more) = ⟨s0.sync, s1, cur, done + 1, 0, false, false⟩ := rfl
  rw [e2]
  have e3 : (Dk.mk s0.sync s1 cur (done + 1) 0 false false).step 1 .sync = (DOp.sync.eff 1 (Dk.near ⟨s0.sync, s1, cur, done + 1, 0, false, false⟩)).more := Live.step ⟨rfl, rfl⟩ (.inr rfl) .sync (fun e => by cases e)
  rw [e3]
  show Dk.mk s0.sync s1.sync cur (done + 1 + 1) 0 false false = Dk.mk ⟨s0.now, []⟩ ⟨s1.now, []⟩ cur (0 + (done + 2)) 0 false false
  congr 1
  omega
theorem plus_told (D : Dk) (n : Nat) : (D.plus n).told0 = D.told0 ∧ (D.plus n).told1 = D.told1 ∧ (D.plus n).curN = D.curN ∧ (D.plus n).pending = D.pending ∧ (D.plus n).done = D.done + n := ⟨rfl, rfl, rfl, rfl, rfl⟩
theorem plus_fits {D : Dk} {m n : Nat} (h : D.fits m) (hd : D.done + n + 1 ≤ 4611686018427387904) : (D.plus n).fits m := ⟨h.room, h.acts, hd, h.named⟩
theorem plus_crashed (D : Dk) (n : Nat) (cs : List Int) : (D.plus n).crashed cs = D.crashed cs := rfl
theorem dead_crashed (D : Dk) (cs : List Int) : ({ D with dead := true } : Dk).crashed cs = D.crashed cs := rfl
theorem load_mild0 (x y : List UInt8) (c m : Nat) (h : x.length + y.length ≤ m) : (Dk.load x y c).mild 0 m := ⟨by simp [Dk.load, Dslot.room, sizes]; exact h, by simp [Dk.load], by simp [Dk.load]⟩
theorem pair_cells {W : World} {g : Nat} {u v : Value} {t : TypeId} (h : W.heap[g]? = some (.cells #[u, v] t (0, 0))) : W.cell? ⟨g, 0, none⟩ = some u ∧ W.cell? ⟨g, 1, none⟩ = some v := ⟨by rw [blk_cell h]; rfl, by rw [blk_cell h]; rfl⟩
theorem data_le (ops : List Dop) (o : Dop) (i : Nat) (h : ops[i]? = some o) : o.data.length ≤ bytesD ops := by
  unfold bytesD
  exact mem_le_sum _ _ (List.mem_map.2 ⟨o, List.mem_of_getElem? h, rfl⟩)
theorem dw_new (w : World) (o : Dop) (v x y z : Value) (t : TypeId := 51) : DW w.heap.size 0 o v x y z (w.alloc (.cells #[.int .i64 o.kind, .int .i64 o.d, .int .i64 o.slot, v, .int .i64 o.n, .bool o.done, x, y, z] t)) := by
  have h := heap_alloc_new w (.cells #[.int .i64 o.kind, .int .i64 o.d, .int .i64 o.slot, v, .int .i64 o.n, .bool o.done, x, y, z] t)
  exact ⟨by rw [blk_cell h]; rfl, by rw [blk_cell h]; rfl, by rw [blk_cell h]; rfl, by rw [blk_cell h]; rfl, by rw [blk_cell h]; rfl, by rw [blk_cell h]; rfl, by rw [blk_cell h]; rfl, by rw [blk_cell h]; rfl, by rw [blk_cell h]; rfl⟩
theorem DW.o {g : Nat} {o : Dop} {v x y z : Value} {W : World} (h : DW g 0 o v x y z W) : W.cell? ⟨g, 0, none⟩ = some (.int .i64 o.kind) ∧ W.cell? ⟨g, 1, none⟩ = some (.int .i64 o.d) ∧ W.cell? ⟨g, 2, none⟩ = some (.int .i64 o.slot) ∧ W.cell? ⟨g, 3, none⟩ = some v ∧ W.cell? ⟨g, 4, none⟩ = some (.int .i64 o.n) ∧ W.cell? ⟨g, 5, none⟩ = some (.bool o.done) ∧ W.cell? ⟨g, 6, none⟩ = some x ∧ W.cell? ⟨g, 7, none⟩ = some y ∧ W.cell? ⟨g, 8, none⟩ = some z := by
  obtain ⟨h0, h1, h2, h3, h4, h5, h6, h7, h8⟩ := h
  exact ⟨h0, h1, h2, h3, h4, h5, h6, h7, h8⟩
end Go.Proofs.Ytcadacljacbipaa
