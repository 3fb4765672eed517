/- What an act may add to a disk; a script of acts. -/
import Derived.Test.YtcadacljacbipaaDkU
namespace Go.Proofs.Ytcadacljacbipaa
def DOp.size : DOp → Nat
  | .append l => l.length
  | _ => 0
theorem setSlot_room (D : Dk) (i : Nat) (s : Dslot) : (D.setSlot i s).s0.room + (D.setSlot i s).s1.room + (D.slot i).room = D.s0.room + D.s1.room + s.room := by
  unfold Dk.setSlot Dk.slot
  by_cases h : i = 0 <;> simp [h] <;> omega
theorem setSlot_acts (D : Dk) (i : Nat) (s : Dslot) : (D.setSlot i s).s0.acts.length + (D.setSlot i s).s1.acts.length + (D.slot i).acts.length = D.s0.acts.length + D.s1.acts.length + s.acts.length := by
  unfold Dk.setSlot Dk.slot
  by_cases h : i = 0 <;> simp [h] <;> omega
theorem eff_room (o : DOp) (i : Nat) (D : Dk) : (o.eff i D).s0.room + (o.eff i D).s1.room ≤ D.s0.room + D.s1.room + o.size := by
  cases o with
  | append l =>
    simp only [DOp.eff, DOp.size]
    split
    · have := setSlot_room D i ((D.slot i).do (.app l))
      rw [Dslot.room_do] at this
      simp only [DAct.size] at this
      omega
    · omega
  | wipe =>
    simp only [DOp.eff, DOp.size]
    have := setSlot_room D i ((D.slot i).do .wipe)
    rw [Dslot.room_do] at this
    simp only [DAct.size] at this
    omega
  | sync =>
    simp only [DOp.eff, DOp.size]
    have := setSlot_room D i (D.slot i).sync
    have h2 := (D.slot i).room_sync
    omega
  | switch => simp [DOp.eff, DOp.size]
theorem eff_acts (o : DOp) (i : Nat) (D : Dk) : (o.eff i D).s0.acts.length + (o.eff i D).s1.acts.length ≤ D.s0.acts.length + D.s1.acts.length + 1 := by
  cases o with
  | append l =>
    simp only [DOp.eff]
    split
    · have := setSlot_acts D i ((D.slot i).do (.app l))
      have e : ((D.slot i).do (.app l)).acts.length = (D.slot i).acts.length + 1 := by simp [Dslot.do]
      omega
    · omega
  | wipe =>
    simp only [DOp.eff]
    have := setSlot_acts D i ((D.slot i).do .wipe)
    have e : ((D.slot i).do .wipe).acts.length = (D.slot i).acts.length + 1 := by simp [Dslot.do]
    omega
  | sync =>
    simp only [DOp.eff]
    have := setSlot_acts D i (D.slot i).sync
    have e : (D.slot i).sync.acts.length = 0 := rfl
    omega
  | switch => simp [DOp.eff]
theorem eff_near_room (o : DOp) (i : Nat) (D : Dk) : (o.eff i D.near).s0.room + (o.eff i D.near).s1.room ≤ D.s0.room + D.s1.room + o.size := eff_room o i D.near
theorem step_room (D : Dk) (n : Int) (o : DOp) : (D.step n o).s0.room + (D.step n o).s1.room ≤ D.s0.room + D.s1.room + o.size := by
  unfold Dk.step
  have := eff_room o n.toNat D.near
  have h2 : D.near.s0.room + D.near.s1.room = D.s0.room + D.s1.room := rfl
  split
  · omega
  split
  · omega
  split
  · show D.s0.room + D.s1.room ≤ _; omega
  · show (o.eff n.toNat D.near).s0.room + (o.eff n.toNat D.near).s1.room ≤ _; omega
theorem step_acts (D : Dk) (n : Int) (o : DOp) : (D.step n o).s0.acts.length + (D.step n o).s1.acts.length ≤ D.s0.acts.length + D.s1.acts.length + 1 := by
  unfold Dk.step
  have := eff_acts o n.toNat D.near
  have h2 : D.near.s0.acts.length + D.near.s1.acts.length = D.s0.acts.length + D.s1.acts.length := rfl
  split
  · omega
  split
  · omega
  split
  · show D.s0.acts.length + D.s1.acts.length ≤ _; omega
  · show (o.eff n.toNat D.near).s0.acts.length + (o.eff n.toNat D.near).s1.acts.length ≤ _; omega
theorem step_done (D : Dk) (n : Int) (o : DOp) : (D.step n o).done ≤ D.done + 1 := by
  unfold Dk.step
  split
  · omega
  split
  · omega
  split
  · show D.done ≤ _; omega
  · show (o.eff n.toNat D.near).done + 1 ≤ _
    rw [eff_done]; show D.done + 1 ≤ _; omega
theorem step_named (D : Dk) (n : Int) (o : DOp) : (D.step n o).named ≤ D.named := by
  unfold Dk.step
  split
  · omega
  split
  · omega
  split
  · show D.named - 1 ≤ _; omega
  · show (o.eff n.toNat D.near).named ≤ _
    rw [eff_named]; show D.named - 1 ≤ _; omega
theorem step_alive (D : Dk) (n : Int) (o : DOp) (h0 : D.named = 0) (hd : D.dead = false) : (D.step n o).dead = false := by
  unfold Dk.step
  split
  · exact hd
  split
  · exact hd
  split
  · rename_i h; omega
  · show (o.eff n.toNat D.near).dead = false
    rw [eff_dead]; show (D.named == 1) = false; rw [h0]; rfl
/-- a disk that k acts with m bytes have come to -/
structure Dk.mild (D : Dk) (k m : Nat) : Prop where
  room : D.s0.room + D.s1.room ≤ m
  acts : D.s0.acts.length + D.s1.acts.length ≤ k
  done : D.done ≤ k
theorem Dk.mild.fits {D : Dk} {k m n : Nat} (h : D.mild k m) (hn : D.named ≤ 9223372036854775807) (hk : k ≤ 4194304) (hm : m + n ≤ 4194304) : D.fits n :=
  ⟨by have := h.room; omega, by have := h.acts; omega, by have := h.done; omega, hn⟩
theorem Dk.mild.step {D : Dk} {k m : Nat} (h : D.mild k m) (n : Int) (o : DOp) : (D.step n o).mild (k + 1) (m + o.size) :=
  ⟨by have := step_room D n o; have := h.room; omega, by have := step_acts D n o; have := h.acts; omega, by have := step_done D n o; have := h.done; omega⟩
def Dop.fourB (o : Dop) : Bool := decide (1 ≤ o.kind) && decide (o.kind ≤ 4)
/-- behind a script's acts -/
def runD (D : Dk) (ops : List Dop) : Dk := ops.foldl (fun D o => if o.fourB then D.step o.slot (o.act o.data) else D) D
def bytesD (ops : List Dop) : Nat := (ops.map fun o => o.data.length).sum
theorem act_size (o : Dop) (da : List UInt8) : (o.act da).size ≤ da.length := by
  unfold Dop.act
  split
  · exact Nat.le_refl _
  split
  · exact Nat.zero_le _
  split
  · exact Nat.zero_le _
  · exact Nat.zero_le _
theorem runD_snoc (D : Dk) (ops : List Dop) (o : Dop) : runD D (ops ++ [o]) = if o.fourB then (runD D ops).step o.slot (o.act o.data) else runD D ops := by simp [runD]
theorem runD_take (D : Dk) (ops : List Dop) (k : Nat) (hk : k < ops.length) : runD D (ops.take (k + 1)) = if (ops[k]).fourB then (runD D (ops.take k)).step (ops[k]).slot ((ops[k]).act (ops[k]).data) else runD D (ops.take k) := by
  rw [List.take_succ_eq_append_getElem hk, runD_snoc]
theorem runD_state (D : Dk) (k m : Nat) (hD : D.mild k m) (h0 : D.named = 0) (hd : D.dead = false) (ops : List Dop) : (runD D ops).mild (k + ops.length) (m + bytesD ops) ∧ (runD D ops).named = 0 ∧ (runD D ops).dead = false := by
  induction ops generalizing D k m with
  | nil => exact ⟨hD, h0, hd⟩
  | cons o ops ih =>
    have e : runD D (o :: ops) = runD (if o.fourB then D.step o.slot (o.act o.data) else D) ops := rfl
    rw [e]
    by_cases hf : o.fourB = true
    · rw [if_pos hf]
      have h1 := hD.step o.slot (o.act o.data)
      have h2 := act_size o o.data
      have h3 := step_named D o.slot (o.act o.data)
      obtain ⟨a, b, c⟩ := ih (D.step o.slot (o.act o.data)) (k + 1) (m + o.data.length) ⟨by have := h1.room; omega, h1.acts, h1.done⟩ (by omega) (step_alive D _ _ h0 hd)
      refine ⟨⟨?_, ?_, ?_⟩, b, c⟩
      · have := a.room; simp only [bytesD, List.map_cons, List.sum_cons] at this ⊢; omega
      · have := a.acts; simp only [List.length_cons]; omega
      · have := a.done; simp only [List.length_cons]; omega
    · rw [if_neg hf]
      obtain ⟨a, b, c⟩ := ih D k m hD h0 hd
      refine ⟨⟨?_, ?_, ?_⟩, b, c⟩
      · have := a.room; simp only [bytesD, List.map_cons, List.sum_cons] at this ⊢; omega
      · have := a.acts; simp only [List.length_cons]; omega
      · have := a.done; simp only [List.length_cons]; omega
theorem new_mild : Dk.new.mild 0 0 := ⟨by decide, by decide, by decide⟩
theorem bytesD_take (ops : List Dop) (k : Nat) : bytesD (ops.take k) ≤ bytesD ops := by
  have : bytesD (ops.take k) + bytesD (ops.drop k) = bytesD ops := by
    unfold bytesD; rw [← List.sum_append, ← List.map_append, List.take_append_drop]
  omega
end Go.Proofs.Ytcadacljacbipaa
