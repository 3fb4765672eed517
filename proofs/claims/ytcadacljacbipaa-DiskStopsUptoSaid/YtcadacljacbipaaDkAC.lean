/- A disk whose n-th act is named, and one in life beside it: the plain law. -/
import Derived.Test.YtcadacljacbipaaDkAB
namespace Go.Proofs.Ytcadacljacbipaa
/-- the slots of the two are the same -/
structure Twin (A D : Dk) : Prop where
  s0 : A.s0 = D.s0
  s1 : A.s1 = D.s1
  cur : A.cur = D.cur
theorem Twin.eff {A D : Dk} (h : Twin A D) (o : DOp) (i : Nat) : Twin (o.eff i A) (o.eff i D) := by
  obtain ⟨h0, h1, h2⟩ := h
  have hs : A.slot i = D.slot i := by unfold Dk.slot; rw [h0, h1]
  cases o with
  | append l =>
    simp only [DOp.eff]
    split
    · rw [hs]; unfold Dk.setSlot; split
      · exact ⟨rfl, h1, h2⟩
      · exact ⟨h0, rfl, h2⟩
    · exact ⟨h0, h1, h2⟩
  | wipe =>
    simp only [DOp.eff]
    rw [hs]; unfold Dk.setSlot; split
    · exact ⟨rfl, h1, h2⟩
    · exact ⟨h0, rfl, h2⟩
  | sync =>
    simp only [DOp.eff]
    rw [hs]; unfold Dk.setSlot; split
    · exact ⟨rfl, h1, h2⟩
    · exact ⟨h0, rfl, h2⟩
  | switch => exact ⟨h0, h1, rfl⟩
/-- a, its many-th act named; b in life; so many acts were done -/
structure Rel (many : Nat) (wi : Bool) (A D : Dk) (acts : Nat) (dead : Bool) : Prop where
  t : Twin A D
  ad : A.done = acts
  dd : D.done = acts
  a : A.dead = dead
  d : D.dead = false
  n : D.named = 0
  w : A.withIt = wi
  l : dead = false → A.named = many - acts ∧ (many = 0 ∨ acts < many)
section
variable {many acts : Nat} {wi : Bool} {A D : Dk} (i : Int) (o : DOp)
theorem Rel.dead_step (h : Rel many wi A D acts true) : A.err i o.wipes = 60 ∧ A.step i o = A := by
  unfold Dk.err Dk.step
  rw [if_pos h.a, if_pos h.a]
  exact ⟨rfl, rfl⟩
theorem Rel.bad_step {dead : Bool} (h : Rel many wi A D acts dead) (hd : dead = false) (hb : A.bad i o.wipes = true) : A.err i o.wipes = 61 ∧ A.step i o = A ∧ D.err i o.wipes = 61 ∧ D.step i o = D := by
  subst hd
  have hb2 : D.bad i o.wipes = true := by
    rw [← hb]; unfold Dk.bad; rw [h.t.cur]
  have ha := h.a
  have hd := h.d
  unfold Dk.err Dk.step
  rw [ha, hd, hb, hb2]
  exact ⟨rfl, rfl, rfl, rfl⟩
theorem Rel.live (h : Rel many wi A D acts false) (hb : A.bad i o.wipes = false) : D.err i o.wipes = 0 ∧ D.step i o = (o.eff i.toNat D.near).more := by
  have hb2 : D.bad i o.wipes = false := by
    rw [← hb]; unfold Dk.bad; rw [h.t.cur]
  have hd := h.d
  have hn := h.n
  unfold Dk.err Dk.step
  rw [hd, hb2, hn]
  exact ⟨rfl, rfl⟩
theorem Rel.both (h : Rel many wi A D acts false) (hb : A.bad i o.wipes = false) (hs : A.step i o = (o.eff i.toNat A.near).more) (dead : Bool) (hdead : dead = (A.named == 1)) (hl : dead = false → many = 0 ∨ acts + 1 < many) : Rel many wi (A.step i o) (D.step i o) (acts + 1) dead := by
  obtain ⟨_, hd⟩ := h.live i o hb
  have ht : Twin A.near D.near := ⟨h.t.s0, h.t.s1, h.t.cur⟩
  have hte := ht.eff o i.toNat
  rw [hs, hd]
  refine ⟨⟨hte.s0, hte.s1, hte.cur⟩, ?_, ?_, ?_, ?_, ?_, ?_, fun e => ⟨?_, hl e⟩⟩
  · show (o.eff i.toNat A.near).done + 1 = _
    rw [eff_done]; show A.done + 1 = _; rw [h.ad]
  · show (o.eff i.toNat D.near).done + 1 = _
    rw [eff_done]; show D.done + 1 = _; rw [h.dd]
  · show (o.eff i.toNat A.near).dead = _
    rw [eff_dead, hdead]; rfl
  · show (o.eff i.toNat D.near).dead = _
    rw [eff_dead]; show (D.named == 1) = false; rw [h.n]; rfl
  · show (o.eff i.toNat D.near).named = _
    rw [eff_named]; show D.named - 1 = 0; rw [h.n]
  · show (o.eff i.toNat A.near).withIt = _
    rw [eff_with]; exact h.w
  · show (o.eff i.toNat A.near).named = _
    rw [eff_named]; show A.named - 1 = _
    have := (h.l rfl).1; omega
/-- the named act is not yet met -/
theorem Rel.far_step (h : Rel many wi A D acts false) (hb : A.bad i o.wipes = false) (hm : acts + 1 ≠ many) : A.err i o.wipes = 0 ∧ D.err i o.wipes = 0 ∧ Rel many wi (A.step i o) (D.step i o) (acts + 1) false := by
  have ha := h.a
  obtain ⟨hl1, hl2⟩ := h.l rfl
  have hn1 : A.named ≠ 1 := by omega
  refine ⟨?_, (h.live i o hb).1, h.both i o hb ?_ false (by rw [eq_comm, beq_eq_false_iff_ne]; exact hn1) (fun _ => by omega)⟩
  · unfold Dk.err; rw [ha, hb, if_neg (by decide), if_neg (by decide), if_neg hn1]
  · unfold Dk.step; rw [ha, hb, if_neg (by decide), if_neg (by decide), if_neg (fun e => hn1 e.1)]
/-- the named act is met, and done -/
theorem Rel.met_done (h : Rel many wi A D acts false) (hb : A.bad i o.wipes = false) (hm : acts + 1 = many) (hw : wi = true) : A.err i o.wipes = 60 ∧ D.err i o.wipes = 0 ∧ Rel many wi (A.step i o) (D.step i o) (acts + 1) true := by
  have ha := h.a
  obtain ⟨hl1, hl2⟩ := h.l rfl
  have hn1 : A.named = 1 := by omega
  refine ⟨?_, (h.live i o hb).1, h.both i o hb ?_ true (by rw [hn1]; rfl) (fun e => by cases e)⟩
  · unfold Dk.err; rw [ha, hb, if_neg (by decide), if_neg (by decide), if_pos hn1]
  · unfold Dk.step; rw [ha, hb, if_neg (by decide), if_neg (by decide), if_neg (fun e => by rw [h.w, hw] at e; cases e.2)]
/-- the named act is met, and not done -/
theorem Rel.met_not (h : Rel many wi A D acts false) (hb : A.bad i o.wipes = false) (hm : acts + 1 = many) (hw : wi = false) : A.err i o.wipes = 60 ∧ Rel many wi (A.step i o) D acts true := by
  have ha := h.a
  obtain ⟨hl1, hl2⟩ := h.l rfl
  have hn1 : A.named = 1 := by omega
  have hs : A.step i o = A.near := by
    unfold Dk.step; rw [ha, hb, if_neg (by decide), if_neg (by decide), if_pos ⟨hn1, by rw [h.w, hw]⟩]
  refine ⟨?_, ?_⟩
  · unfold Dk.err; rw [ha, hb, if_neg (by decide), if_neg (by decide), if_pos hn1]
  · rw [hs]
    exact ⟨⟨h.t.s0, h.t.s1, h.t.cur⟩, h.ad, h.dd, by show (A.named == 1) = true; rw [hn1]; rfl, h.d, h.n, h.w, fun e => by cases e⟩
end
theorem Rel.start (many : Nat) (wi : Bool) : Rel many wi (Dk.new.stop (many : Int) wi) Dk.new 0 false :=
  ⟨⟨rfl, rfl, rfl⟩, rfl, rfl, rfl, rfl, rfl, rfl, fun _ => ⟨by show (many : Int).toNat = many - 0; omega, by omega⟩⟩
theorem Twin.crashed {A D : Dk} (h : Twin A D) (cs : List Int) : A.crashed cs = D.crashed cs := by
  unfold Dk.crashed; rw [h.s0, h.s1, h.cur]
theorem Twin.pending {A D : Dk} (h : Twin A D) : A.pending = D.pending := by
  unfold Dk.pending; rw [h.s0, h.s1]
theorem mild_more {D : Dk} {k m m' : Nat} (h : D.mild k m) (hm : m ≤ m') : D.mild (k + 1) m' := ⟨Nat.le_trans h.room hm, Nat.le_succ_of_le h.acts, Nat.le_succ_of_le h.done⟩
theorem mild_step {D : Dk} {k m m' : Nat} (h : D.mild k m) (n : Int) (o : DOp) (hm : m + o.size ≤ m') : (D.step n o).mild (k + 1) m' := by
  have h2 := h.step n o
  exact ⟨Nat.le_trans h2.room hm, h2.acts, h2.done⟩
theorem stop_mild (many : Nat) (wi : Bool) : (Dk.new.stop (many : Int) wi).mild 0 0 := ⟨new_mild.room, new_mild.acts, new_mild.done⟩
/-- a disk of m bytes and k acts at most, whatever is named -/
theorem mild_fits2 {D : Dk} {k m n : Nat} (h : D.mild k m) (hn : D.named ≤ 9223372036854775807) (hk : k ≤ 4194304) (hm : m + n ≤ 4194304) : D.fits n := h.fits hn hk hm
end Go.Proofs.Ytcadacljacbipaa
