/- What Sync, Switch hand to act. -/
import Derived.Test.YtcadacljacbipaaDkF
namespace Go.Proofs.Ytcadacljacbipaa
open Go.RowKit
theorem DV.sync0 {w w1 : World} {S I : Nat → Prop} {d : Nat} {l0 n0 a0 l1 n1 a1 lv' : Value} {D : Dk} (h : DV w S I d l0 n0 a0 l1 n1 a1 D) (hb : Below w.heap.size w w1) (hl : OwnB w1 w.heap.size lv' D.s0.now) :
    Did w ((w1.setCell ⟨d, 0, none⟩ lv').setCell ⟨d, 2, none⟩ (.slice none 0 0)) S (fun _ => False) d (D.setSlot 0 D.s0.sync) := by
  have hdl := h.lt d h.sd
  have hF2 : Fr (fun k => k = d) w1 ((w1.setCell ⟨d, 0, none⟩ lv').setCell ⟨d, 2, none⟩ (.slice none 0 0)) := (Fr.set_ _ _).trans ((Fr.set_ _ _).mono fun k _ hk => .inl hk)
  have hF : Fr (fun k => k = d) w ((w1.setCell ⟨d, 0, none⟩ lv').setCell ⟨d, 2, none⟩ (.slice none 0 0)) := ((Fr.of_below hb).mono fun _ _ h => h.elim).trans (hF2.mono fun k _ hk => .inl hk)
  have hX : ∀ k, I k → ¬ (k = d) := fun k hk e => h.id (e ▸ hk)
  have hld : ∀ k, lv'.ownBlock = some k → ¬ (k = d) := fun k hk e => by have := (World.ownsRow.lt hl k hk).1; omega
  have hsz := hF.size
  refine ⟨⟨fun k => I k ∨ lv'.ownBlock = some k, lv', n0, .slice none 0 0, l1, n1, a1, ?_⟩, hF.mono fun k _ e => e ▸ h.sd⟩
  exact
    { at_ := blk_set (blk_set (blk_keep hb h.at_ hdl) _ _) _ _
      s0 := ⟨⟨(hl.fr hF2 hld).sl, fun _ k hk => .inr hk⟩, h.s0.now.fr hF hX (fun k hk => .inl hk), ActsAt.nil _ _⟩
      s1 := h.s1.fr hF hX (fun k hk => .inl hk) (fun k hk e => (h.r1 k hk).2.2 e)
      cur := h.cur
      sd := .inl h.sd
      id := fun g => g.elim h.id (fun g => hld d g rfl)
      is := fun k hk => hk.elim (fun g => .inl (h.is k g)) (fun g => .inr (.inr ⟨(World.ownsRow.lt hl k g).1, Nat.lt_of_lt_of_le (World.ownsRow.lt hl k g).2 hF2.size⟩))
      lt := fun k hk => by
        rcases hk with g | g | g
        · have := h.lt k g; omega
        · exact g.elim
        · exact g.2
      r0 := fun k hk => by simp [Value.ownBlock] at hk
      r1 := fun k hk => ⟨.inl (h.r1 k hk).1, fun g => g.elim (h.r1 k hk).2.1 (fun g => by have h1 := (World.ownsRow.lt hl k g).1; have h2 := h.lt k (h.r1 k hk).1; omega), (h.r1 k hk).2.2⟩
      rr := fun k hk => by simp [Value.ownBlock] at hk }
set_option maxRecDepth 100000 in
set_option maxHeartbeats 2000000 in
theorem syncing_0 (w : World) (S : Nat → Prop) (d : Nat) (D : Dk) (h : DAt w S d D) (hlen : D.s0.now.length ≤ 140737488355328) :
    Calls Try.prog 39 #[.pointer (some ⟨d, 0, none⟩)] w fun e w' => e = .returned (.tuple #[]) ∧ Did w w' S (fun _ => False) d (DOp.sync.eff 0 D) := by
  obtain ⟨I, l0, n0, a0, l1, n1, a1, hV⟩ := h
  have H := hid hV
  have c0 : w.cell? ⟨d, 0, none⟩ = some l0 := by rw [blk_cell hV.at_]; rfl
  have c1 : w.cell? ⟨d, 1, none⟩ = some n0 := by rw [blk_cell hV.at_]; rfl
  have c2 : w.cell? ⟨d, 2, none⟩ = some a0 := by rw [blk_cell hV.at_]; rfl
  clear hV
  go_enter Try.func39, Try.ntmps39
  go_wp2_with fail
  refine (Clone_any n0 D.s0.now w H.out.s0.now.sl hlen).mono ?_
  rintro e w1 ⟨lv, rfl, hl, hb⟩
  obtain ⟨Al, cl, rfl⟩ := hl.form
  have R := hid (H.out.sync0 hb hl)
  have hdl := H.out.lt d H.out.sd
  have hat := blk_keep hb H.out.at_ hdl
  have k0 : w1.cell? ⟨d, 0, none⟩ = some l0 := (hb.cell (p := ⟨d, 0, none⟩) hdl).trans c0
  have k2 : w1.cell? ⟨d, 2, none⟩ = some a0 := (hb.cell (p := ⟨d, 2, none⟩) hdl).trans c2
  have f0 : w1.frozen? ⟨d, 0, none⟩ = false := blk_frozen hat _
  have f2 : w1.frozen? ⟨d, 2, none⟩ = false := blk_frozen hat _
  clear hl hb c0 c1 c2 hat
  go_wp2
  go_returns
  exact ⟨rfl, R.out⟩
theorem DV.sync1 {w w1 : World} {S I : Nat → Prop} {d : Nat} {l0 n0 a0 l1 n1 a1 lv' : Value} {D : Dk} (h : DV w S I d l0 n0 a0 l1 n1 a1 D) (hb : Below w.heap.size w w1) (hl : OwnB w1 w.heap.size lv' D.s1.now) :
    Did w ((w1.setCell ⟨d, 3, none⟩ lv').setCell ⟨d, 5, none⟩ (.slice none 0 0)) S (fun _ => False) d (D.setSlot 1 D.s1.sync) := by
  have hdl := h.lt d h.sd
  have hF2 : Fr (fun k => k = d) w1 ((w1.setCell ⟨d, 3, none⟩ lv').setCell ⟨d, 5, none⟩ (.slice none 0 0)) := (Fr.set_ _ _).trans ((Fr.set_ _ _).mono fun k _ hk => .inl hk)
  have hF : Fr (fun k => k = d) w ((w1.setCell ⟨d, 3, none⟩ lv').setCell ⟨d, 5, none⟩ (.slice none 0 0)) := ((Fr.of_below hb).mono fun _ _ h => h.elim).trans (hF2.mono fun k _ hk => .inl hk)
  have hX : ∀ k, I k → ¬ (k = d) := fun k hk e => h.id (e ▸ hk)
  have hld : ∀ k, lv'.ownBlock = some k → ¬ (k = d) := fun k hk e => by have := (World.ownsRow.lt hl k hk).1; omega
  have hsz := hF.size
  refine ⟨⟨fun k => I k ∨ lv'.ownBlock = some k, l0, n0, a0, lv', n1, .slice none 0 0, ?_⟩, hF.mono fun k _ e => e ▸ h.sd⟩
  exact
    { at_ := blk_set (blk_set (blk_keep hb h.at_ hdl) _ _) _ _
      s0 := h.s0.fr hF hX (fun k hk => .inl hk) (fun k hk e => (h.r0 k hk).2.2 e)
      s1 := ⟨⟨(hl.fr hF2 hld).sl, fun _ k hk => .inr hk⟩, h.s1.now.fr hF hX (fun k hk => .inl hk), ActsAt.nil _ _⟩
      cur := h.cur
      sd := .inl h.sd
      id := fun g => g.elim h.id (fun g => hld d g rfl)
      is := fun k hk => hk.elim (fun g => .inl (h.is k g)) (fun g => .inr (.inr ⟨(World.ownsRow.lt hl k g).1, Nat.lt_of_lt_of_le (World.ownsRow.lt hl k g).2 hF2.size⟩))
      lt := fun k hk => by
        rcases hk with g | g | g
        · have := h.lt k g; omega
        · exact g.elim
        · exact g.2
      r0 := fun k hk => ⟨.inl (h.r0 k hk).1, fun g => g.elim (h.r0 k hk).2.1 (fun g => by have h1 := (World.ownsRow.lt hl k g).1; have h2 := h.lt k (h.r0 k hk).1; omega), (h.r0 k hk).2.2⟩
      r1 := fun k hk => by simp [Value.ownBlock] at hk
      rr := fun k _ hk => by simp [Value.ownBlock] at hk }
set_option maxRecDepth 100000 in
set_option maxHeartbeats 2000000 in
theorem syncing_1 (w : World) (S : Nat → Prop) (d : Nat) (D : Dk) (h : DAt w S d D) (hlen : D.s1.now.length ≤ 140737488355328) :
    Calls Try.prog 39 #[.pointer (some ⟨d, 3, none⟩)] w fun e w' => e = .returned (.tuple #[]) ∧ Did w w' S (fun _ => False) d (DOp.sync.eff 1 D) := by
  obtain ⟨I, l0, n0, a0, l1, n1, a1, hV⟩ := h
  have H := hid hV
  have c0 : w.cell? ⟨d, 3, none⟩ = some l1 := by rw [blk_cell hV.at_]; rfl
  have c1 : w.cell? ⟨d, 4, none⟩ = some n1 := by rw [blk_cell hV.at_]; rfl
  have c2 : w.cell? ⟨d, 5, none⟩ = some a1 := by rw [blk_cell hV.at_]; rfl
  clear hV
  go_enter Try.func39, Try.ntmps39
  go_wp2_with fail
  refine (Clone_any n1 D.s1.now w H.out.s1.now.sl hlen).mono ?_
  rintro e w1 ⟨lv, rfl, hl, hb⟩
  obtain ⟨Al, cl, rfl⟩ := hl.form
  have R := hid (H.out.sync1 hb hl)
  have hdl := H.out.lt d H.out.sd
  have hat := blk_keep hb H.out.at_ hdl
  have k0 : w1.cell? ⟨d, 3, none⟩ = some l1 := (hb.cell (p := ⟨d, 3, none⟩) hdl).trans c0
  have k2 : w1.cell? ⟨d, 5, none⟩ = some a1 := (hb.cell (p := ⟨d, 5, none⟩) hdl).trans c2
  have f0 : w1.frozen? ⟨d, 3, none⟩ = false := blk_frozen hat _
  have f2 : w1.frozen? ⟨d, 5, none⟩ = false := blk_frozen hat _
  clear hl hb c0 c1 c2 hat
  go_wp2
  go_returns
  exact ⟨rfl, R.out⟩
theorem DV.switch {w : World} {S I : Nat → Prop} {d : Nat} {l0 n0 a0 l1 n1 a1 : Value} {D : Dk} (h : DV w S I d l0 n0 a0 l1 n1 a1 D) (i : Nat) (hi : i < 2) (T : Nat → Prop) (hT : ∀ k, T k → k < w.heap.size) :
    Did w (w.setCell ⟨d, 6, none⟩ (.int .i64 (i : Int))) S T d { D with cur := i } := by
  have hF : Fr (fun k => k = d) w (w.setCell ⟨d, 6, none⟩ (.int .i64 (i : Int))) := Fr.set_ _ _
  have hX : ∀ k, I k → ¬ (k = d) := fun k hk e => h.id (e ▸ hk)
  have hsz := hF.size
  refine ⟨⟨I, l0, n0, a0, l1, n1, a1, ?_⟩, hF.mono fun k _ e => e ▸ h.sd⟩
  exact
    { at_ := blk_set h.at_ _ _
      s0 := h.s0.fr hF hX (fun _ h => h) (fun k hk => (h.r0 k hk).2.2)
      s1 := h.s1.fr hF hX (fun _ h => h) (fun k hk => (h.r1 k hk).2.2)
      cur := hi
      sd := .inl h.sd
      id := h.id
      is := fun k hk => .inl (h.is k hk)
      lt := fun k hk => by
        rcases hk with g | g | g
        · have := h.lt k g; omega
        · have := hT k g; omega
        · exact g.2
      r0 := fun k hk => ⟨.inl (h.r0 k hk).1, (h.r0 k hk).2⟩
      r1 := fun k hk => ⟨.inl (h.r1 k hk).1, (h.r1 k hk).2⟩
      rr := h.rr }
/-- the two variables that Switch's act has caught -/
def SB (p q : Nat) (k : Nat) : Prop := k = p ∨ k = q
set_option maxRecDepth 100000 in
set_option maxHeartbeats 2000000 in
theorem switching (w : World) (S : Nat → Prop) (d o i p q : Nat) (hi : i < 2) (D : Dk) (h : DAt w S d D) (hp : w.heap[p]? = some (.cells #[.int .i64 (i : Int)] 3 (0, 0))) (hq : w.heap[q]? = some (.cells #[.pointer (some ⟨d, 0, none⟩)] 27 (0, 0))) :
    Calls Try.prog 40 #[.pointer (some ⟨d, o, none⟩), .pointer (some ⟨p, 0, none⟩), .pointer (some ⟨q, 0, none⟩)] w fun e w' => e = .returned (.tuple #[]) ∧ Did w w' S (SB p q) d (DOp.switch.eff i D) := by
  obtain ⟨I, l0, n0, a0, l1, n1, a1, hV⟩ := h
  have R : Hid (Did w (w.setCell ⟨d, 6, none⟩ (.int .i64 (i : Int))) S (SB p q) d (DOp.switch.eff i D)) := hid (hV.switch i hi (SB p q) (fun k hk => hk.elim (fun e => e ▸ blk_lt hp) (fun e => e ▸ blk_lt hq)))
  have c6 : w.cell? ⟨d, 6, none⟩ = some (.int .i64 (D.cur : Int)) := by rw [blk_cell hV.at_]; rfl
  have f6 : w.frozen? ⟨d, 6, none⟩ = false := blk_frozen hV.at_ _
  have cp : w.cell? ⟨p, 0, none⟩ = some (.int .i64 (i : Int)) := by rw [blk_cell hp]; rfl
  have cq : w.cell? ⟨q, 0, none⟩ = some (.pointer (some ⟨d, 0, none⟩)) := by rw [blk_cell hq]; rfl
  clear hV hp hq
  go_enter Try.func40, Try.ntmps40
  go_wp2
  go_returns
  exact ⟨rfl, R.out⟩
end Go.Proofs.Ytcadacljacbipaa
