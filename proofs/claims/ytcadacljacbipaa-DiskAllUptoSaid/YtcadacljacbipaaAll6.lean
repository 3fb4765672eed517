/- What Append, Wipe hand to act. -/
import Derived.Test.YtcadacljacbipaaAll4
import Derived.Test.YtcadacljacbipaaAll5
namespace Go.Proofs.Ytcadacljacbipaa
open Go.RowKit
/-- a disk behind an act: blocks that were caught (T) and new ones are its own -/
def Did (w W : World) (S T : Nat → Prop) (d : Nat) (D : Dk) : Prop := DAt W (fun k => S k ∨ T k ∨ Nw w W k) d D ∧ Fr S w W
/-- the blocks of a copy that was caught -/
def TB (c : Nat) (v : Value) (da : List UInt8) (k : Nat) : Prop := k = c ∨ (0 < da.length ∧ v.ownBlock = some k)
set_option maxRecDepth 100000 in
set_option maxHeartbeats 2000000 in
theorem appending_0 (w : World) (S : Nat → Prop) (d c : Nat) (D : Dk) (v : Value) (da : List UInt8) (h : DAt w S d D) (hc : w.heap[c]? = some (.cells #[v] 22 (0, 0))) (hv : SlB w v da) (hT : ∀ k, TB c v da k → ¬ S k)
    (hlen : D.s0.now.length + da.length ≤ 140737488355328) (hal : (D.s0.acts.length + 1) * 16 ≤ 140737488355328) :
    Calls Try.prog 53 #[.pointer (some ⟨d, 0, none⟩), .pointer (some ⟨c, 0, none⟩)] w fun e w' => e = .returned (.tuple #[]) ∧ Did w w' S (TB c v da) d ((DOp.append da).eff 0 D) := by
  have hmf : ∀ (fn : Fn) (first cap : Array Value) (w : World), (Instr.makeFunc fn first cap).run Try.prog w = .ok (.func fn first cap) w := fun _ _ _ _ => rfl
  have HTL : Hid (∀ k, TB c v da k → k < w.heap.size) := hid fun k hk => by
    rcases hk with rfl | ⟨h0, hk⟩
    · exact blk_lt hc
    · exact sl_lt hv h0 k hk
  have HT := hid hT
  have HV := hid hv
  have HC := hid hc
  have cc : w.cell? ⟨c, 0, none⟩ = some v := by rw [blk_cell hc]; rfl
  have hcd : ∃ A cv, v = .slice A da.length cv ∧ da.length ≤ cv := by obtain ⟨A, cd, e, h, _⟩ := hv; exact ⟨A, cd, e, h⟩
  obtain ⟨A, cv, rfl, hcv⟩ := hcd
  have H := hid h
  clear h hc hv hT
  by_cases hz : 0 < da.length
  · have e : (DOp.append da).eff 0 D = D.setSlot 0 (D.s0.do (.app da)) := if_pos hz
    rw [e]
    clear e
    go_enter Try.func53, Try.ntmps53
    go_wp2_with fail
    obtain ⟨I, l0, n0, a0, l1, n1, a1, hV⟩ := H.out
    have hX : ∀ k, (I k ∨ TB c (.slice A da.length cv) da k) → k < w.heap.size := fun k hk => hk.elim (fun g => hV.lt k (hV.is k g)) (fun g => HTL.out k g)
    refine (do_app w (fun k => I k ∨ TB c (.slice A da.length cv) da k) d 0 (dkCells l0 n0 a0 l1 n1 a1 D) n0 a0 D.s0.now D.s0.acts _ da hV.at_ rfl rfl
      (hV.s0.now.fr (Fr.refl (fun _ => False) w) (fun _ _ h => h) (fun k hk => .inl hk)) (hV.s0.acts.fr (Fr.refl (fun _ => False) w) (fun _ _ h => h) (fun k hk => .inl hk) (fun _ _ h => h))
      ⟨hz, c, _, rfl, .inr (.inl rfl), HC.out, HV.out, fun h0 k hk => .inr (.inr ⟨h0, hk⟩)⟩ (fun g => g.elim hV.id (fun g => HT.out d g hV.sd)) (fun k hk => ⟨fun g => g.elim (hV.r0 k hk).2.1 (fun g => HT.out k g (hV.r0 k hk).1), (hV.r0 k hk).2.2⟩) hX hlen hal).mono ?_
    rintro e w' ⟨rfl, nv', av', hd⟩
    have R := hid (hV.done0 hd (fun k hk => .inl hk) (fun k hk => hk) (fun k hk => ⟨HT.out k hk, HTL.out k hk⟩))
    clear hV hd hX
    go_wp2
    go_returns
    exact ⟨rfl, R.out⟩
  · have e : (DOp.append da).eff 0 D = D := if_neg hz
    rw [e]
    clear e
    go_enter Try.func53, Try.ntmps53
    go_wp2
    go_returns
    exact ⟨rfl, H.out.fr (Fr.refl (fun _ => False) w) (fun _ _ h => h) (fun k hk => .inl hk) (fun k hk => hk.elim (fun g => H.out.lt k g) (fun g => g.elim (fun g => HTL.out k g) (fun g => g.2))), Fr.refl _ _⟩
set_option maxRecDepth 100000 in
set_option maxHeartbeats 2000000 in
theorem appending_1 (w : World) (S : Nat → Prop) (d c : Nat) (D : Dk) (v : Value) (da : List UInt8) (h : DAt w S d D) (hc : w.heap[c]? = some (.cells #[v] 22 (0, 0))) (hv : SlB w v da) (hT : ∀ k, TB c v da k → ¬ S k)
    (hlen : D.s1.now.length + da.length ≤ 140737488355328) (hal : (D.s1.acts.length + 1) * 16 ≤ 140737488355328) :
    Calls Try.prog 53 #[.pointer (some ⟨d, 3, none⟩), .pointer (some ⟨c, 0, none⟩)] w fun e w' => e = .returned (.tuple #[]) ∧ Did w w' S (TB c v da) d ((DOp.append da).eff 1 D) := by
  have hmf : ∀ (fn : Fn) (first cap : Array Value) (w : World), (Instr.makeFunc fn first cap).run Try.prog w = .ok (.func fn first cap) w := fun _ _ _ _ => rfl
  have HTL : Hid (∀ k, TB c v da k → k < w.heap.size) := hid fun k hk => by
    rcases hk with rfl | ⟨h0, hk⟩
    · exact blk_lt hc
    · exact sl_lt hv h0 k hk
  have HT := hid hT
  have HV := hid hv
  have HC := hid hc
  have cc : w.cell? ⟨c, 0, none⟩ = some v := by rw [blk_cell hc]; rfl
  have hcd : ∃ A cv, v = .slice A da.length cv ∧ da.length ≤ cv := by obtain ⟨A, cd, e, h, _⟩ := hv; exact ⟨A, cd, e, h⟩
  obtain ⟨A, cv, rfl, hcv⟩ := hcd
  have H := hid h
  clear h hc hv hT
  by_cases hz : 0 < da.length
  · have e : (DOp.append da).eff 1 D = D.setSlot 1 (D.s1.do (.app da)) := if_pos hz
    rw [e]
    clear e
    go_enter Try.func53, Try.ntmps53
    go_wp2_with fail
    obtain ⟨I, l0, n0, a0, l1, n1, a1, hV⟩ := H.out
    have hX : ∀ k, (I k ∨ TB c (.slice A da.length cv) da k) → k < w.heap.size := fun k hk => hk.elim (fun g => hV.lt k (hV.is k g)) (fun g => HTL.out k g)
    refine (do_app w (fun k => I k ∨ TB c (.slice A da.length cv) da k) d 3 (dkCells l0 n0 a0 l1 n1 a1 D) n1 a1 D.s1.now D.s1.acts _ da hV.at_ rfl rfl
      (hV.s1.now.fr (Fr.refl (fun _ => False) w) (fun _ _ h => h) (fun k hk => .inl hk)) (hV.s1.acts.fr (Fr.refl (fun _ => False) w) (fun _ _ h => h) (fun k hk => .inl hk) (fun _ _ h => h))
      ⟨hz, c, _, rfl, .inr (.inl rfl), HC.out, HV.out, fun h0 k hk => .inr (.inr ⟨h0, hk⟩)⟩ (fun g => g.elim hV.id (fun g => HT.out d g hV.sd)) (fun k hk => ⟨fun g => g.elim (hV.r1 k hk).2.1 (fun g => HT.out k g (hV.r1 k hk).1), (hV.r1 k hk).2.2⟩) hX hlen hal).mono ?_
    rintro e w' ⟨rfl, nv', av', hd⟩
    have R := hid (hV.done1 hd (fun k hk => .inl hk) (fun k hk => hk) (fun k hk => ⟨HT.out k hk, HTL.out k hk⟩))
    clear hV hd hX
    go_wp2
    go_returns
    exact ⟨rfl, R.out⟩
  · have e : (DOp.append da).eff 1 D = D := if_neg hz
    rw [e]
    clear e
    go_enter Try.func53, Try.ntmps53
    go_wp2
    go_returns
    exact ⟨rfl, H.out.fr (Fr.refl (fun _ => False) w) (fun _ _ h => h) (fun k hk => .inl hk) (fun k hk => hk.elim (fun g => H.out.lt k g) (fun g => g.elim (fun g => HTL.out k g) (fun g => g.2))), Fr.refl _ _⟩
set_option maxRecDepth 100000 in
set_option maxHeartbeats 2000000 in
theorem wiping_0 (w : World) (S : Nat → Prop) (d : Nat) (D : Dk) (h : DAt w S d D) (hlen : D.s0.now.length ≤ 140737488355328) (hal : (D.s0.acts.length + 1) * 16 ≤ 140737488355328) :
    Calls Try.prog 41 #[.pointer (some ⟨d, 0, none⟩)] w fun e w' => e = .returned (.tuple #[]) ∧ Did w w' S (fun _ => False) d (DOp.wipe.eff 0 D) := by
  have H := hid h
  clear h
  go_enter Try.func41, Try.ntmps41
  go_wp2_with fail
  obtain ⟨I, l0, n0, a0, l1, n1, a1, hV⟩ := H.out
  refine (do_wipe w I d 0 (dkCells l0 n0 a0 l1 n1 a1 D) n0 a0 D.s0.now D.s0.acts _ hV.at_ rfl rfl hV.s0.now hV.s0.acts rfl hV.id (fun k hk => (hV.r0 k hk).2) (fun k hk => hV.lt k (hV.is k hk)) hlen hal).mono ?_
  rintro e w' ⟨rfl, nv', av', hd⟩
  have R : Hid (Did w w' S (fun _ => False) d (D.setSlot 0 (D.s0.do .wipe))) := hid (hV.done0 hd (fun k hk => hk) (fun k hk => .inl hk) (fun k hk => hk.elim))
  clear hV hd
  go_wp2
  go_returns
  exact ⟨rfl, R.out⟩
set_option maxRecDepth 100000 in
set_option maxHeartbeats 2000000 in
theorem wiping_1 (w : World) (S : Nat → Prop) (d : Nat) (D : Dk) (h : DAt w S d D) (hlen : D.s1.now.length ≤ 140737488355328) (hal : (D.s1.acts.length + 1) * 16 ≤ 140737488355328) :
    Calls Try.prog 41 #[.pointer (some ⟨d, 3, none⟩)] w fun e w' => e = .returned (.tuple #[]) ∧ Did w w' S (fun _ => False) d (DOp.wipe.eff 1 D) := by
  have H := hid h
  clear h
  go_enter Try.func41, Try.ntmps41
  go_wp2_with fail
  obtain ⟨I, l0, n0, a0, l1, n1, a1, hV⟩ := H.out
  refine (do_wipe w I d 3 (dkCells l0 n0 a0 l1 n1 a1 D) n1 a1 D.s1.now D.s1.acts _ hV.at_ rfl rfl hV.s1.now hV.s1.acts rfl hV.id (fun k hk => (hV.r1 k hk).2) (fun k hk => hV.lt k (hV.is k hk)) hlen hal).mono ?_
  rintro e w' ⟨rfl, nv', av', hd⟩
  have R : Hid (Did w w' S (fun _ => False) d (D.setSlot 1 (D.s1.do .wipe))) := hid (hV.done1 hd (fun k hk => hk) (fun k hk => .inl hk) (fun k hk => hk.elim))
  clear hV hd
  go_wp2
  go_returns
  exact ⟨rfl, R.out⟩
end Go.Proofs.Ytcadacljacbipaa

/- What Sync, Switch hand to act. -/
namespace Go.Proofs.Ytcadacljacbipaa
open Go.RowKit
theorem DV.sync0 {w w1 : World} {S I : Nat → Prop} {d : Nat} {l0 n0 a0 l1 n1 a1 lv' : Value} {D : Dk} (h : DV w S I d l0 n0 a0 l1 n1 a1 D) (hb : Below w.heap.size w w1) (hl : OwnB w1 w.heap.size lv' D.s0.now) :
    Did w ((w1.setCell ⟨d, 0, none⟩ lv').setCell ⟨d, 2, none⟩ (.slice none 0 0)) S (fun _ => False) d (D.setSlot 0 D.s0.sync) := by
  have hdl := h.lt d h.sd
  have hF2 : Fr (fun k => k = d) w1 ((w1.setCell ⟨d, 0, none⟩ lv').setCell ⟨d, 2, none⟩ (.slice none 0 0)) := (Fr.set_ _ _).trans ((Fr.set_ _ _).mono fun k _ hk => .inl hk)
  have hF : Fr (fun k => k = d) w ((w1.setCell ⟨d, 0, none⟩ lv').setCell ⟨d, 2, none⟩ (.slice none 0 0)) := ((Fr.of_below hb).mono fun _ _ h => h.elim).trans (hF2.mono fun k _ hk => .inl hk)
  have hX : ∀ k, I k → ¬ (k = d) := fun k hk e => h.id (e ▸ hk)
  have hld : ∀ k, lv'.ownBlock = some k → ¬ (k = d) := fun k hk e => by have := (World.ownsRow.lt hl k hk).1; omega
  have hsz := hF.size
  refine ⟨⟨fun k => I k ∨ lv'.ownBlock = some k, lv', n0, .slice none 0 0, l1, n1, a1, ?_⟩, hF.mono fun k _ e => e ▸ h.sd⟩
  exact
    { at_ := blk_set (blk_set (blk_keep hb h.at_ hdl) _ _) _ _
      s0 := ⟨⟨(hl.fr hF2 hld).sl, fun _ k hk => .inr hk⟩, h.s0.now.fr hF hX (fun k hk => .inl hk), ActsAt.nil _ _⟩
      s1 := h.s1.fr hF hX (fun k hk => .inl hk) (fun k hk e => (h.r1 k hk).2.2 e)
      cur := h.cur
      sd := .inl h.sd
      id := fun g => g.elim h.id (fun g => hld d g rfl)
      is := fun k hk => hk.elim (fun g => .inl (h.is k g)) (fun g => .inr (.inr ⟨(World.ownsRow.lt hl k g).1, Nat.lt_of_lt_of_le (World.ownsRow.lt hl k g).2 hF2.size⟩))
      lt := fun k hk => by
        rcases hk with g | g | g
        · have := h.lt k g; omega
        · exact g.elim
        · exact g.2
      r0 := fun k hk => by simp [Value.ownBlock] at hk
      r1 := fun k hk => ⟨.inl (h.r1 k hk).1, fun g => g.elim (h.r1 k hk).2.1 (fun g => by have h1 := (World.ownsRow.lt hl k g).1; have h2 := h.lt k (h.r1 k hk).1; omega), (h.r1 k hk).2.2⟩
      rr := fun k hk => by simp [Value.ownBlock] at hk }
set_option maxRecDepth 100000 in
set_option maxHeartbeats 2000000 in
theorem syncing_0 (w : World) (S : Nat → Prop) (d : Nat) (D : Dk) (h : DAt w S d D) (hlen : D.s0.now.length ≤ 140737488355328) :
    Calls Try.prog 39 #[.pointer (some ⟨d, 0, none⟩)] w fun e w' => e = .returned (.tuple #[]) ∧ Did w w' S (fun _ => False) d (DOp.sync.eff 0 D) := by
  obtain ⟨I, l0, n0, a0, l1, n1, a1, hV⟩ := h
  have H := hid hV
  have c0 : w.cell? ⟨d, 0, none⟩ = some l0 := by rw [blk_cell hV.at_]; rfl
  have c1 : w.cell? ⟨d, 1, none⟩ = some n0 := by rw [blk_cell hV.at_]; rfl
  have c2 : w.cell? ⟨d, 2, none⟩ = some a0 := by rw [blk_cell hV.at_]; rfl
  clear hV
  go_enter Try.func39, Try.ntmps39
  go_wp2_with fail
  refine (Clone_any n0 D.s0.now w H.out.s0.now.sl hlen).mono ?_
  rintro e w1 ⟨lv, rfl, hl, hb⟩
  obtain ⟨Al, cl, rfl⟩ := hl.form
  have R := hid (H.out.sync0 hb hl)
  have hdl := H.out.lt d H.out.sd
  have hat := blk_keep hb H.out.at_ hdl
  have k0 : w1.cell? ⟨d, 0, none⟩ = some l0 := (hb.cell (p := ⟨d, 0, none⟩) hdl).trans c0
  have k2 : w1.cell? ⟨d, 2, none⟩ = some a0 := (hb.cell (p := ⟨d, 2, none⟩) hdl).trans c2
  have f0 : w1.frozen? ⟨d, 0, none⟩ = false := blk_frozen hat _
  have f2 : w1.frozen? ⟨d, 2, none⟩ = false := blk_frozen hat _
  clear hl hb c0 c1 c2 hat
  go_wp2
  go_returns
  exact ⟨rfl, R.out⟩
theorem DV.sync1 {w w1 : World} {S I : Nat → Prop} {d : Nat} {l0 n0 a0 l1 n1 a1 lv' : Value} {D : Dk} (h : DV w S I d l0 n0 a0 l1 n1 a1 D) (hb : Below w.heap.size w w1) (hl : OwnB w1 w.heap.size lv' D.s1.now) :
    Did w ((w1.setCell ⟨d, 3, none⟩ lv').setCell ⟨d, 5, none⟩ (.slice none 0 0)) S (fun _ => False) d (D.setSlot 1 D.s1.sync) := by
  have hdl := h.lt d h.sd
  have hF2 : Fr (fun k => k = d) w1 ((w1.setCell ⟨d, 3, none⟩ lv').setCell ⟨d, 5, none⟩ (.slice none 0 0)) := (Fr.set_ _ _).trans ((Fr.set_ _ _).mono fun k _ hk => .inl hk)
  have hF : Fr (fun k => k = d) w ((w1.setCell ⟨d, 3, none⟩ lv').setCell ⟨d, 5, none⟩ (.slice none 0 0)) := ((Fr.of_below hb).mono fun _ _ h => h.elim).trans (hF2.mono fun k _ hk => .inl hk)
  have hX : ∀ k, I k → ¬ (k = d) := fun k hk e => h.id (e ▸ hk)
  have hld : ∀ k, lv'.ownBlock = some k → ¬ (k = d) := fun k hk e => by have := (World.ownsRow.lt hl k hk).1; omega
  have hsz := hF.size
  refine ⟨⟨fun k => I k ∨ lv'.ownBlock = some k, l0, n0, a0, lv', n1, .slice none 0 0, ?_⟩, hF.mono fun k _ e => e ▸ h.sd⟩
  exact
    { at_ := blk_set (blk_set (blk_keep hb h.at_ hdl) _ _) _ _
      s0 := h.s0.fr hF hX (fun k hk => .inl hk) (fun k hk e => (h.r0 k hk).2.2 e)
      s1 := ⟨⟨(hl.fr hF2 hld).sl, fun _ k hk => .inr hk⟩, h.s1.now.fr hF hX (fun k hk => .inl hk), ActsAt.nil _ _⟩
      cur := h.cur
      sd := .inl h.sd
      id := fun g => g.elim h.id (fun g => hld d g rfl)
      is := fun k hk => hk.elim (fun g => .inl (h.is k g)) (fun g => .inr (.inr ⟨(World.ownsRow.lt hl k g).1, Nat.lt_of_lt_of_le (World.ownsRow.lt hl k g).2 hF2.size⟩))
      lt := fun k hk => by
        rcases hk with g | g | g
        · have := h.lt k g; omega
        · exact g.elim
        · exact g.2
      r0 := fun k hk => ⟨.inl (h.r0 k hk).1, fun g => g.elim (h.r0 k hk).2.1 (fun g => by have h1 := (World.ownsRow.lt hl k g).1; have h2 := h.lt k (h.r0 k hk).1; omega), (h.r0 k hk).2.2⟩
      r1 := fun k hk => by simp [Value.ownBlock] at hk
      rr := fun k _ hk => by simp [Value.ownBlock] at hk }
set_option maxRecDepth 100000 in
set_option maxHeartbeats 2000000 in
theorem syncing_1 (w : World) (S : Nat → Prop) (d : Nat) (D : Dk) (h : DAt w S d D) (hlen : D.s1.now.length ≤ 140737488355328) :
    Calls Try.prog 39 #[.pointer (some ⟨d, 3, none⟩)] w fun e w' => e = .returned (.tuple #[]) ∧ Did w w' S (fun _ => False) d (DOp.sync.eff 1 D) := by
  obtain ⟨I, l0, n0, a0, l1, n1, a1, hV⟩ := h
  have H := hid hV
  have c0 : w.cell? ⟨d, 3, none⟩ = some l1 := by rw [blk_cell hV.at_]; rfl
  have c1 : w.cell? ⟨d, 4, none⟩ = some n1 := by rw [blk_cell hV.at_]; rfl
  have c2 : w.cell? ⟨d, 5, none⟩ = some a1 := by rw [blk_cell hV.at_]; rfl
  clear hV
  go_enter Try.func39, Try.ntmps39
  go_wp2_with fail
  refine (Clone_any n1 D.s1.now w H.out.s1.now.sl hlen).mono ?_
  rintro e w1 ⟨lv, rfl, hl, hb⟩
  obtain ⟨Al, cl, rfl⟩ := hl.form
  have R := hid (H.out.sync1 hb hl)
  have hdl := H.out.lt d H.out.sd
  have hat := blk_keep hb H.out.at_ hdl
  have k0 : w1.cell? ⟨d, 3, none⟩ = some l1 := (hb.cell (p := ⟨d, 3, none⟩) hdl).trans c0
  have k2 : w1.cell? ⟨d, 5, none⟩ = some a1 := (hb.cell (p := ⟨d, 5, none⟩) hdl).trans c2
  have f0 : w1.frozen? ⟨d, 3, none⟩ = false := blk_frozen hat _
  have f2 : w1.frozen? ⟨d, 5, none⟩ = false := blk_frozen hat _
  clear hl hb c0 c1 c2 hat
  go_wp2
  go_returns
  exact ⟨rfl, R.out⟩
theorem DV.switch {w : World} {S I : Nat → Prop} {d : Nat} {l0 n0 a0 l1 n1 a1 : Value} {D : Dk} (h : DV w S I d l0 n0 a0 l1 n1 a1 D) (i : Nat) (hi : i < 2) (T : Nat → Prop) (hT : ∀ k, T k → k < w.heap.size) :
    Did w (w.setCell ⟨d, 6, none⟩ (.int .i64 (i : Int))) S T d { D with cur := i } := by
  have hF : Fr (fun k => k = d) w (w.setCell ⟨d, 6, none⟩ (.int .i64 (i : Int))) := Fr.set_ _ _
  have hX : ∀ k, I k → ¬ (k = d) := fun k hk e => h.id (e ▸ hk)
  have hsz := hF.size
  refine ⟨⟨I, l0, n0, a0, l1, n1, a1, ?_⟩, hF.mono fun k _ e => e ▸ h.sd⟩
  exact
    { at_ := blk_set h.at_ _ _
      s0 := h.s0.fr hF hX (fun _ h => h) (fun k hk => (h.r0 k hk).2.2)
      s1 := h.s1.fr hF hX (fun _ h => h) (fun k hk => (h.r1 k hk).2.2)
      cur := hi
      sd := .inl h.sd
      id := h.id
      is := fun k hk => .inl (h.is k hk)
      lt := fun k hk => by
        rcases hk with g | g | g
        · have := h.lt k g; omega
        · have := hT k g; omega
        · exact g.2
      r0 := fun k hk => ⟨.inl (h.r0 k hk).1, (h.r0 k hk).2⟩
      r1 := fun k hk => ⟨.inl (h.r1 k hk).1, (h.r1 k hk).2⟩
      rr := h.rr }
/-- the two variables that Switch's act has caught -/
def SB (p q : Nat) (k : Nat) : Prop := k = p ∨ k = q
set_option maxRecDepth 100000 in
set_option maxHeartbeats 2000000 in
theorem switching (w : World) (S : Nat → Prop) (d o i p q : Nat) (hi : i < 2) (D : Dk) (h : DAt w S d D) (hp : w.heap[p]? = some (.cells #[.int .i64 (i : Int)] 3 (0, 0))) (hq : w.heap[q]? = some (.cells #[.pointer (some ⟨d, 0, none⟩)] 27 (0, 0))) :
    Calls Try.prog 40 #[.pointer (some ⟨d, o, none⟩), .pointer (some ⟨p, 0, none⟩), .pointer (some ⟨q, 0, none⟩)] w fun e w' => e = .returned (.tuple #[]) ∧ Did w w' S (SB p q) d (DOp.switch.eff i D) := by
  obtain ⟨I, l0, n0, a0, l1, n1, a1, hV⟩ := h
  have R : Hid (Did w (w.setCell ⟨d, 6, none⟩ (.int .i64 (i : Int))) S (SB p q) d (DOp.switch.eff i D)) := hid (hV.switch i hi (SB p q) (fun k hk => hk.elim (fun e => e ▸ blk_lt hp) (fun e => e ▸ blk_lt hq)))
  have c6 : w.cell? ⟨d, 6, none⟩ = some (.int .i64 (D.cur : Int)) := by rw [blk_cell hV.at_]; rfl
  have f6 : w.frozen? ⟨d, 6, none⟩ = false := blk_frozen hV.at_ _
  have cp : w.cell? ⟨p, 0, none⟩ = some (.int .i64 (i : Int)) := by rw [blk_cell hp]; rfl
  have cq : w.cell? ⟨q, 0, none⟩ = some (.pointer (some ⟨d, 0, none⟩)) := by rw [blk_cell hq]; rfl
  clear hV hp hq
  go_enter Try.func40, Try.ntmps40
  go_wp2
  go_returns
  exact ⟨rfl, R.out⟩
end Go.Proofs.Ytcadacljacbipaa

/- One of the four acts. -/
namespace Go.Proofs.Ytcadacljacbipaa
open Go.RowKit
theorem eff_done (o : DOp) (i : Nat) (D : Dk) : (o.eff i D).done = D.done := by
  cases o <;> simp only [DOp.eff, Dk.setSlot] <;> repeat' split
  all_goals rfl
theorem eff_dead (o : DOp) (i : Nat) (D : Dk) : (o.eff i D).dead = D.dead := by
  cases o <;> simp only [DOp.eff, Dk.setSlot] <;> repeat' split
  all_goals rfl
theorem eff_named (o : DOp) (i : Nat) (D : Dk) : (o.eff i D).named = D.named := by
  cases o <;> simp only [DOp.eff, Dk.setSlot] <;> repeat' split
  all_goals rfl
theorem eff_with (o : DOp) (i : Nat) (D : Dk) : (o.eff i D).withIt = D.withIt := by
  cases o <;> simp only [DOp.eff, Dk.setSlot] <;> repeat' split
  all_goals rfl
/-- the block itself, where the slots are as they were -/
theorem DV.turn {w : World} {S I : Nat → Prop} {d : Nat} {l0 n0 a0 l1 n1 a1 : Value} {D D' : Dk} (h : DV w S I d l0 n0 a0 l1 n1 a1 D) (j : Nat) (v : Value) (hc : (dkCells l0 n0 a0 l1 n1 a1 D).setIfInBounds j v = dkCells l0 n0 a0 l1 n1 a1 D') (h0 : D'.s0 = D.s0) (h1 : D'.s1 = D.s1) (hcur : D'.cur < 2) :
    DV (w.setCell ⟨d, j, none⟩ v) S I d l0 n0 a0 l1 n1 a1 D' := by
  have hF : Fr (fun k => k = d) w (w.setCell ⟨d, j, none⟩ v) := Fr.set_ _ _
  have hX : ∀ k, I k → ¬ (k = d) := fun k hk e => h.id (e ▸ hk)
  exact
    { at_ := by rw [← hc]; exact blk_set h.at_ _ _
      s0 := by rw [h0]; exact h.s0.fr hF hX (fun _ h => h) (fun k hk => (h.r0 k hk).2.2)
      s1 := by rw [h1]; exact h.s1.fr hF hX (fun _ h => h) (fun k hk => (h.r1 k hk).2.2)
      cur := hcur
      sd := h.sd
      id := h.id
      is := h.is
      lt := fun k hk => Nat.lt_of_lt_of_le (h.lt k hk) hF.size
      r0 := h.r0
      r1 := h.r1
      rr := h.rr }
theorem DV.near {w : World} {S I : Nat → Prop} {d : Nat} {l0 n0 a0 l1 n1 a1 : Value} {D : Dk} (h : DV w S I d l0 n0 a0 l1 n1 a1 D) :
    DV ((w.setCell ⟨d, 10, none⟩ (.bool (D.named == 1))).setCell ⟨d, 8, none⟩ (.int .i64 ((D.named - 1 : Nat) : Int))) S I d l0 n0 a0 l1 n1 a1 D.near :=
  (h.turn (D' := { D with dead := D.named == 1 }) 10 _ rfl rfl rfl h.cur).turn (D' := D.near) 8 _ rfl rfl rfl h.cur
theorem Did.more {w w1 w3 : World} {S T : Nat → Prop} {d : Nat} {D : Dk} (hf : Fr (fun k => k = d) w w1) (hs : w1.heap.size = w.heap.size) (hd : S d) (h : Did w1 w3 S T d D) : Did w (w3.setCell ⟨d, 7, none⟩ (.int .i64 ((D.done + 1 : Nat) : Int))) S T d D.more := by
  obtain ⟨⟨I, l0, n0, a0, l1, n1, a1, hV⟩, hF⟩ := h
  have h3 := hV.turn (D' := D.more) 7 (.int .i64 ((D.done + 1 : Nat) : Int)) rfl rfl rfl hV.cur
  have hsz : (w3.setCell ⟨d, 7, none⟩ (.int .i64 ((D.done + 1 : Nat) : Int))).heap.size = w3.heap.size := by simp
  refine ⟨⟨I, l0, n0, a0, l1, n1, a1, h3.fr (Fr.refl (fun _ => False) _) (fun _ _ h => h) (fun k hk => ?_) (fun k hk => ?_)⟩, ?_⟩
  · rcases hk with g | g | g
    · exact .inl g
    · exact .inr (.inl g)
    · refine .inr (.inr ⟨?_, ?_⟩)
      · rw [← hs]; exact g.1
      · rw [hsz]; exact g.2
  · rcases hk with g | g | g
    · exact h3.lt k (.inl g)
    · exact h3.lt k (.inr (.inl g))
    · exact g.2
  · exact (hf.mono fun k _ e => e ▸ hd).trans ((hF.mono fun k _ hk => .inl hk).trans ((Fr.set_ _ _).mono fun k _ e => .inl (.inl (e ▸ hd))))
theorem Did.stay {w w1 : World} {S T : Nat → Prop} {d : Nat} {D : Dk} (hf : Fr (fun k => k = d) w w1) (hd : S d) (h : DAt w1 S d D) (hT : ∀ k, T k → k < w.heap.size) : Did w w1 S T d D := by
  refine ⟨h.fr (Fr.refl (fun _ => False) _) (fun _ _ h => h) (fun k hk => .inl hk) (fun k hk => ?_), hf.mono fun k _ e => e ▸ hd⟩
  have := hf.size
  rcases hk with g | g | g
  · exact h.lt k g
  · have := hT k g; omega
  · exact g.2
theorem DAt.cells {w : World} {S : Nat → Prop} {d : Nat} {D : Dk} (h : DAt w S d D) : w.cell? ⟨d, 6, none⟩ = some (.int .i64 (D.cur : Int)) ∧ w.cell? ⟨d, 7, none⟩ = some (.int .i64 (D.done : Int)) ∧ w.cell? ⟨d, 8, none⟩ = some (.int .i64 (D.named : Int)) ∧ w.cell? ⟨d, 9, none⟩ = some (.bool D.withIt) ∧ w.cell? ⟨d, 10, none⟩ = some (.bool D.dead) ∧ ∀ j, w.frozen? ⟨d, j, none⟩ = false := by
  obtain ⟨I, l0, n0, a0, l1, n1, a1, hV⟩ := h
  exact ⟨by rw [blk_cell hV.at_]; rfl, by rw [blk_cell hV.at_]; rfl, by rw [blk_cell hV.at_]; rfl, by rw [blk_cell hV.at_]; rfl, by rw [blk_cell hV.at_]; rfl, fun j => blk_frozen hV.at_ j⟩
theorem DAt.sd {w : World} {S : Nat → Prop} {d : Nat} {D : Dk} (h : DAt w S d D) : S d := by
  obtain ⟨I, l0, n0, a0, l1, n1, a1, hV⟩ := h
  exact hV.sd
theorem act_nil (v f : Value) (b : Bool) (w : World) :
    Calls Try.prog 35 #[.pointer none, v, .bool b, f] w fun e w' => e = .returned (.int .i64 0) ∧ w' = w := by
  go_enter Try.func35, Try.ntmps35
  go_wp2
  go_ret
  exact ⟨rfl, rfl⟩
set_option maxRecDepth 100000 in
theorem act_dead (w : World) (S : Nat → Prop) (d : Nat) (D : Dk) (h : DAt w S d D) (hd : D.dead = true) (v f : Value) (b : Bool) :
    Calls Try.prog 35 #[.pointer (some ⟨d, 0, none⟩), v, .bool b, f] w fun e w' => e = .returned (.int .i64 60) ∧ w' = w := by
  obtain ⟨c6, c7, c8, c9, c10, _⟩ := h.cells
  rw [hd] at c10
  clear h hd
  go_enter Try.func35, Try.ntmps35
  go_wp2
  go_ret
  exact ⟨rfl, rfl⟩
set_option maxRecDepth 100000 in
set_option maxHeartbeats 1000000 in
theorem act_bad (w : World) (S : Nat → Prop) (d : Nat) (D : Dk) (h : DAt w S d D) (hd : D.dead = false) (n : Int) (f : Value) (b : Bool) (hb : D.bad n b = true) :
    Calls Try.prog 35 #[.pointer (some ⟨d, 0, none⟩), .int .i64 n, .bool b, f] w fun e w' => e = .returned (.int .i64 61) ∧ w' = w := by
  obtain ⟨c6, c7, c8, c9, c10, _⟩ := h.cells
  rw [hd] at c10
  have hcur := h.ok.2.2
  unfold Dk.bad at hb
  generalize D.cur = cur at *
  clear h hd c7 c8 c9
  by_cases h0 : n = 0
  · subst h0
    have hb' : b = true ∧ cur = 0 := by
      have : b = true ∧ (0 : Int) = (cur : Int) := by simpa using hb
      exact ⟨this.1, by omega⟩
    obtain ⟨rfl, rfl⟩ := hb'
    clear hb
    go_enter Try.func35, Try.ntmps35
    go_wp2
    go_ret
    exact ⟨rfl, rfl⟩
  by_cases h1 : n = 1
  · subst h1
    have hb' : b = true ∧ cur = 1 := by
      have : b = true ∧ (1 : Int) = (cur : Int) := by simpa using hb
      exact ⟨this.1, by omega⟩
    obtain ⟨rfl, rfl⟩ := hb'
    clear hb
    go_enter Try.func35, Try.ntmps35
    go_wp2
    go_ret
    exact ⟨rfl, rfl⟩
  · have q0 : (n != 0) = true := by rw [bne_iff_ne]; exact h0
    have q1 : (n != 1) = true := by rw [bne_iff_ne]; exact h1
    clear hb h0 h1
    go_enter Try.func35, Try.ntmps35
    go_wp2
    go_ret
    exact ⟨rfl, rfl⟩
end Go.Proofs.Ytcadacljacbipaa
