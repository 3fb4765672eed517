/- What Append, Wipe hand to act. -/
import Derived.Test.YtcadacljacbipaaDkE
import Derived.Test.YtcadacljacbipaaDkD2
namespace Go.Proofs.Ytcadacljacbipaa
open Go.RowKit
/-- a disk behind an act: blocks that were caught (T) and new ones are its own -/
def Did (w W : World) (S T : Nat → Prop) (d : Nat) (D : Dk) : Prop := DAt W (fun k => S k ∨ T k ∨ Nw w W k) d D ∧ Fr S w W
/-- the blocks of a copy that was caught -/
def TB (c : Nat) (v : Value) (da : List UInt8) (k : Nat) : Prop := k = c ∨ (0 < da.length ∧ v.ownBlock = some k)
set_option maxRecDepth 100000 in
set_option maxHeartbeats 2000000 in
theorem appending_0 (w : World) (S : Nat → Prop) (d c : Nat) (D : Dk) (v : Value) (da : List UInt8) (h : DAt w S d D) (hc : w.heap[c]? = some (.cells #[v] 22 (0, 0))) (hv : SlB w v da) (hT : ∀ k, TB c v da k → ¬ S k)
    (hlen : D.s0.now.length + da.length ≤ 140737488355328) (hal : (D.s0.acts.length + 1) * 16 ≤ 140737488355328) :
    Calls Try.prog 53 #[.pointer (some ⟨d, 0, none⟩), .pointer (some ⟨c, 0, none⟩)] w fun e w' => e = .returned (.tuple #[]) ∧ Did w w' S (TB c v da) d ((DOp.append da).eff 0 D) := by
  have hmf : ∀ (fn : Fn) (first cap : Array Value) (w : World), (Instr.makeFunc fn first cap).run Try.prog w = .ok (.func fn first cap) w := fun _ _ _ _ => rfl
  have HTL : Hid (∀ k, TB c v da k → k < w.heap.size) := hid fun k hk => by
    rcases hk with rfl | ⟨h0, hk⟩
    · exact blk_lt hc
    · exact sl_lt hv h0 k hk
  have HT := hid hT
  have HV := hid hv
  have HC := hid hc
  have cc : w.cell? ⟨c, 0, none⟩ = some v := by rw [blk_cell hc]; rfl
  have hcd : ∃ A cv, v = .slice A da.length cv ∧ da.length ≤ cv := by obtain ⟨A, cd, e, h, _⟩ := hv; exact ⟨A, cd, e, h⟩
  obtain ⟨A, cv, rfl, hcv⟩ := hcd
  have H := hid h
  clear h hc hv hT
  by_cases hz : 0 < da.length
  · have e : (DOp.append da).eff 0 D = D.setSlot 0 (D.s0.do (.app da)) := if_pos hz
    rw [e]
    clear e
    go_enter Try.func53, Try.ntmps53
    go_wp2_with fail
    obtain ⟨I, l0, n0, a0, l1, n1, a1, hV⟩ := H.out
    have hX : ∀ k, (I k ∨ TB c (.slice A da.length cv) da k) → k < w.heap.size := fun k hk => hk.elim (fun g => hV.lt k (hV.is k g)) (fun g => HTL.out k g)
    refine (do_app w (fun k => I k ∨ TB c (.slice A da.length cv) da k) d 0 (dkCells l0 n0 a0 l1 n1 a1 D) n0 a0 D.s0.now D.s0.acts _ da hV.at_ rfl rfl
      (hV.s0.now.fr (Fr.refl (fun _ => False) w) (fun _ _ h => h) (fun k hk => .inl hk)) (hV.s0.acts.fr (Fr.refl (fun _ => False) w) (fun _ _ h => h) (fun k hk => .inl hk) (fun _ _ h => h))
      ⟨hz, c, _, rfl, .inr (.inl rfl), HC.out, HV.out, fun h0 k hk => .inr (.inr ⟨h0, hk⟩)⟩ (fun g => g.elim hV.id (fun g => HT.out d g hV.sd)) (fun k hk => ⟨fun g => g.elim (hV.r0 k hk).2.1 (fun g => HT.out k g (hV.r0 k hk).1), (hV.r0 k hk).2.2⟩) hX hlen hal).mono ?_
    rintro e w' ⟨rfl, nv', av', hd⟩
    have R := hid (hV.done0 hd (fun k hk => .inl hk) (fun k hk => hk) (fun k hk => ⟨HT.out k hk, HTL.out k hk⟩))
    clear hV hd hX
    go_wp2
    go_returns
    exact ⟨rfl, R.out⟩
  · have e : (DOp.append da).eff 0 D = D := if_neg hz
    rw [e]
    clear e
    go_enter Try.func53, Try.ntmps53
    go_wp2
    go_returns
    exact ⟨rfl, H.out.fr (Fr.refl (fun _ => False) w) (fun _ _ h => h) (fun k hk => .inl hk) (fun k hk => hk.elim (fun g => H.out.lt k g) (fun g => g.elim (fun g => HTL.out k g) (fun g => g.2))), Fr.refl _ _⟩
set_option maxRecDepth 100000 in
set_option maxHeartbeats 2000000 in
theorem appending_1 (w : World) (S : Nat → Prop) (d c : Nat) (D : Dk) (v : Value) (da : List UInt8) (h : DAt w S d D) (hc : w.heap[c]? = some (.cells #[v] 22 (0, 0))) (hv : SlB w v da) (hT : ∀ k, TB c v da k → ¬ S k)
    (hlen : D.s1.now.length + da.length ≤ 140737488355328) (hal : (D.s1.acts.length + 1) * 16 ≤ 140737488355328) :
    Calls Try.prog 53 #[.pointer (some ⟨d, 3, none⟩), .pointer (some ⟨c, 0, none⟩)] w fun e w' => e = .returned (.tuple #[]) ∧ Did w w' S (TB c v da) d ((DOp.append da).eff 1 D) := by
  have hmf : ∀ (fn : Fn) (first cap : Array Value) (w : World), (Instr.makeFunc fn first cap).run Try.prog w = .ok (.func fn first cap) w := fun _ _ _ _ => rfl
  have HTL : Hid (∀ k, TB c v da k → k < w.heap.size) := hid fun k hk => by
    rcases hk with rfl | ⟨h0, hk⟩
    · exact blk_lt hc
    · exact sl_lt hv h0 k hk
  have HT := hid hT
  have HV := hid hv
  have HC := hid hc
  have cc : w.cell? ⟨c, 0, none⟩ = some v := by rw [blk_cell hc]; rfl
  have hcd : ∃ A cv, v = .slice A da.length cv ∧ da.length ≤ cv := by obtain ⟨A, cd, e, h, _⟩ := hv; exact ⟨A, cd, e, h⟩
  obtain ⟨A, cv, rfl, hcv⟩ := hcd
  have H := hid h
  clear h hc hv hT
  by_cases hz : 0 < da.length
  · have e : (DOp.append da).eff 1 D = D.setSlot 1 (D.s1.do (.app da)) := if_pos hz
    rw [e]
    clear e
    go_enter Try.func53, Try.ntmps53
    go_wp2_with fail
    obtain ⟨I, l0, n0, a0, l1, n1, a1, hV⟩ := H.out
    have hX : ∀ k, (I k ∨ TB c (.slice A da.length cv) da k) → k < w.heap.size := fun k hk => hk.elim (fun g => hV.lt k (hV.is k g)) (fun g => HTL.out k g)
    refine (do_app w (fun k => I k ∨ TB c (.slice A da.length cv) da k) d 3 (dkCells l0 n0 a0 l1 n1 a1 D) n1 a1 D.s1.now D.s1.acts _ da hV.at_ rfl rfl
      (hV.s1.now.fr (Fr.refl (fun _ => False) w) (fun _ _ h => h) (fun k hk => .inl hk)) (hV.s1.acts.fr (Fr.refl (fun _ => False) w) (fun _ _ h => h) (fun k hk => .inl hk) (fun _ _ h => h))
      ⟨hz, c, _, rfl, .inr (.inl rfl), HC.out, HV.out, fun h0 k hk => .inr (.inr ⟨h0, hk⟩)⟩ (fun g => g.elim hV.id (fun g => HT.out d g hV.sd)) (fun k hk => ⟨fun g => g.elim (hV.r1 k hk).2.1 (fun g => HT.out k g (hV.r1 k hk).1), (hV.r1 k hk).2.2⟩) hX hlen hal).mono ?_
    rintro e w' ⟨rfl, nv', av', hd⟩
    have R := hid (hV.done1 hd (fun k hk => .inl hk) (fun k hk => hk) (fun k hk => ⟨HT.out k hk, HTL.out k hk⟩))
    clear hV hd hX
    go_wp2
    go_returns
    exact ⟨rfl, R.out⟩
  · have e : (DOp.append da).eff 1 D = D := if_neg hz
    rw [e]
    clear e
    go_enter Try.func53, Try.ntmps53
    go_wp2
    go_returns
    exact ⟨rfl, H.out.fr (Fr.refl (fun _ => False) w) (fun _ _ h => h) (fun k hk => .inl hk) (fun k hk => hk.elim (fun g => H.out.lt k g) (fun g => g.elim (fun g => HTL.out k g) (fun g => g.2))), Fr.refl _ _⟩
set_option maxRecDepth 100000 in
set_option maxHeartbeats 2000000 in
theorem wiping_0 (w : World) (S : Nat → Prop) (d : Nat) (D : Dk) (h : DAt w S d D) (hlen : D.s0.now.length ≤ 140737488355328) (hal : (D.s0.acts.length + 1) * 16 ≤ 140737488355328) :
    Calls Try.prog 41 #[.pointer (some ⟨d, 0, none⟩)] w fun e w' => e = .returned (.tuple #[]) ∧ Did w w' S (fun _ => False) d (DOp.wipe.eff 0 D) := by
  have H := hid h
  clear h
  go_enter Try.func41, Try.ntmps41
  go_wp2_with fail
  obtain ⟨I, l0, n0, a0, l1, n1, a1, hV⟩ := H.out
  refine (do_wipe w I d 0 (dkCells l0 n0 a0 l1 n1 a1 D) n0 a0 D.s0.now D.s0.acts _ hV.at_ rfl rfl hV.s0.now hV.s0.acts rfl hV.id (fun k hk => (hV.r0 k hk).2) (fun k hk => hV.lt k (hV.is k hk)) hlen hal).mono ?_
  rintro e w' ⟨rfl, nv', av', hd⟩
  have R : Hid (Did w w' S (fun _ => False) d (D.setSlot 0 (D.s0.do .wipe))) := hid (hV.done0 hd (fun k hk => hk) (fun k hk => .inl hk) (fun k hk => hk.elim))
  clear hV hd
  go_wp2
  go_returns
  exact ⟨rfl, R.out⟩
set_option maxRecDepth 100000 in
set_option maxHeartbeats 2000000 in
theorem wiping_1 (w : World) (S : Nat → Prop) (d : Nat) (D : Dk) (h : DAt w S d D) (hlen : D.s1.now.length ≤ 140737488355328) (hal : (D.s1.acts.length + 1) * 16 ≤ 140737488355328) :
    Calls Try.prog 41 #[.pointer (some ⟨d, 3, none⟩)] w fun e w' => e = .returned (.tuple #[]) ∧ Did w w' S (fun _ => False) d (DOp.wipe.eff 1 D) := by
  have H := hid h
  clear h
  go_enter Try.func41, Try.ntmps41
  go_wp2_with fail
  obtain ⟨I, l0, n0, a0, l1, n1, a1, hV⟩ := H.out
  refine (do_wipe w I d 3 (dkCells l0 n0 a0 l1 n1 a1 D) n1 a1 D.s1.now D.s1.acts _ hV.at_ rfl rfl hV.s1.now hV.s1.acts rfl hV.id (fun k hk => (hV.r1 k hk).2) (fun k hk => hV.lt k (hV.is k hk)) hlen hal).mono ?_
  rintro e w' ⟨rfl, nv', av', hd⟩
  have R : Hid (Did w w' S (fun _ => False) d (D.setSlot 1 (D.s1.do .wipe))) := hid (hV.done1 hd (fun k hk => hk) (fun k hk => .inl hk) (fun k hk => hk.elim))
  clear hV hd
  go_wp2
  go_returns
  exact ⟨rfl, R.out⟩
end Go.Proofs.Ytcadacljacbipaa
