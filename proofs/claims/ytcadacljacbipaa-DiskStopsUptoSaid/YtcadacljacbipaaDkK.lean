/- Wipe, Sync, Switch, Stop; what a disk tells. -/
import Derived.Test.YtcadacljacbipaaDkJ
namespace Go.Proofs.Ytcadacljacbipaa
open Go.RowKit
theorem Wipe_nil (n : Int) (w : World) :
    Calls Try.prog 25 #[.pointer none, .int .i64 n] w fun e w' => e = .returned (.int .i64 0) ∧ w' = w := by
  go_enter Try.func25, Try.ntmps25
  go_wp2_with fail
  refine (act_nil _ _ _ _).mono ?_
  rintro e w2 ⟨rfl, rfl⟩
  go_wp2
  go_ret
  exact ⟨rfl, rfl⟩
theorem Sync_nil (n : Int) (w : World) :
    Calls Try.prog 19 #[.pointer none, .int .i64 n] w fun e w' => e = .returned (.int .i64 0) ∧ w' = w := by
  go_enter Try.func19, Try.ntmps19
  go_wp2_with fail
  refine (act_nil _ _ _ _).mono ?_
  rintro e w2 ⟨rfl, rfl⟩
  go_wp2
  go_ret
  exact ⟨rfl, rfl⟩
theorem Switch_nil (n : Int) (w : World) :
    Calls Try.prog 24 #[.pointer none, .int .i64 n] w fun e w' => e = .returned (.int .i64 0) ∧ Below w.heap.size w w' := by
  have hmf : ∀ (fn : Fn) (first cap : Array Value) (w : World), (Instr.makeFunc fn first cap).run Try.prog w = .ok (.func fn first cap) w := fun _ _ _ _ => rfl
  go_enter Try.func24, Try.ntmps24
  go_wp2_with fail
  refine (act_nil _ _ _ _).mono ?_
  rintro e w2 ⟨rfl, rfl⟩
  go_wp2
  go_ret
  exact ⟨rfl, ((Below.refl _ _).alloc (Nat.le_refl _) _).alloc (by simp) _⟩
set_option maxRecDepth 100000 in
set_option maxHeartbeats 1000000 in
theorem Wipe_any (w : World) (S : Nat → Prop) (d : Nat) (D : Dk) (n : Int) (h : DAt w S d D) (hf : D.fits 0) :
    Calls Try.prog 25 #[.pointer (some ⟨d, 0, none⟩), .int .i64 n] w fun e w' => e = .returned (.int .i64 (D.err n true)) ∧ Dt w w' S d (D.step n .wipe) := by
  have hroom := hf.room
  have hacts := hf.acts
  have r0 := D.s0.now_le
  have r1 := D.s1.now_le
  have C := hid (act_any w S (fun _ => False) d D n .wipe 0 h hf 41 #[] (fun _ h => h.elim) cf_wipe
    (fun _ w2 D2 hf2 e0 e1 _ h2 => wiping_0 w2 S d D2 h2 (by rw [e0]; omega) (by rw [e0]; omega))
    (fun _ w2 D2 hf2 e0 e1 _ h2 => wiping_1 w2 S d D2 h2 (by rw [e1]; omega) (by rw [e1]; omega)))
  clear h hf r0 r1
  go_enter Try.func25, Try.ntmps25
  go_wp2_with fail
  refine C.out.mono ?_
  rintro e w2 ⟨rfl, h2⟩
  have R := hid (Did.close (Below.refl w.heap.size w) h2 (fun _ h => h.elim))
  clear h2
  go_wp2
  go_ret
  exact ⟨rfl, R.out⟩
set_option maxRecDepth 100000 in
set_option maxHeartbeats 1000000 in
theorem Sync_any (w : World) (S : Nat → Prop) (d : Nat) (D : Dk) (n : Int) (h : DAt w S d D) (hf : D.fits 0) :
    Calls Try.prog 19 #[.pointer (some ⟨d, 0, none⟩), .int .i64 n] w fun e w' => e = .returned (.int .i64 (D.err n false)) ∧ Dt w w' S d (D.step n .sync) := by
  have hroom := hf.room
  have r0 := D.s0.now_le
  have r1 := D.s1.now_le
  have C := hid (act_any w S (fun _ => False) d D n .sync 0 h hf 39 #[] (fun _ h => h.elim) cf_sync
    (fun _ w2 D2 hf2 e0 e1 _ h2 => syncing_0 w2 S d D2 h2 (by rw [e0]; omega))
    (fun _ w2 D2 hf2 e0 e1 _ h2 => syncing_1 w2 S d D2 h2 (by rw [e1]; omega)))
  clear h hf r0 r1
  go_enter Try.func19, Try.ntmps19
  go_wp2_with fail
  refine C.out.mono ?_
  rintro e w2 ⟨rfl, h2⟩
  have R := hid (Did.close (Below.refl w.heap.size w) h2 (fun _ h => h.elim))
  clear h2
  go_wp2
  go_ret
  exact ⟨rfl, R.out⟩
set_option maxRecDepth 100000 in
set_option maxHeartbeats 1000000 in
theorem Switch_any (w : World) (S : Nat → Prop) (d : Nat) (D : Dk) (n : Int) (h : DAt w S d D) (hf : D.fits 0) :
    Calls Try.prog 24 #[.pointer (some ⟨d, 0, none⟩), .int .i64 n] w fun e w' => e = .returned (.int .i64 (D.err n false)) ∧ Dt w w' S d (D.step n .switch) := by
  have hmf : ∀ (fn : Fn) (first cap : Array Value) (w : World), (Instr.makeFunc fn first cap).run Try.prog w = .ok (.func fn first cap) w := fun _ _ _ _ => rfl
  have H := hid h
  have HF := hid hf
  clear h hf
  go_enter Try.func24, Try.ntmps24
  go_upto_region 1 with (fail)
  refine Code.seen (fun W => W.heap[w.heap.size]? = some (.cells #[.pointer (some ⟨d, 0, none⟩)] 27 (0, 0)) ∧ W.heap[w.heap.size + 1]? = some (.cells #[.int .i64 n] 3 (0, 0)) ∧ Below w.heap.size w W) ⟨?_, ?_, ((Below.refl _ _).alloc (Nat.le_refl _) _).alloc (by simp) _⟩ fun w1 H1 => ?_
  · have h1 := heap_alloc_new w (.cells #[.pointer (some ⟨d, 0, none⟩)] 27)
    exact (Below.heap_alloc _ _ _ (by simp)).trans h1
  · have h1 := heap_alloc_new (w.alloc (.cells #[.pointer (some ⟨d, 0, none⟩)] 27)) (.cells #[.int .i64 n] 3)
    simpa using h1
  obtain ⟨hq, hp, hb⟩ := H1.out
  have cp : w1.cell? ⟨w.heap.size + 1, 0, none⟩ = some (.int .i64 n) := by rw [blk_cell hp]; rfl
  have cq : w1.cell? ⟨w.heap.size, 0, none⟩ = some (.pointer (some ⟨d, 0, none⟩)) := by rw [blk_cell hq]; rfl
  have h1 := H.out.below hb
  have hTS : ∀ k, SB (w.heap.size + 1) w.heap.size k → ¬ S k := fun k hk hs => by
    have := H.out.lt k hs
    rcases hk with rfl | rfl <;> omega
  have hTL : ∀ k, SB (w.heap.size + 1) w.heap.size k → k < w1.heap.size := fun k hk => by
    rcases hk with rfl | rfl
    · exact blk_lt hp
    · exact blk_lt hq
  have key : ∀ i : Nat, i < 2 → n = (i : Int) → Hands w1 S (SB (w.heap.size + 1) w.heap.size) d i D .switch 40 #[.pointer (some ⟨w.heap.size + 1, 0, none⟩), .pointer (some ⟨w.heap.size, 0, none⟩)] :=
    fun i hi e w2 D2 hf2 e0 e1 _ h2 => switching w2 S d (3 * i) i _ _ hi D2 h2 (by
      have := blk_fr hf2 hp (fun g => hTS _ (.inl rfl) (by rw [g]; exact h1.sd))
      rw [e] at this; exact this) (blk_fr hf2 hq (fun g => hTS _ (.inr rfl) (by rw [g]; exact h1.sd)))
  have C := hid (act_any w1 S (SB (w.heap.size + 1) w.heap.size) d D n .switch 0 h1 HF.out 40 #[.pointer (some ⟨w.heap.size + 1, 0, none⟩), .pointer (some ⟨w.heap.size, 0, none⟩)] hTL cf_switch
    (fun e => key 0 (by omega) e) (fun e => key 1 (by omega) e))
  clear h1 hTS hTL key hq hp hb
  go_wp2_with fail
  refine C.out.mono ?_
  rintro e w2 ⟨rfl, h2⟩
  have R := hid (Did.close H1.out.2.2 h2 (fun k hk => by rcases hk with rfl | rfl <;> omega))
  clear h2
  go_wp2
  go_ret
  exact ⟨rfl, R.out⟩
/-- Stop -/
def Dk.stop (D : Dk) (n : Int) (b : Bool) : Dk := if D.dead then D else { D with named := n.toNat, withIt := b }
theorem Stop_nil (n : Int) (b : Bool) (w : World) :
    Calls Try.prog 27 #[.pointer none, .int .i64 n, .bool b] w fun e w' => e = .returned (.int .i64 0) ∧ w' = w := by
  go_enter Try.func27, Try.ntmps27
  go_wp2
  go_ret
  exact ⟨rfl, rfl⟩
theorem Dt.of_turn {w w1 : World} {S I : Nat → Prop} {d : Nat} {l0 n0 a0 l1 n1 a1 : Value} {D : Dk} (hd : S d) (hf : Fr (fun k => k = d) w w1) (h : DV w1 S I d l0 n0 a0 l1 n1 a1 D) : Dt w w1 S d D :=
  ⟨⟨I, l0, n0, a0, l1, n1, a1, h.fr (Fr.refl (fun _ => False) _) (fun _ _ h => h) (fun _ hk => .inl hk) (fun k hk => hk.elim (fun g => h.lt k g) (fun g => g.2))⟩, hf.mono fun _ _ e => e ▸ hd⟩
set_option maxRecDepth 100000 in
set_option maxHeartbeats 1000000 in
theorem Stop_any (w : World) (S : Nat → Prop) (d : Nat) (D : Dk) (n : Int) (b : Bool) (h : DAt w S d D) :
    Calls Try.prog 27 #[.pointer (some ⟨d, 0, none⟩), .int .i64 n, .bool b] w fun e w' => e = .returned (.int .i64 (if D.dead then 60 else 0)) ∧ Dt w w' S d (D.stop n b) := by
  obtain ⟨c6, c7, c8, c9, c10, hfz⟩ := h.cells
  by_cases hd : D.dead = true
  · rw [if_pos hd, show D.stop n b = D from if_pos hd]
    rw [hd] at c10
    have R := hid (Dt.stay (Below.refl w.heap.size w) h)
    clear h hd hfz
    go_enter Try.func27, Try.ntmps27
    go_wp2
    go_ret
    exact ⟨rfl, R.out⟩
  · rw [if_neg hd, show D.stop n b = { D with named := n.toNat, withIt := b } from if_neg hd]
    have hd' : D.dead = false := by simpa using hd
    rw [hd'] at c10
    have f8 := hfz 8
    have f9 := hfz 9
    have hmx : (if 0 < n then n else 0) = (n.toNat : Int) := by split <;> omega
    have R : Hid (Dt w ((w.setCell ⟨d, 8, none⟩ (.int .i64 (n.toNat : Int))).setCell ⟨d, 9, none⟩ (.bool b)) S d { D with named := n.toNat, withIt := b }) := hid (by
      obtain ⟨I, l0, n0, a0, l1, n1, a1, hV⟩ := h
      exact Dt.of_turn hV.sd ((Fr.set_ _ _).trans ((Fr.set_ _ _).mono fun k _ e => .inl e)) ((hV.turn (D' := { D with named := n.toNat }) 8 _ rfl rfl rfl hV.cur).turn (D' := { D with named := n.toNat, withIt := b }) 9 _ rfl rfl rfl hV.cur))
    obtain ⟨m, hm⟩ : ∃ m : Int, (n.toNat : Int) = m := ⟨_, rfl⟩
    rw [hm] at hmx R
    clear h hd hd' hfz hm
    go_enter Try.func27, Try.ntmps27
    go_wp2
    go_ret
    exact ⟨rfl, R.out⟩
end Go.Proofs.Ytcadacljacbipaa
