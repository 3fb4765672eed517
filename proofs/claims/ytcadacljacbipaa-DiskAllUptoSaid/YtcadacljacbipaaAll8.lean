/- Append, Wipe, Sync, Switch. -/
import Derived.Test.YtcadacljacbipaaAll7
namespace Go.Proofs.Ytcadacljacbipaa
open Go.RowKit
/-- a disk behind a call: new blocks are its own -/
def Dt (w W : World) (S : Nat → Prop) (d : Nat) (D : Dk) : Prop := DAt W (fun k => S k ∨ Nw w W k) d D ∧ Fr S w W
theorem Did.close {w w1 W : World} {S T : Nat → Prop} {d : Nat} {D : Dk} (hb : Below w.heap.size w w1) (h : Did w1 W S T d D) (hT : ∀ k, T k → w.heap.size ≤ k) : Dt w W S d D := by
  have hlt := h.1.lt
  refine ⟨h.1.fr (Fr.refl (fun _ => False) _) (fun _ _ h => h) (fun k hk => ?_) (fun k hk => ?_), ((Fr.of_below hb).mono fun _ _ h => h.elim).trans (h.2.mono fun k _ hk => .inl hk)⟩
  · rcases hk with g | g | g
    · exact .inl g
    · exact .inr ⟨hT k g, hlt k (.inr (.inl g))⟩
    · exact .inr ⟨Nat.le_trans hb.size g.1, g.2⟩
  · rcases hk with g | g
    · exact hlt k (.inl g)
    · exact g.2
theorem Dt.stay {w w1 : World} {S : Nat → Prop} {d : Nat} {D : Dk} (hb : Below w.heap.size w w1) (h : DAt w S d D) : Dt w w1 S d D :=
  ⟨(h.below hb).fr (Fr.refl (fun _ => False) _) (fun _ _ h => h) (fun _ hk => .inl hk) (fun k hk => hk.elim (fun g => (h.below hb).lt k g) (fun g => g.2)), (Fr.of_below hb).mono fun _ _ h => h.elim⟩
/-- there is room for m bytes more, and an act -/
structure Dk.fits (D : Dk) (m : Nat) : Prop where
  room : D.s0.room + D.s1.room + m ≤ 70368744177664
  acts : D.s0.acts.length + D.s1.acts.length + 1 ≤ 1099511627776
  done : D.done + 1 ≤ 4611686018427387904
  named : D.named ≤ 9223372036854775807
set_option maxHeartbeats 1000000 in
theorem appending_any (v : Value) (da : List UInt8) (w : World) (h : SlB w v da) (hl : da.length ≤ 140737488355328) :
    Calls Try.prog 36 #[v] w fun e w' => ∃ c u, e = .returned (.func (.func 53) #[] #[.pointer (some ⟨c, 0, none⟩)]) ∧ w'.heap[c]? = some (.cells #[u] 22 (0, 0)) ∧ SlB w' u da ∧ (∀ k, TB c u da k → w.heap.size ≤ k) ∧ Below w.heap.size w w' := by
  have hmf : ∀ (fn : Fn) (first cap : Array Value) (w : World), (Instr.makeFunc fn first cap).run Try.prog w = .ok (.func fn first cap) w := fun _ _ _ _ => rfl
  have H := hid h
  clear h
  go_enter Try.func36, Try.ntmps36
  go_wp2_with fail
  refine (Clone_any v da w H.out hl).mono ?_
  rintro e w1 ⟨u, rfl, ho, hb⟩
  obtain ⟨A, c, rfl⟩ := ho.form
  have HO := hid ho
  have HB := hid hb
  clear ho hb
  go_wp2
  go_ret
  refine ⟨w1.heap.size, _, rfl, heap_alloc_new _ _, HO.out.sl.alloc _, fun k hk => ?_, HB.out.alloc HB.out.size _⟩
  rcases hk with rfl | ⟨_, hk⟩
  · exact HB.out.size
  · exact (World.ownsRow.lt HO.out k hk).1
theorem cf_app : ∀ (args : Array Value) (w : World), (callFunc 53 args).run Try.prog w = .ok (.enter 53 args) w := fun _ _ => by kernel_rfl
theorem cf_wipe : ∀ (args : Array Value) (w : World), (callFunc 41 args).run Try.prog w = .ok (.enter 41 args) w := fun _ _ => by kernel_rfl
theorem cf_sync : ∀ (args : Array Value) (w : World), (callFunc 39 args).run Try.prog w = .ok (.enter 39 args) w := fun _ _ => by kernel_rfl
theorem cf_switch : ∀ (args : Array Value) (w : World), (callFunc 40 args).run Try.prog w = .ok (.enter 40 args) w := fun _ _ => by kernel_rfl
/-- act, whatever is handed to it -/
theorem act_any (w : World) (S T : Nat → Prop) (d : Nat) (D : Dk) (n : Int) (o : DOp) (m : Nat) (h : DAt w S d D) (hf : D.fits m) (f : FuncId) (cap : Array Value) (hT : ∀ k, T k → k < w.heap.size)
    (hcf : ∀ (args : Array Value) (w : World), (callFunc f args).run Try.prog w = .ok (.enter f args) w) (h0 : n = 0 → Hands w S T d 0 D o f cap) (h1 : n = 1 → Hands w S T d 1 D o f cap) :
    Calls Try.prog 35 #[.pointer (some ⟨d, 0, none⟩), .int .i64 n, .bool o.wipes, .func (.func f) #[] cap] w fun e w' => e = .returned (.int .i64 (D.err n o.wipes)) ∧ Did w w' S T d (D.step n o) := by
  by_cases hd : D.dead = true
  · rw [show D.err n o.wipes = 60 by unfold Dk.err; rw [if_pos hd], show D.step n o = D by unfold Dk.step; rw [if_pos hd]]
    refine (act_dead w S d D h hd _ _ _).mono ?_
    rintro e w' ⟨rfl, rfl⟩
    exact ⟨rfl, Did.stay (Fr.refl _ _) h.sd h hT⟩
  have hd' : D.dead = false := by simpa using hd
  by_cases hb : D.bad n o.wipes = true
  · rw [show D.err n o.wipes = 61 by unfold Dk.err; rw [if_neg hd, if_pos hb], show D.step n o = D by unfold Dk.step; rw [if_neg hd, if_pos hb]]
    refine (act_bad w S d D h hd' n _ _ hb).mono ?_
    rintro e w' ⟨rfl, rfl⟩
    exact ⟨rfl, Did.stay (Fr.refl _ _) h.sd h hT⟩
  have hb' : D.bad n o.wipes = false := by simpa using hb
  have hn : n = 0 ∨ n = 1 := by
    unfold Dk.bad at hb'
    rw [Bool.or_eq_false_iff] at hb'
    have := hb'.1
    by_cases e0 : n = 0
    · exact .inl e0
    by_cases e1 : n = 1
    · exact .inr e1
    · rw [show (n != 0) = true by rw [bne_iff_ne]; exact e0, show (n != 1) = true by rw [bne_iff_ne]; exact e1] at this
      cases this
  rcases hn with rfl | rfl
  · exact act_do0 w S T d D o h hd' f cap hb' hf.done hf.named hT hcf (h0 rfl)
  · exact act_do1 w S T d D o h hd' f cap hb' hf.done hf.named hT hcf (h1 rfl)
theorem TB.fr {X S : Nat → Prop} {w w1 : World} {c : Nat} {v : Value} {da : List UInt8} (hc : w.heap[c]? = some (.cells #[v] 22 (0, 0))) (hv : SlB w v da) (hf : Fr X w w1) (hX : ∀ k, X k → S k) (hT : ∀ k, TB c v da k → ¬ S k) :
    w1.heap[c]? = some (.cells #[v] 22 (0, 0)) ∧ SlB w1 v da :=
  ⟨blk_fr hf hc (fun h => hT c (.inl rfl) (hX c h)), sl_fr0 hv hf (fun h0 k hk h => hT k (.inr ⟨h0, hk⟩) (hX k h))⟩
theorem Append_nil (n : Int) (v : Value) (da : List UInt8) (w : World) (h : SlB w v da) (hl : da.length ≤ 140737488355328) :
    Calls Try.prog 12 #[.pointer none, .int .i64 n, v] w fun e w' => e = .returned (.int .i64 0) ∧ Below w.heap.size w w' := by
  have H := hid h
  clear h
  go_enter Try.func12, Try.ntmps12
  go_wp2_with fail
  refine (appending_any v da w H.out hl).mono ?_
  rintro e w1 ⟨c, u, rfl, -, -, -, hb⟩
  have HB := hid hb
  clear hb
  go_wp2_with fail
  refine (act_nil _ _ _ _).mono ?_
  rintro e w2 ⟨rfl, hw⟩
  replace hw := hw.symm
  subst hw
  go_wp2
  go_ret
  exact ⟨rfl, HB.out⟩
set_option maxRecDepth 100000 in
set_option maxHeartbeats 1000000 in
theorem Append_any (w : World) (S : Nat → Prop) (d : Nat) (D : Dk) (n : Int) (v : Value) (da : List UInt8) (h : DAt w S d D) (hf : D.fits da.length) (hv : SlB w v da) :
    Calls Try.prog 12 #[.pointer (some ⟨d, 0, none⟩), .int .i64 n, v] w fun e w' => e = .returned (.int .i64 (D.err n false)) ∧ Dt w w' S d (D.step n (.append da)) := by
  have H := hid h
  have HV := hid hv
  have HF := hid hf
  have hroom := hf.room
  have hacts := hf.acts
  clear h hv hf
  go_enter Try.func12, Try.ntmps12
  go_wp2_with fail
  refine (appending_any v da w HV.out (by omega)).mono ?_
  rintro e w1 ⟨c, u, rfl, hc, hu, hT, hb⟩
  have HB := hid hb
  have h1 := H.out.below hb
  have hTS : ∀ k, TB c u da k → ¬ S k := fun k hk hs => by have := hT k hk; have := H.out.lt k hs; omega
  have hTL : ∀ k, TB c u da k → k < w1.heap.size := fun k hk => by
    rcases hk with rfl | ⟨h0, hk⟩
    · exact blk_lt hc
    · exact sl_lt hu h0 k hk
  have r0 := D.s0.now_le
  have r1 := D.s1.now_le
  have C := hid (act_any w1 S (TB c u da) d D n (.append da) da.length h1 HF.out 53 #[.pointer (some ⟨c, 0, none⟩)] hTL cf_app
    (fun _ w2 D2 hf2 e0 e1 _ h2 => appending_0 w2 S d c D2 u da h2 (TB.fr hc hu hf2 (fun k e => e ▸ h1.sd) hTS).1 (TB.fr hc hu hf2 (fun k e => e ▸ h1.sd) hTS).2 hTS (by rw [e0]; omega) (by rw [e0]; omega))
    (fun _ w2 D2 hf2 e0 e1 _ h2 => appending_1 w2 S d c D2 u da h2 (TB.fr hc hu hf2 (fun k e => e ▸ h1.sd) hTS).1 (TB.fr hc hu hf2 (fun k e => e ▸ h1.sd) hTS).2 hTS (by rw [e1]; omega) (by rw [e1]; omega)))
  have HT := hid hT
  clear hc hu hb h1 hTS hTL r0 r1 hT
  go_wp2_with fail
  refine C.out.mono ?_
  rintro e w2 ⟨rfl, h2⟩
  have R := hid (Did.close HB.out h2 HT.out)
  clear h2
  go_wp2
  go_ret
  exact ⟨rfl, R.out⟩
end Go.Proofs.Ytcadacljacbipaa

/- Wipe, Sync, Switch, Stop; what a disk tells. -/
namespace Go.Proofs.Ytcadacljacbipaa
open Go.RowKit
theorem Wipe_nil (n : Int) (w : World) :
    Calls Try.prog 25 #[.pointer none, .int .i64 n] w fun e w' => e = .returned (.int .i64 0) ∧ w' = w := by
  go_enter Try.func25, Try.ntmps25
  go_wp2_with fail
  refine (act_nil _ _ _ _).mono ?_
  rintro e w2 ⟨rfl, rfl⟩
  go_wp2
  go_ret
  exact ⟨rfl, rfl⟩
theorem Sync_nil (n : Int) (w : World) :
    Calls Try.prog 19 #[.pointer none, .int .i64 n] w fun e w' => e = .returned (.int .i64 0) ∧ w' = w := by
  go_enter Try.func19, Try.ntmps19
  go_wp2_with fail
  refine (act_nil _ _ _ _).mono ?_
  rintro e w2 ⟨rfl, rfl⟩
  go_wp2
  go_ret
  exact ⟨rfl, rfl⟩
theorem Switch_nil (n : Int) (w : World) :
    Calls Try.prog 24 #[.pointer none, .int .i64 n] w fun e w' => e = .returned (.int .i64 0) ∧ Below w.heap.size w w' := by
  have hmf : ∀ (fn : Fn) (first cap : Array Value) (w : World), (Instr.makeFunc fn first cap).run Try.prog w = .ok (.func fn first cap) w := fun _ _ _ _ => rfl
  go_enter Try.func24, Try.ntmps24
  go_wp2_with fail
  refine (act_nil _ _ _ _).mono ?_
  rintro e w2 ⟨rfl, rfl⟩
  go_wp2
  go_ret
  exact ⟨rfl, ((Below.refl _ _).alloc (Nat.le_refl _) _).alloc (by simp) _⟩
set_option maxRecDepth 100000 in
set_option maxHeartbeats 1000000 in
theorem Wipe_any (w : World) (S : Nat → Prop) (d : Nat) (D : Dk) (n : Int) (h : DAt w S d D) (hf : D.fits 0) :
    Calls Try.prog 25 #[.pointer (some ⟨d, 0, none⟩), .int .i64 n] w fun e w' => e = .returned (.int .i64 (D.err n true)) ∧ Dt w w' S d (D.step n .wipe) := by
  have hroom := hf.room
  have hacts := hf.acts
  have r0 := D.s0.now_le
  have r1 := D.s1.now_le
  have C := hid (act_any w S (fun _ => False) d D n .wipe 0 h hf 41 #[] (fun _ h => h.elim) cf_wipe
    (fun _ w2 D2 hf2 e0 e1 _ h2 => wiping_0 w2 S d D2 h2 (by rw [e0]; omega) (by rw [e0]; omega))
    (fun _ w2 D2 hf2 e0 e1 _ h2 => wiping_1 w2 S d D2 h2 (by rw [e1]; omega) (by rw [e1]; omega)))
  clear h hf r0 r1
  go_enter Try.func25, Try.ntmps25
  go_wp2_with fail
  refine C.out.mono ?_
  rintro e w2 ⟨rfl, h2⟩
  have R := hid (Did.close (Below.refl w.heap.size w) h2 (fun _ h => h.elim))
  clear h2
  go_wp2
  go_ret
  exact ⟨rfl, R.out⟩
set_option maxRecDepth 100000 in
set_option maxHeartbeats 1000000 in
theorem Sync_any (w : World) (S : Nat → Prop) (d : Nat) (D : Dk) (n : Int) (h : DAt w S d D) (hf : D.fits 0) :
    Calls Try.prog 19 #[.pointer (some ⟨d, 0, none⟩), .int .i64 n] w fun e w' => e = .returned (.int .i64 (D.err n false)) ∧ Dt w w' S d (D.step n .sync) := by
  have hroom := hf.room
  have r0 := D.s0.now_le
  have r1 := D.s1.now_le
  have C := hid (act_any w S (fun _ => False) d D n .sync 0 h hf 39 #[] (fun _ h => h.elim) cf_sync
    (fun _ w2 D2 hf2 e0 e1 _ h2 => syncing_0 w2 S d D2 h2 (by rw [e0]; omega))
    (fun _ w2 D2 hf2 e0 e1 _ h2 => syncing_1 w2 S d D2 h2 (by rw [e1]; omega)))
  clear h hf r0 r1
  go_enter Try.func19, Try.ntmps19
  go_wp2_with fail
  refine C.out.mono ?_
  rintro e w2 ⟨rfl, h2⟩
  have R := hid (Did.close (Below.refl w.heap.size w) h2 (fun _ h => h.elim))
  clear h2
  go_wp2
  go_ret
  exact ⟨rfl, R.out⟩
set_option maxRecDepth 100000 in
set_option maxHeartbeats 1000000 in
theorem Switch_any (w : World) (S : Nat → Prop) (d : Nat) (D : Dk) (n : Int) (h : DAt w S d D) (hf : D.fits 0) :
    Calls Try.prog 24 #[.pointer (some ⟨d, 0, none⟩), .int .i64 n] w fun e w' => e = .returned (.int .i64 (D.err n false)) ∧ Dt w w' S d (D.step n .switch) := by
  have hmf : ∀ (fn : Fn) (first cap : Array Value) (w : World), (Instr.makeFunc fn first cap).run Try.prog w = .ok (.func fn first cap) w := fun _ _ _ _ => rfl
  have H := hid h
  have HF := hid hf
  clear h hf
  go_enter Try.func24, Try.ntmps24
  go_upto_region 1 with (fail)
  refine Code.seen (fun W => W.heap[w.heap.size]? = some (.cells #[.pointer (some ⟨d, 0, none⟩)] 27 (0, 0)) ∧ W.heap[w.heap.size + 1]? = some (.cells #[.int .i64 n] 3 (0, 0)) ∧ Below w.heap.size w W) ⟨?_, ?_, ((Below.refl _ _).alloc (Nat.le_refl _) _).alloc (by simp) _⟩ fun w1 H1 => ?_
  · have h1 := heap_alloc_new w (.cells #[.pointer (some ⟨d, 0, none⟩)] 27)
    exact (Below.heap_alloc _ _ _ (by simp)).trans h1
  · have h1 := heap_alloc_new (w.alloc (.cells #[.pointer (some ⟨d, 0, none⟩)] 27)) (.cells #[.int .i64 n] 3)
    simpa using h1
  obtain ⟨hq, hp, hb⟩ := H1.out
  have cp : w1.cell? ⟨w.heap.size + 1, 0, none⟩ = some (.int .i64 n) := by rw [blk_cell hp]; rfl
  have cq : w1.cell? ⟨w.heap.size, 0, none⟩ = some (.pointer (some ⟨d, 0, none⟩)) := by rw [blk_cell hq]; rfl
  have h1 := H.out.below hb
  have hTS : ∀ k, SB (w.heap.size + 1) w.heap.size k → ¬ S k := fun k hk hs => by
    have := H.out.lt k hs
    rcases hk with rfl | rfl <;> omega
  have hTL : ∀ k, SB (w.heap.size + 1) w.heap.size k → k < w1.heap.size := fun k hk => by
    rcases hk with rfl | rfl
    · exact blk_lt hp
    · exact blk_lt hq
  have key : ∀ i : Nat, i < 2 → n = (i : Int) → Hands w1 S (SB (w.heap.size + 1) w.heap.size) d i D .switch 40 #[.pointer (some ⟨w.heap.size + 1, 0, none⟩), .pointer (some ⟨w.heap.size, 0, none⟩)] :=
    fun i hi e w2 D2 hf2 e0 e1 _ h2 => switching w2 S d (3 * i) i _ _ hi D2 h2 (by
      have := blk_fr hf2 hp (fun g => hTS _ (.inl rfl) (by rw [g]; exact h1.sd))
      rw [e] at this; exact this) (blk_fr hf2 hq (fun g => hTS _ (.inr rfl) (by rw [g]; exact h1.sd)))
  have C := hid (act_any w1 S (SB (w.heap.size + 1) w.heap.size) d D n .switch 0 h1 HF.out 40 #[.pointer (some ⟨w.heap.size + 1, 0, none⟩), .pointer (some ⟨w.heap.size, 0, none⟩)] hTL cf_switch
    (fun e => key 0 (by omega) e) (fun e => key 1 (by omega) e))
  clear h1 hTS hTL key hq hp hb
  go_wp2_with fail
  refine C.out.mono ?_
  rintro e w2 ⟨rfl, h2⟩
  have R := hid (Did.close H1.out.2.2 h2 (fun k hk => by rcases hk with rfl | rfl <;> omega))
  clear h2
  go_wp2
  go_ret
  exact ⟨rfl, R.out⟩
/-- Stop -/
def Dk.stop (D : Dk) (n : Int) (b : Bool) : Dk := if D.dead then D else { D with named := n.toNat, withIt := b }
theorem Stop_nil (n : Int) (b : Bool) (w : World) :
    Calls Try.prog 27 #[.pointer none, .int .i64 n, .bool b] w fun e w' => e = .returned (.int .i64 0) ∧ w' = w := by
  go_enter Try.func27, Try.ntmps27
  go_wp2
  go_ret
  exact ⟨rfl, rfl⟩
theorem Dt.of_turn {w w1 : World} {S I : Nat → Prop} {d : Nat} {l0 n0 a0 l1 n1 a1 : Value} {D : Dk} (hd : S d) (hf : Fr (fun k => k = d) w w1) (h : DV w1 S I d l0 n0 a0 l1 n1 a1 D) : Dt w w1 S d D :=
  ⟨⟨I, l0, n0, a0, l1, n1, a1, h.fr (Fr.refl (fun _ => False) _) (fun _ _ h => h) (fun _ hk => .inl hk) (fun k hk => hk.elim (fun g => h.lt k g) (fun g => g.2))⟩, hf.mono fun _ _ e => e ▸ hd⟩
set_option maxRecDepth 100000 in
set_option maxHeartbeats 1000000 in
theorem Stop_any (w : World) (S : Nat → Prop) (d : Nat) (D : Dk) (n : Int) (b : Bool) (h : DAt w S d D) :
    Calls Try.prog 27 #[.pointer (some ⟨d, 0, none⟩), .int .i64 n, .bool b] w fun e w' => e = .returned (.int .i64 (if D.dead then 60 else 0)) ∧ Dt w w' S d (D.stop n b) := by
  obtain ⟨c6, c7, c8, c9, c10, hfz⟩ := h.cells
  by_cases hd : D.dead = true
  · rw [if_pos hd, show D.stop n b = D from if_pos hd]
    rw [hd] at c10
    have R := hid (Dt.stay (Below.refl w.heap.size w) h)
    clear h hd hfz
    go_enter Try.func27, Try.ntmps27
    go_wp2
    go_ret
    exact ⟨rfl, R.out⟩
  · rw [if_neg hd, show D.stop n b = { D with named := n.toNat, withIt := b } from if_neg hd]
    have hd' : D.dead = false := by simpa using hd
    rw [hd'] at c10
    have f8 := hfz 8
    have f9 := hfz 9
    have hmx : (if 0 < n then n else 0) = (n.toNat : Int) := by split <;> omega
    have R : Hid (Dt w ((w.setCell ⟨d, 8, none⟩ (.int .i64 (n.toNat : Int))).setCell ⟨d, 9, none⟩ (.bool b)) S d { D with named := n.toNat, withIt := b }) := hid (by
      obtain ⟨I, l0, n0, a0, l1, n1, a1, hV⟩ := h
      exact Dt.of_turn hV.sd ((Fr.set_ _ _).trans ((Fr.set_ _ _).mono fun k _ e => .inl e)) ((hV.turn (D' := { D with named := n.toNat }) 8 _ rfl rfl rfl hV.cur).turn (D' := { D with named := n.toNat, withIt := b }) 9 _ rfl rfl rfl hV.cur))
    obtain ⟨m, hm⟩ : ∃ m : Int, (n.toNat : Int) = m := ⟨_, rfl⟩
    rw [hm] at hmx R
    clear h hd hd' hfz hm
    go_enter Try.func27, Try.ntmps27
    go_wp2
    go_ret
    exact ⟨rfl, R.out⟩
end Go.Proofs.Ytcadacljacbipaa

/- What a disk tells: Read, Current, Slots, Acts, Pending, Dead; a new one. -/
namespace Go.Proofs.Ytcadacljacbipaa
open Go.RowKit
def Dk.readB (D : Dk) (n : Int) : List UInt8 := if D.dead then [] else if n = 0 then D.s0.now else if n = 1 then D.s1.now else []
def Dk.readE (D : Dk) (n : Int) : Int := if D.dead then 60 else if n = 0 ∨ n = 1 then 0 else 61
def Dk.curN (D : Dk) : Nat := if D.dead then 0 else D.cur
def Dk.pending (D : Dk) : Nat := D.s0.acts.length + D.s1.acts.length
theorem New_any (w : World) :
    Calls Try.prog 26 #[] w fun e w' => ∃ d, e = .returned (.pointer (some ⟨d, 0, none⟩)) ∧ Below w.heap.size w w' ∧ DAt w' (fun k => Nw w w' k) d Dk.new := by
  go_enter Try.func26, Try.ntmps26
  go_wp2
  go_ret
  refine ⟨w.heap.size, rfl, (Below.refl _ _).alloc (Nat.le_refl _) _, ⟨fun _ => False, .slice none 0 0, .slice none 0 0, .slice none 0 0, .slice none 0 0, .slice none 0 0, .slice none 0 0, ?_⟩⟩
  exact
    { at_ := heap_alloc_new _ _
      s0 := ⟨SlI.nil _ _, SlI.nil _ _, ActsAt.nil _ _⟩
      s1 := ⟨SlI.nil _ _, SlI.nil _ _, ActsAt.nil _ _⟩
      cur := by decide
      sd := ⟨Nat.le_refl _, by simp⟩
      id := fun h => h
      is := fun _ h => h.elim
      lt := fun k hk => hk.2
      r0 := fun k hk => by simp [Value.ownBlock] at hk
      r1 := fun k hk => by simp [Value.ownBlock] at hk
      rr := fun k hk => by simp [Value.ownBlock] at hk }
theorem Read_nil (n : Int) (w : World) :
    Calls Try.prog 15 #[.pointer none, .int .i64 n] w fun e w' => e = .returned (.tuple #[.slice none 0 0, .int .i64 0]) ∧ w' = w := by
  go_enter Try.func15, Try.ntmps15
  go_wp2
  go_ret2
  exact ⟨rfl, rfl⟩
/-- all cells of a disk -/
theorem DV.cells {w : World} {S I : Nat → Prop} {d : Nat} {l0 n0 a0 l1 n1 a1 : Value} {D : Dk} (h : DV w S I d l0 n0 a0 l1 n1 a1 D) :
    w.cell? ⟨d, 0, none⟩ = some l0 ∧ w.cell? ⟨d, 1, none⟩ = some n0 ∧ w.cell? ⟨d, 2, none⟩ = some a0 ∧ w.cell? ⟨d, 3, none⟩ = some l1 ∧ w.cell? ⟨d, 4, none⟩ = some n1 ∧ w.cell? ⟨d, 5, none⟩ = some a1 :=
  ⟨by rw [blk_cell h.at_]; rfl, by rw [blk_cell h.at_]; rfl, by rw [blk_cell h.at_]; rfl, by rw [blk_cell h.at_]; rfl, by rw [blk_cell h.at_]; rfl, by rw [blk_cell h.at_]; rfl⟩
set_option maxRecDepth 100000 in
set_option maxHeartbeats 1000000 in
theorem Read_any (w : World) (S : Nat → Prop) (d : Nat) (D : Dk) (n : Int) (h : DAt w S d D) (hroom : D.s0.room + D.s1.room ≤ 140737488355328) :
    Calls Try.prog 15 #[.pointer (some ⟨d, 0, none⟩), .int .i64 n] w fun e w' => ∃ v, e = .returned (.tuple #[v, .int .i64 (D.readE n)]) ∧ OwnB w' w.heap.size v (D.readB n) ∧ Below w.heap.size w w' := by
  obtain ⟨c6, c7, c8, c9, c10, hfz⟩ := h.cells
  obtain ⟨I, l0, n0, a0, l1, n1, a1, hV⟩ := h
  obtain ⟨c0, c1, c2, c3, c4, c5⟩ := hV.cells
  by_cases hd : D.dead = true
  · rw [show D.readE n = 60 from if_pos hd, show D.readB n = [] from if_pos hd]
    rw [hd] at c10
    clear hV hd hfz
    go_enter Try.func15, Try.ntmps15
    go_wp2
    go_ret2
    exact ⟨_, rfl, OwnB.nil _ _, Below.refl _ _⟩
  have hd' : D.dead = false := by simpa using hd
  rw [hd'] at c10
  have r0 := D.s0.now_le
  have r1 := D.s1.now_le
  by_cases h0 : n = 0
  · subst h0
    rw [show D.readE 0 = 0 by unfold Dk.readE; rw [if_neg hd, if_pos (.inl rfl)], show D.readB 0 = D.s0.now by unfold Dk.readB; rw [if_neg hd, if_pos rfl]]
    have H := hid hV.s0.now.sl
    clear hV hd hd' hfz
    go_enter Try.func15, Try.ntmps15
    go_wp2_with fail
    refine (Clone_any n0 D.s0.now w H.out (by omega)).mono ?_
    rintro e w1 ⟨v, rfl, ho, hb⟩
    have R := hid (⟨ho, hb⟩ : OwnB w1 w.heap.size v D.s0.now ∧ Below w.heap.size w w1)
    clear ho hb
    go_wp2
    go_ret2
    exact ⟨v, rfl, R.out⟩
  by_cases h1 : n = 1
  · subst h1
    rw [show D.readE 1 = 0 by unfold Dk.readE; rw [if_neg hd, if_pos (.inr rfl)], show D.readB 1 = D.s1.now by unfold Dk.readB; rw [if_neg hd, if_neg (by omega), if_pos rfl]]
    have H := hid hV.s1.now.sl
    clear hV hd hd' hfz
    go_enter Try.func15, Try.ntmps15
    go_wp2_with fail
    refine (Clone_any n1 D.s1.now w H.out (by omega)).mono ?_
    rintro e w1 ⟨v, rfl, ho, hb⟩
    have R := hid (⟨ho, hb⟩ : OwnB w1 w.heap.size v D.s1.now ∧ Below w.heap.size w w1)
    clear ho hb
    go_wp2
    go_ret2
    exact ⟨v, rfl, R.out⟩
  · rw [show D.readE n = 61 by unfold Dk.readE; rw [if_neg hd, if_neg (by omega)], show D.readB n = [] by unfold Dk.readB; rw [if_neg hd, if_neg h0, if_neg h1]]
    have q0 : (n != 0) = true := by rw [bne_iff_ne]; exact h0
    have q1 : (n != 1) = true := by rw [bne_iff_ne]; exact h1
    clear hV hd hd' hfz h0 h1
    go_enter Try.func15, Try.ntmps15
    go_wp2
    go_ret2
    exact ⟨_, rfl, OwnB.nil _ _, Below.refl _ _⟩
theorem gone_nil (w : World) : Calls Try.prog 38 #[.pointer none] w fun e w' => e = .returned (.bool true) ∧ w' = w := by
  go_enter Try.func38, Try.ntmps38
  go_wp2
  go_ret
  exact ⟨rfl, rfl⟩
theorem gone_any (w : World) (S : Nat → Prop) (d : Nat) (D : Dk) (h : DAt w S d D) : Calls Try.prog 38 #[.pointer (some ⟨d, 0, none⟩)] w fun e w' => e = .returned (.bool D.dead) ∧ w' = w := by
  obtain ⟨c6, c7, c8, c9, c10, hfz⟩ := h.cells
  generalize D.dead = b at *
  clear h hfz
  go_enter Try.func38, Try.ntmps38
  go_wp2
  go_ret
  exact ⟨rfl, rfl⟩
theorem Current_nil (w : World) : Calls Try.prog 18 #[.pointer none] w fun e w' => e = .returned (.int .i64 0) ∧ w' = w := by
  go_enter Try.func18, Try.ntmps18
  go_wp2_with (go_at_call 38; refine (gone_nil _).mono ?_; rintro e w' ⟨rfl, rfl⟩)
  go_ret
  exact ⟨rfl, rfl⟩
theorem Current_any (w : World) (S : Nat → Prop) (d : Nat) (D : Dk) (h : DAt w S d D) : Calls Try.prog 18 #[.pointer (some ⟨d, 0, none⟩)] w fun e w' => e = .returned (.int .i64 (D.curN : Int)) ∧ w' = w := by
  have H := hid h
  obtain ⟨c6, c7, c8, c9, c10, hfz⟩ := h.cells
  unfold Dk.curN
  cases hd : D.dead
  all_goals
    have C := hid (gone_any w S d D H.out)
    rw [hd] at C
    clear h hd hfz
    go_enter Try.func18, Try.ntmps18
    go_wp2_with fail
    refine C.out.mono ?_
    rintro e w' ⟨rfl, hw⟩
    replace hw := hw.symm
    subst hw
    clear C
    go_wp2
    go_ret
    exact ⟨rfl, rfl⟩
theorem Acts_nil (w : World) : Calls Try.prog 29 #[.pointer none] w fun e w' => e = .returned (.int .i64 0) ∧ w' = w := by
  go_enter Try.func29, Try.ntmps29
  go_wp2
  go_ret
  exact ⟨rfl, rfl⟩
theorem Acts_any (w : World) (S : Nat → Prop) (d : Nat) (D : Dk) (h : DAt w S d D) : Calls Try.prog 29 #[.pointer (some ⟨d, 0, none⟩)] w fun e w' => e = .returned (.int .i64 (D.done : Int)) ∧ w' = w := by
  obtain ⟨c6, c7, c8, c9, c10, hfz⟩ := h.cells
  clear h hfz
  go_enter Try.func29, Try.ntmps29
  go_wp2
  go_ret
  exact ⟨rfl, rfl⟩
theorem Dead_nil (w : World) : Calls Try.prog 20 #[.pointer none] w fun e w' => e = .returned (.bool false) ∧ w' = w := by
  go_enter Try.func20, Try.ntmps20
  go_wp2
  go_ret
  exact ⟨rfl, rfl⟩
theorem Dead_any (w : World) (S : Nat → Prop) (d : Nat) (D : Dk) (h : DAt w S d D) : Calls Try.prog 20 #[.pointer (some ⟨d, 0, none⟩)] w fun e w' => e = .returned (.bool D.dead) ∧ w' = w := by
  obtain ⟨c6, c7, c8, c9, c10, hfz⟩ := h.cells
  generalize D.dead = b at *
  clear h hfz
  go_enter Try.func20, Try.ntmps20
  go_wp2
  go_ret
  exact ⟨rfl, rfl⟩
theorem Pending_nil (w : World) : Calls Try.prog 13 #[.pointer none] w fun e w' => e = .returned (.int .i64 0) ∧ w' = w := by
  go_enter Try.func13, Try.ntmps13
  go_wp2
  go_ret
  exact ⟨rfl, rfl⟩
theorem Pending_any (w : World) (S : Nat → Prop) (d : Nat) (D : Dk) (h : DAt w S d D) (hp : D.pending ≤ 1099511627776) : Calls Try.prog 13 #[.pointer (some ⟨d, 0, none⟩)] w fun e w' => e = .returned (.int .i64 (D.pending : Int)) ∧ ∃ n, w' = w.drewN n := by
  obtain ⟨I, l0, n0, a0, l1, n1, a1, hV⟩ := h
  obtain ⟨c0, c1, c2, c3, c4, c5⟩ := hV.cells
  obtain ⟨fs, _, hown, _⟩ := hV.s0.acts
  obtain ⟨A, c, rfl⟩ := own_form hown
  obtain ⟨fs1, _, hown1, _⟩ := hV.s1.acts
  obtain ⟨A1, k1, rfl⟩ := own_form hown1
  have e : (D.pending : Int) = (D.s0.acts.length : Int) + (D.s1.acts.length : Int) := by unfold Dk.pending; omega
  have HE := hid e
  have hs : IntKind.i64.wrap ((D.s0.acts.length : Int) + (D.s1.acts.length : Int)) = (D.s0.acts.length : Int) + (D.s1.acts.length : Int) := by rw [IntKind.wrap_i64]; unfold Dk.pending at hp; omega
  rw [HE.out]
  clear hV hown hown1 e hp
  go_enter Try.func13, Try.ntmps13
  go_wp2
  go_quiet (fail)
  go_wp2
  go_ret
  exact ⟨rfl, _, rfl⟩
end Go.Proofs.Ytcadacljacbipaa

/- Slots, Load. -/
namespace Go.Proofs.Ytcadacljacbipaa
open Go.RowKit
def DC (d : Nat) (n0 n1 : Value) (c : Nat) (W : World) : Prop := W.cell? ⟨d, 1, none⟩ = some n0 ∧ W.cell? ⟨d, 4, none⟩ = some n1 ∧ W.cell? ⟨d, 6, none⟩ = some (.int .i64 (c : Int))
theorem DC.below {d : Nat} {n0 n1 : Value} {c : Nat} {W W' : World} (h : DC d n0 n1 c W) (hb : Below W.heap.size W W') : DC d n0 n1 c W' :=
  ⟨(hb.cell (p := ⟨d, 1, none⟩) (World.block_lt_of_cell? W _ h.1)).trans h.1, (hb.cell (p := ⟨d, 4, none⟩) (World.block_lt_of_cell? W _ h.2.1)).trans h.2.1, (hb.cell (p := ⟨d, 6, none⟩) (World.block_lt_of_cell? W _ h.2.2)).trans h.2.2⟩
def DS (d g : Nat) (n0 n1 : Value) (c : Nat) (W : World) : Prop := W.cell? ⟨d, 1, none⟩ = some n0 ∧ W.cell? ⟨d, 4, none⟩ = some n1 ∧ W.cell? ⟨d, 6, none⟩ = some (.int .i64 (c : Int)) ∧ W.cell? ⟨g, 0, none⟩ = some (.slice none 0 0) ∧ W.cell? ⟨g, 1, none⟩ = some (.slice none 0 0) ∧ W.frozen? ⟨g, 0, none⟩ = false ∧ W.frozen? ⟨g, 1, none⟩ = false
theorem DS.below {d g : Nat} {n0 n1 : Value} {c : Nat} {W W' : World} (h : DS d g n0 n1 c W) (hb : Below W.heap.size W W') : DS d g n0 n1 c W' := by
  obtain ⟨h1, h2, h3, h4, h5, h6, h7⟩ := h
  have hg := World.block_lt_of_cell? W _ h4
  exact ⟨(hb.cell (p := ⟨d, 1, none⟩) (World.block_lt_of_cell? W _ h1)).trans h1, (hb.cell (p := ⟨d, 4, none⟩) (World.block_lt_of_cell? W _ h2)).trans h2, (hb.cell (p := ⟨d, 6, none⟩) (World.block_lt_of_cell? W _ h3)).trans h3,
    (hb.cell (p := ⟨g, 0, none⟩) hg).trans h4, (hb.cell (p := ⟨g, 1, none⟩) hg).trans h5, (hb.frozen (p := ⟨g, 0, none⟩) hg).trans h6, (hb.frozen (p := ⟨g, 1, none⟩) hg).trans h7⟩
theorem DC.set {d g i : Nat} {n0 n1 v : Value} {c : Nat} {W : World} (h : DC d n0 n1 c W) (hne : d ≠ g) : DC d n0 n1 c (W.setCell ⟨g, i, none⟩ v) := by
  have key : ∀ j, (W.setCell ⟨g, i, none⟩ v).cell? ⟨d, j, none⟩ = W.cell? ⟨d, j, none⟩ := fun j => World.cell?_setCell_other _ _ _ _ (by intro e; injection e with e; exact hne e.symm)
  exact ⟨(key 1).trans h.1, (key 4).trans h.2.1, (key 6).trans h.2.2⟩
theorem slots_end {w w1 wa wb W : World} {va vb : Value} {la lb : List UInt8} (hb1 : Below w.heap.size w w1) (hs : w.heap.size < w1.heap.size) (hba : Below w1.drew.heap.size w1.drew wa) (hbb : Below wa.heap.size wa wb) (hoa : OwnB wa w1.drew.heap.size va la) (hob : OwnB wb wa.heap.size vb lb) (hW : Fr (fun k => k = w.heap.size) wb W) :
    OwnB W w.heap.size va la ∧ OwnB W w.heap.size vb lb ∧ (∀ k, va.ownBlock = some k → vb.ownBlock ≠ some k) ∧ Below w.heap.size w W := by
  have h1 : w1.drew.heap.size = w1.heap.size := rfl
  have h2 := hba.size
  have h3 := hbb.size
  refine ⟨own_base ((hoa.below hbb).fr hW fun k hk e => ?_) (by omega), own_base (hob.fr hW fun k hk e => ?_) (by omega), fun k hk hk2 => ?_, ?_⟩
  · have := (World.ownsRow.lt hoa k hk).1; omega
  · have := (World.ownsRow.lt hob k hk).1; omega
  · have := (World.ownsRow.lt hoa k hk).2
    have := (World.ownsRow.lt hob k hk2).1
    omega
  · have hb : Below w.heap.size w wb := hb1.trans ((below_then (below_then (drew_below w1) hba) hbb).mono (by omega))
    exact hb.trans (hW.to_below (fun k hk e => by omega) hb.size)
theorem Slots_nil (w : World) :
    Calls Try.prog 22 #[.pointer none] w fun e w' => e = .returned (.tuple #[.agg #[.slice none 0 0, .slice none 0 0], .int .i64 0]) ∧ Below w.heap.size w w' := by
  go_enter Try.func22, Try.ntmps22
  go_wp2_with (go_at_call 38; refine (gone_nil _).mono ?_; rintro e w' ⟨rfl, rfl⟩)
  exact bodyPost_ret (v := .tuple #[.agg #[.slice none 0 0, .slice none 0 0], .int .i64 0]) (by simp [results, Try.results22, go_sem]) rfl ⟨rfl, (Below.refl _ _).alloc (Nat.le_refl _) _⟩
def Dk.told0 (D : Dk) : List UInt8 := if D.dead then [] else D.s0.now
def Dk.told1 (D : Dk) : List UInt8 := if D.dead then [] else D.s1.now
set_option maxRecDepth 100000 in
set_option maxHeartbeats 4000000 in
theorem Slots_any (w : World) (S : Nat → Prop) (d : Nat) (D : Dk) (h : DAt w S d D) (hroom : D.s0.room + D.s1.room ≤ 140737488355328) :
    Calls Try.prog 22 #[.pointer (some ⟨d, 0, none⟩)] w fun e w' => ∃ v0 v1, e = .returned (.tuple #[.agg #[v0, v1], .int .i64 (D.curN : Int)]) ∧ OwnB w' w.heap.size v0 D.told0 ∧ OwnB w' w.heap.size v1 D.told1 ∧ (∀ k, v0.ownBlock = some k → v1.ownBlock ≠ some k) ∧ Below w.heap.size w w' := by
  have G := hid (gone_any (w.alloc (.cells #[.slice none 0 0, .slice none 0 0] 32)) S d D (h.below ((Below.refl _ _).alloc (Nat.le_refl _) _)))
  by_cases hd : D.dead = true
  · rw [hd] at G
    rw [show D.curN = 0 from if_pos hd, show D.told0 = [] from if_pos hd, show D.told1 = [] from if_pos hd]
    clear h hd
    go_enter Try.func22, Try.ntmps22
    go_wp2_with fail
    refine G.out.mono ?_
    rintro e w1 ⟨rfl, rfl⟩
    go_wp2
    exact bodyPost_ret (v := .tuple #[.agg #[.slice none 0 0, .slice none 0 0], .int .i64 0]) (by simp [results, Try.results22, go_sem]) rfl ⟨_, _, rfl, OwnB.nil _ _, OwnB.nil _ _, fun k hk => by simp [Value.ownBlock] at hk, (Below.refl _ _).alloc (Nat.le_refl _) _⟩
  have hd' : D.dead = false := by simpa using hd
  rw [hd'] at G
  rw [show D.curN = D.cur from if_neg hd, show D.told0 = D.s0.now from if_neg hd, show D.told1 = D.s1.now from if_neg hd]
  obtain ⟨c6, c7, c8, c9, c10, hfz⟩ := h.cells
  obtain ⟨I, l0, n0, a0, l1, n1, a1, hV⟩ := h
  obtain ⟨c0, c1, c2, c3, c4, c5⟩ := hV.cells
  have r0 := D.s0.now_le
  have r1 := D.s1.now_le
  have H0 := hid hV.s0.now.sl
  have H1 := hid hV.s1.now.sl
  have HDC : Hid (DC d n0 n1 D.cur w) := hid ⟨c1, c4, c6⟩
  clear hV hd hd' hfz c0 c1 c2 c3 c4 c5 c6 c7 c8 c9 c10
  go_enter Try.func22, Try.ntmps22
  go_wp2_with fail
  refine G.out.mono ?_
  rintro e w1 ⟨rfl, hw⟩
  have HB1 : Hid (Below w.heap.size w w1) := hid (by rw [hw]; exact (Below.refl _ _).alloc (Nat.le_refl _) _)
  have HR1 : Hid (w1.heap[w.heap.size]? = some (.cells #[.slice none 0 0, .slice none 0 0] 32 (0, 0))) := hid (by rw [hw]; exact heap_alloc_new _ _)
  have HC1 := hid (HDC.out.below HB1.out)
  have K0 := hid (H0.out.below HB1.out)
  have K1 := hid (H1.out.below HB1.out)
  clear hw G
  have hgl := blk_lt HR1.out
  have hS : Hid (DS d w.heap.size n0 n1 D.cur w1) := hid ⟨HC1.out.1, HC1.out.2.1, HC1.out.2.2, by rw [blk_cell HR1.out]; rfl, by rw [blk_cell HR1.out]; rfl, blk_frozen HR1.out _, blk_frozen HR1.out _⟩
  go_wp2
  have hdg : d ≠ w.heap.size := fun e => by
    have : d < w.heap.size := World.block_lt_of_cell? w _ HDC.out.1
    omega
  go_region_held3 (fun W => W.cell? ⟨d, 1, none⟩ = some n0 ∧ W.cell? ⟨d, 4, none⟩ = some n1 ∧ W.cell? ⟨d, 6, none⟩ = some (.int .i64 (D.cur : Int)))
    (first | assumption | exact HC1.out | exact DC.below (HC1.out.below (drew_below w1)) hba | exact DC.below (HC1.out.below (drew_below w1)) hbb | exact DC.below (DC.below (HC1.out.below (drew_below w1)) hba) hbb | exact DC.below (DC.below (HC1.out.below (drew_below w1)) hbb) hba | exact ((DC.below (DC.below (HC1.out.below (drew_below w1)) hba) hbb).set hdg).set hdg | exact ((DC.below (DC.below (HC1.out.below (drew_below w1)) hbb) hba).set hdg).set hdg)
    (first
      | (go_at_call 34; (with_reducible refine (Clone_any n0 D.s0.now _ (by first | exact K0.out.drew | exact K0.out.drew.below hbb) (by omega)).mono ?_); rintro e wa ⟨va, rfl, hoa, hba⟩; obtain ⟨Aa, ca, rfl⟩ := hoa.form; have ga : DS d w.heap.size n0 n1 D.cur wa := (by first | exact DS.below (hS.out.below (drew_below w1)) hba | exact DS.below (DS.below (hS.out.below (drew_below w1)) hbb) hba); obtain ⟨_, _, _, ga1, ga2, ga3, ga4⟩ := ga)
      | (go_at_call 34; (with_reducible refine (Clone_any n1 D.s1.now _ (by first | exact K1.out.drew | exact K1.out.drew.below hba) (by omega)).mono ?_); rintro e wb ⟨vb, rfl, hob, hbb⟩; obtain ⟨Ab, cb, rfl⟩ := hob.form; have gb : DS d w.heap.size n0 n1 D.cur wb := (by first | exact DS.below (hS.out.below (drew_below w1)) hbb | exact DS.below (DS.below (hS.out.below (drew_below w1)) hba) hbb); obtain ⟨_, _, _, gb1, gb2, gb3, gb4⟩ := gb))
  all_goals
    have F : ∀ (W : World) (u v : Value), Fr (fun k => k = w.heap.size) W ((W.setCell ⟨w.heap.size, 0, none⟩ u).setCell ⟨w.heap.size, 1, none⟩ v) := fun W u v => (Fr.set_ _ _).trans ((Fr.set_ _ _).mono fun k _ e => .inl e)
    have sw : ∀ {W : World} {u v : Value}, (OwnB W w.heap.size v D.s1.now ∧ OwnB W w.heap.size u D.s0.now ∧ (∀ k, v.ownBlock = some k → u.ownBlock ≠ some k) ∧ Below w.heap.size w W) → (OwnB W w.heap.size u D.s0.now ∧ OwnB W w.heap.size v D.s1.now ∧ (∀ k, u.ownBlock = some k → v.ownBlock ≠ some k) ∧ Below w.heap.size w W) := fun h => ⟨h.2.1, h.1, fun k hk e => h.2.2.1 k e hk, h.2.2.2⟩
    first
      | have R := hid (slots_end HB1.out hgl hba hbb hoa hob (F _ (.slice Aa D.s0.now.length ca) (.slice Ab D.s1.now.length cb)))
      | have R := hid (sw (slots_end HB1.out hgl hbb hba hob hoa (F _ (.slice Aa D.s0.now.length ca) (.slice Ab D.s1.now.length cb))))
    clear F sw
    go_wp2
    refine bodyPost_ret (v := .tuple #[.agg #[.slice Aa D.s0.now.length ca, .slice Ab D.s1.now.length cb], .int .i64 (D.cur : Int)]) ?_ rfl ⟨_, _, rfl, R.out.1, R.out.2.1, R.out.2.2.1, R.out.2.2.2⟩
    simp [results, Try.results22, go_sem, *]
end Go.Proofs.Ytcadacljacbipaa
