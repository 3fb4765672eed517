/- Append, Wipe, Sync, Switch. -/
import Derived.Test.YtcadacljacbipaaDkI
namespace Go.Proofs.Ytcadacljacbipaa
open Go.RowKit
/-- a disk behind a call: new blocks are its own -/
def Dt (w W : World) (S : Nat → Prop) (d : Nat) (D : Dk) : Prop := DAt W (fun k => S k ∨ Nw w W k) d D ∧ Fr S w W
theorem Did.close {w w1 W : World} {S T : Nat → Prop} {d : Nat} {D : Dk} (hb : Below w.heap.size w w1) (h : Did w1 W S T d D) (hT : ∀ k, T k → w.heap.size ≤ k) : Dt w W S d D := by
  have hlt := h.1.lt
  refine ⟨h.1.fr (Fr.refl (fun _ => False) _) (fun _ _ h => h) (fun k hk => ?_) (fun k hk => ?_), ((Fr.of_below hb).mono fun _ _ h => h.elim).trans (h.2.mono fun k _ hk => .inl hk)⟩
  · rcases hk with g | g | g
    · exact .inl g
    · exact .inr ⟨hT k g, hlt k (.inr (.inl g))⟩
    · exact .inr ⟨Nat.le_trans hb.size g.1, g.2⟩
  · rcases hk with g | g
    · exact hlt k (.inl g)
    · exact g.2
theorem Dt.stay {w w1 : World} {S : Nat → Prop} {d : Nat} {D : Dk} (hb : Below w.heap.size w w1) (h : DAt w S d D) : Dt w w1 S d D :=
  ⟨(h.below hb).fr (Fr.refl (fun _ => False) _) (fun _ _ h => h) (fun _ hk => .inl hk) (fun k hk => hk.elim (fun g => (h.below hb).lt k g) (fun g => g.2)), (Fr.of_below hb).mono fun _ _ h => h.elim⟩
/-- there is room for m bytes more, and an act -/
structure Dk.fits (D : Dk) (m : Nat) : Prop where
  room : D.s0.room + D.s1.room + m ≤ 70368744177664
  acts : D.s0.acts.length + D.s1.acts.length + 1 ≤ 1099511627776
  done : D.done + 1 ≤ 4611686018427387904
  named : D.named ≤ 9223372036854775807
set_option maxHeartbeats 1000000 in
theorem appending_any (v : Value) (da : List UInt8) (w : World) (h : SlB w v da) (hl : da.length ≤ 140737488355328) :
    Calls Try.prog 36 #[v] w fun e w' => ∃ c u, e = .returned (.func (.func 53) #[] #[.pointer (some ⟨c, 0, none⟩)]) ∧ w'.heap[c]? = some (.cells #[u] 22 (0, 0)) ∧ SlB w' u da ∧ (∀ k, TB c u da k → w.heap.size ≤ k) ∧ Below w.heap.size w w' := by
  have hmf : ∀ (fn : Fn) (first cap : Array Value) (w : World), (Instr.makeFunc fn first cap).run Try.prog w = .ok (.func fn first cap) w := fun _ _ _ _ => rfl
  have H := hid h
  clear h
  go_enter Try.func36, Try.ntmps36
  go_wp2_with fail
  refine (Clone_any v da w H.out hl).mono ?_
  rintro e w1 ⟨u, rfl, ho, hb⟩
  obtain ⟨A, c, rfl⟩ := ho.form
  have HO := hid ho
  have HB := hid hb
  clear ho hb
  go_wp2
  go_ret
  refine ⟨w1.heap.size, _, rfl, heap_alloc_new _ _, HO.out.sl.alloc _, fun k hk => ?_, HB.out.alloc HB.out.size _⟩
  rcases hk with rfl | ⟨_, hk⟩
  · exact HB.out.size
  · exact (World.ownsRow.lt HO.out k hk).1
theorem cf_app : ∀ (args : Array Value) (w : World), (callFunc 53 args).run Try.prog w = .ok (.enter 53 args) w := fun _ _ => by kernel_rfl
theorem cf_wipe : ∀ (args : Array Value) (w : World), (callFunc 41 args).run Try.prog w = .ok (.enter 41 args) w := fun _ _ => by kernel_rfl
theorem cf_sync : ∀ (args : Array Value) (w : World), (callFunc 39 args).run Try.prog w = .ok (.enter 39 args) w := fun _ _ => by kernel_rfl
theorem cf_switch : ∀ (args : Array Value) (w : World), (callFunc 40 args).run Try.prog w = .ok (.enter 40 args) w := fun _ _ => by kernel_rfl
/-- act, whatever is handed to it -/
theorem act_any (w : World) (S T : Nat → Prop) (d : Nat) (D : Dk) (n : Int) (o : DOp) (m : Nat) (h : DAt w S d D) (hf : D.fits m) (f : FuncId) (cap : Array Value) (hT : ∀ k, T k → k < w.heap.size)
    (hcf : ∀ (args : Array Value) (w : World), (callFunc f args).run Try.prog w = .ok (.enter f args) w) (h0 : n = 0 → Hands w S T d 0 D o f cap) (h1 : n = 1 → Hands w S T d 1 D o f cap) :
    Calls Try.prog 35 #[.pointer (some ⟨d, 0, none⟩), .int .i64 n, .bool o.wipes, .func (.func f) #[] cap] w fun e w' => e = .returned (.int .i64 (D.err n o.wipes)) ∧ Did w w' S T d (D.step n o) := by
  by_cases hd : D.dead = true
  · rw [show D.err n o.wipes = 60 by unfold Dk.err; rw [if_pos hd], show D.step n o = D by unfold Dk.step; rw [if_pos hd]]
    refine (act_dead w S d D h hd _ _ _).mono ?_
    rintro e w' ⟨rfl, rfl⟩
    exact ⟨rfl, Did.stay (Fr.refl _ _) h.sd h hT⟩
  have hd' : D.dead = false := by simpa using hd
  by_cases hb : D.bad n o.wipes = true
  · rw [show D.err n o.wipes = 61 by unfold Dk.err; rw [if_neg hd, if_pos hb], show D.step n o = D by unfold Dk.step; rw [if_neg hd, if_pos hb]]
    refine (act_bad w S d D h hd' n _ _ hb).mono ?_
    rintro e w' ⟨rfl, rfl⟩
    exact ⟨rfl, Did.stay (Fr.refl _ _) h.sd h hT⟩
  have hb' : D.bad n o.wipes = false := by simpa using hb
  have hn : n = 0 ∨ n = 1 := by
    unfold Dk.bad at hb'
    rw [Bool.or_eq_false_iff] at hb'
    have := hb'.1
    by_cases e0 : n = 0
    · exact .inl e0
    by_cases e1 : n = 1
    · exact .inr e1
    · rw [show (n != 0) = true by rw [bne_iff_ne]; exact e0, show (n != 1) = true by rw [bne_iff_ne]; exact e1] at this
      cases this
  rcases hn with rfl | rfl
  · exact act_do0 w S T d D o h hd' f cap hb' hf.done hf.named hT hcf (h0 rfl)
  · exact act_do1 w S T d D o h hd' f cap hb' hf.done hf.named hT hcf (h1 rfl)
theorem TB.fr {X S : Nat → Prop} {w w1 : World} {c : Nat} {v : Value} {da : List UInt8} (hc : w.heap[c]? = some (.cells #[v] 22 (0, 0))) (hv : SlB w v da) (hf : Fr X w w1) (hX : ∀ k, X k → S k) (hT : ∀ k, TB c v da k → ¬ S k) :
    w1.heap[c]? = some (.cells #[v] 22 (0, 0)) ∧ SlB w1 v da :=
  ⟨blk_fr hf hc (fun h => hT c (.inl rfl) (hX c h)), sl_fr0 hv hf (fun h0 k hk h => hT k (.inr ⟨h0, hk⟩) (hX k h))⟩
theorem Append_nil (n : Int) (v : Value) (da : List UInt8) (w : World) (h : SlB w v da) (hl : da.length ≤ 140737488355328) :
    Calls Try.prog 12 #[.pointer none, .int .i64 n, v] w fun e w' => e = .returned (.int .i64 0) ∧ Below w.heap.size w w' := by
  have H := hid h
  clear h
  go_enter Try.func12, Try.ntmps12
  go_wp2_with fail
  refine (appending_any v da w H.out hl).mono ?_
  rintro e w1 ⟨c, u, rfl, -, -, -, hb⟩
  have HB := hid hb
  clear hb
  go_wp2_with fail
  refine (act_nil _ _ _ _).mono ?_
  rintro e w2 ⟨rfl, hw⟩
  replace hw := hw.symm
  subst hw
  go_wp2
  go_ret
  exact ⟨rfl, HB.out⟩
set_option maxRecDepth 100000 in
set_option maxHeartbeats 1000000 in
theorem Append_any (w : World) (S : Nat → Prop) (d : Nat) (D : Dk) (n : Int) (v : Value) (da : List UInt8) (h : DAt w S d D) (hf : D.fits da.length) (hv : SlB w v da) :
    Calls Try.prog 12 #[.pointer (some ⟨d, 0, none⟩), .int .i64 n, v] w fun e w' => e = .returned (.int .i64 (D.err n false)) ∧ Dt w w' S d (D.step n (.append da)) := by
  have H := hid h
  have HV := hid hv
  have HF := hid hf
  have hroom := hf.room
  have hacts := hf.acts
  clear h hv hf
  go_enter Try.func12, Try.ntmps12
  go_wp2_with fail
  refine (appending_any v da w HV.out (by omega)).mono ?_
  rintro e w1 ⟨c, u, rfl, hc, hu, hT, hb⟩
  have HB := hid hb
  have h1 := H.out.below hb
  have hTS : ∀ k, TB c u da k → ¬ S k := fun k hk hs => by have := hT k hk; have := H.out.lt k hs; omega
  have hTL : ∀ k, TB c u da k → k < w1.heap.size := fun k hk => by
    rcases hk with rfl | ⟨h0, hk⟩
    · exact blk_lt hc
    · exact sl_lt hu h0 k hk
  have r0 := D.s0.now_le
  have r1 := D.s1.now_le
  have C := hid (act_any w1 S (TB c u da) d D n (.append da) da.length h1 HF.out 53 #[.pointer (some ⟨c, 0, none⟩)] hTL cf_app
    (fun _ w2 D2 hf2 e0 e1 _ h2 => appending_0 w2 S d c D2 u da h2 (TB.fr hc hu hf2 (fun k e => e ▸ h1.sd) hTS).1 (TB.fr hc hu hf2 (fun k e => e ▸ h1.sd) hTS).2 hTS (by rw [e0]; omega) (by rw [e0]; omega))
    (fun _ w2 D2 hf2 e0 e1 _ h2 => appending_1 w2 S d c D2 u da h2 (TB.fr hc hu hf2 (fun k e => e ▸ h1.sd) hTS).1 (TB.fr hc hu hf2 (fun k e => e ▸ h1.sd) hTS).2 hTS (by rw [e1]; omega) (by rw [e1]; omega)))
  have HT := hid hT
  clear hc hu hb h1 hTS hTL r0 r1 hT
  go_wp2_with fail
  refine C.out.mono ?_
  rintro e w2 ⟨rfl, h2⟩
  have R := hid (Did.close HB.out h2 HT.out)
  clear h2
  go_wp2
  go_ret
  exact ⟨rfl, R.out⟩
end Go.Proofs.Ytcadacljacbipaa
