/- An act that is done. -/
import Derived.Test.YtcadacljacbipaaAll6
namespace Go.Proofs.Ytcadacljacbipaa
open Go.RowKit
/-- what is handed to act, called at slot i of a disk like D -/
def Hands (w : World) (S T : Nat → Prop) (d i : Nat) (D : Dk) (o : DOp) (f : FuncId) (cap : Array Value) : Prop :=
  ∀ w1 D1, Fr (fun k => k = d) w w1 → D1.s0 = D.s0 → D1.s1 = D.s1 → D1.cur = D.cur → DAt w1 S d D1 →
    Calls Try.prog f (#[.pointer (some ⟨d, 3 * i, none⟩)] ++ cap) w1 fun e w' => e = .returned (.tuple #[]) ∧ Did w1 w' S T d (o.eff i D1)
set_option maxRecDepth 100000 in
set_option maxHeartbeats 4000000 in
theorem act_do0 (w : World) (S T : Nat → Prop) (d : Nat) (D : Dk) (o : DOp) (h : DAt w S d D) (hd : D.dead = false) (f : FuncId) (cap : Array Value) (hb : D.bad 0 o.wipes = false) (hdone : D.done + 1 ≤ 4611686018427387904) (hnm : D.named ≤ 9223372036854775807) (hT : ∀ k, T k → k < w.heap.size)
    (hcf : ∀ (args : Array Value) (w : World), (callFunc f args).run Try.prog w = .ok (.enter f args) w) (hdo : Hands w S T d 0 D o f cap) :
    Calls Try.prog 35 #[.pointer (some ⟨d, 0, none⟩), .int .i64 0, .bool o.wipes, .func (.func f) #[] cap] w fun e w' => e = .returned (.int .i64 (D.err 0 o.wipes)) ∧ Did w w' S T d (D.step 0 o) := by
  have H := hid h
  have HDO := hid hdo
  have HT := hid hT
  have hn : D.near.dead = (D.named == 1) := rfl
  obtain ⟨c6, c7, c8, c9, c10, hfz⟩ := h.cells
  rw [hd] at c10
  have hwc : (o.wipes && ((0 : Int) == (D.cur : Int))) = false := by
    unfold Dk.bad at hb; simpa using hb
  have hbb := hid hb
  have HD := hid hd
  obtain ⟨wi, hwi⟩ : ∃ wi, o.wipes = wi := ⟨_, rfl⟩
  rw [hwi] at hwc ⊢
  have HWI := hid hwi
  have f8 := hfz 8
  have f10 := hfz 10
  clear h hdo hT hb hd hfz hwi hn
  obtain ⟨nm, hnm'⟩ : ∃ nm, D.named = nm := ⟨_, rfl⟩
  rw [hnm'] at c8 hnm
  obtain ⟨m, hm⟩ : ∃ m, nm - 1 = m := ⟨_, rfl⟩
  have hmx : (if 1 < (nm : Int) then (nm : Int) - 1 else 0) = (m : Int) := by split <;> omega
  have HNR : Hid (∀ b : Bool, (nm == 1) = b → DAt ((w.setCell ⟨d, 10, none⟩ (.bool b)).setCell ⟨d, 8, none⟩ (.int .i64 (m : Int))) S d D.near) := hid fun b hb => by
    obtain ⟨I, l0, n0, a0, l1, n1, a1, hV⟩ := H.out
    have := hV.near
    rw [hnm', hb, hm] at this
    exact ⟨I, l0, n0, a0, l1, n1, a1, this⟩
  have HND : Hid (D.near.dead = (nm == 1)) := hid (by rw [← hnm']; rfl)
  have HNM := hid hnm'
  clear hnm' hm
  by_cases h1 : nm = 1
  · subst h1
    obtain rfl : m = 0 := by
      have h2 : ((if (1 : Int) < ((1 : Nat) : Int) then ((1 : Nat) : Int) - 1 else 0) : Int) = 0 := rfl
      rw [h2] at hmx; omega
    clear hmx
    have HE : Hid (D.err 0 o.wipes = 60) := hid (by unfold Dk.err; rw [HD.out, hbb.out, HNM.out]; rfl)
    rw [HWI.out] at HE
    have HNR1 := hid (HNR.out true rfl)
    rw [show ((1 : Nat) == 1) = true from rfl] at HND
    clear HNR
    rw [HE.out]
    by_cases hw : D.withIt = true
    case pos =>
      have HST : Hid (D.step 0 o = (o.eff 0 D.near).more) := hid (by
        unfold Dk.step
        rw [if_neg (by rw [HD.out]; decide), if_neg (by rw [hbb.out]; decide), if_neg (by rw [hw]; exact fun h => by cases h.2)]; rfl)
      have HW := hid hw
      rw [HST.out]
      clear hw
      cases wi
      all_goals
        go_enter Try.func35, Try.ntmps35
        go_upto_region 9 with (fail)
        refine Code.seen (fun W => DAt W S d D.near ∧ Fr (fun k => k = d) w W ∧ W.heap.size = w.heap.size) ⟨HNR1.out, (Fr.set_ _ _).trans ((Fr.set_ _ _).mono fun k _ e => .inl e), by simp⟩ fun w1 H1 => ?_
        obtain ⟨k6, k7, k8, k9, k10, _⟩ := H1.out.1.cells
        rw [HND.out] at k10
        rw [show D.near.withIt = D.withIt from rfl, HW.out] at k9
        clear c6 c7 c8 c9 c10 f8 f10
        go_wp2_with fail
        refine (HDO.out w1 D.near H1.out.2.1 rfl rfl rfl H1.out.1).mono ?_
        rintro e w2 ⟨rfl, h2⟩
        have R := hid (Did.more H1.out.2.1 H1.out.2.2 H.out.sd h2)
        obtain ⟨m6, m7, m8, m9, m10, mf⟩ := h2.1.cells
        rw [eff_done, show D.near.done = D.done from rfl] at m7
        rw [eff_dead, HND.out] at m10
        rw [eff_done, show D.near.done = D.done from rfl] at R
        replace mf := mf 7
        clear k6 k7 k8 k9 k10 h2 m6 m8 m9
        go_wp2
        go_ret
        exact ⟨rfl, R.out⟩
    case neg =>
      have hw' : D.withIt = false := by simpa using hw
      have HST : Hid (D.step 0 o = D.near) := hid (by
        unfold Dk.step
        rw [if_neg (by rw [HD.out]; decide), if_neg (by rw [hbb.out]; decide), if_pos ⟨HNM.out, hw'⟩])
      have HW := hid hw'
      rw [HST.out]
      clear hw hw'
      cases wi
      all_goals
        go_enter Try.func35, Try.ntmps35
        go_upto_region 9 with (fail)
        refine Code.seen (fun W => DAt W S d D.near ∧ Fr (fun k => k = d) w W ∧ W.heap.size = w.heap.size) ⟨HNR1.out, (Fr.set_ _ _).trans ((Fr.set_ _ _).mono fun k _ e => .inl e), by simp⟩ fun w1 H1 => ?_
        obtain ⟨k6, k7, k8, k9, k10, _⟩ := H1.out.1.cells
        rw [HND.out] at k10
        rw [show D.near.withIt = D.withIt from rfl, HW.out] at k9
        clear c6 c7 c8 c9 c10 f8 f10
        go_wp2
        go_ret
        exact ⟨rfl, Did.stay H1.out.2.1 H.out.sd H1.out.1 HT.out⟩
  · have q1 : ((nm : Int) == 1) = false := by rw [beq_eq_false_iff_ne]; omega
    have q2 : (nm == 1) = false := by rw [beq_eq_false_iff_ne]; exact h1
    have HE : Hid (D.err 0 o.wipes = 0) := hid (by unfold Dk.err; rw [HD.out, hbb.out, HNM.out, if_neg h1]; rfl)
    have HST : Hid (D.step 0 o = (o.eff 0 D.near).more) := hid (by
      unfold Dk.step
      rw [if_neg (by rw [HD.out]; decide), if_neg (by rw [hbb.out]; decide), if_neg (by rw [HNM.out]; exact fun h => h1 h.1)]; rfl)
    rw [HWI.out] at HE
    have HNR1 := hid (HNR.out false q2)
    rw [q2] at HND
    clear q2 HNR
    rw [HE.out, HST.out]
    cases wi
    all_goals
      go_enter Try.func35, Try.ntmps35
      go_upto_region 9 with (fail)
      refine Code.seen (fun W => DAt W S d D.near ∧ Fr (fun k => k = d) w W ∧ W.heap.size = w.heap.size) ⟨HNR1.out, (Fr.set_ _ _).trans ((Fr.set_ _ _).mono fun k _ e => .inl e), by simp⟩ fun w1 H1 => ?_
      obtain ⟨k6, k7, k8, k9, k10, _⟩ := H1.out.1.cells
      rw [HND.out] at k10
      clear c6 c7 c8 c9 c10 f8 f10
      go_wp2_with fail
      refine (HDO.out w1 D.near H1.out.2.1 rfl rfl rfl H1.out.1).mono ?_
      rintro e w2 ⟨rfl, h2⟩
      have R := hid (Did.more H1.out.2.1 H1.out.2.2 H.out.sd h2)
      obtain ⟨m6, m7, m8, m9, m10, mf⟩ := h2.1.cells
      rw [eff_done, show D.near.done = D.done from rfl] at m7
      rw [eff_dead, HND.out] at m10
      rw [eff_done, show D.near.done = D.done from rfl] at R
      replace mf := mf 7
      clear k6 k7 k8 k9 k10 h2 m6 m8 m9
      go_wp2
      go_ret
      exact ⟨rfl, R.out⟩
set_option maxRecDepth 100000 in
set_option maxHeartbeats 4000000 in
theorem act_do1 (w : World) (S T : Nat → Prop) (d : Nat) (D : Dk) (o : DOp) (h : DAt w S d D) (hd : D.dead = false) (f : FuncId) (cap : Array Value) (hb : D.bad 1 o.wipes = false) (hdone : D.done + 1 ≤ 4611686018427387904) (hnm : D.named ≤ 9223372036854775807) (hT : ∀ k, T k → k < w.heap.size)
    (hcf : ∀ (args : Array Value) (w : World), (callFunc f args).run Try.prog w = .ok (.enter f args) w) (hdo : Hands w S T d 1 D o f cap) :
    Calls Try.prog 35 #[.pointer (some ⟨d, 0, none⟩), .int .i64 1, .bool o.wipes, .func (.func f) #[] cap] w fun e w' => e = .returned (.int .i64 (D.err 1 o.wipes)) ∧ Did w w' S T d (D.step 1 o) := by
  have H := hid h
  have HDO := hid hdo
  have HT := hid hT
  have hn : D.near.dead = (D.named == 1) := rfl
  obtain ⟨c6, c7, c8, c9, c10, hfz⟩ := h.cells
  rw [hd] at c10
  have hwc : (o.wipes && ((1 : Int) == (D.cur : Int))) = false := by
    unfold Dk.bad at hb; simpa using hb
  have hbb := hid hb
  have HD := hid hd
  obtain ⟨wi, hwi⟩ : ∃ wi, o.wipes = wi := ⟨_, rfl⟩
  rw [hwi] at hwc ⊢
  have HWI := hid hwi
  have f8 := hfz 8
  have f10 := hfz 10
  clear h hdo hT hb hd hfz hwi hn
  obtain ⟨nm, hnm'⟩ : ∃ nm, D.named = nm := ⟨_, rfl⟩
  rw [hnm'] at c8 hnm
  obtain ⟨m, hm⟩ : ∃ m, nm - 1 = m := ⟨_, rfl⟩
  have hmx : (if 1 < (nm : Int) then (nm : Int) - 1 else 0) = (m : Int) := by split <;> omega
  have HNR : Hid (∀ b : Bool, (nm == 1) = b → DAt ((w.setCell ⟨d, 10, none⟩ (.bool b)).setCell ⟨d, 8, none⟩ (.int .i64 (m : Int))) S d D.near) := hid fun b hb => by
    obtain ⟨I, l0, n0, a0, l1, n1, a1, hV⟩ := H.out
    have := hV.near
    rw [hnm', hb, hm] at this
    exact ⟨I, l0, n0, a0, l1, n1, a1, this⟩
  have HND : Hid (D.near.dead = (nm == 1)) := hid (by rw [← hnm']; rfl)
  have HNM := hid hnm'
  clear hnm' hm
  by_cases h1 : nm = 1
  · subst h1
    obtain rfl : m = 0 := by
      have h2 : ((if (1 : Int) < ((1 : Nat) : Int) then ((1 : Nat) : Int) - 1 else 0) : Int) = 0 := rfl
      rw [h2] at hmx; omega
    clear hmx
    have HE : Hid (D.err 1 o.wipes = 60) := hid (by unfold Dk.err; rw [HD.out, hbb.out, HNM.out]; rfl)
    rw [HWI.out] at HE
    have HNR1 := hid (HNR.out true rfl)
    rw [show ((1 : Nat) == 1) = true from rfl] at HND
    clear HNR
    rw [HE.out]
    by_cases hw : D.withIt = true
    case pos =>
      have HST : Hid (D.step 1 o = (o.eff 1 D.near).more) := hid (by
        unfold Dk.step
        rw [if_neg (by rw [HD.out]; decide), if_neg (by rw [hbb.out]; decide), if_neg (by rw [hw]; exact fun h => by cases h.2)]; rfl)
      have HW := hid hw
      rw [HST.out]
      clear hw
      cases wi
      all_goals
        go_enter Try.func35, Try.ntmps35
        go_upto_region 9 with (fail)
        refine Code.seen (fun W => DAt W S d D.near ∧ Fr (fun k => k = d) w W ∧ W.heap.size = w.heap.size) ⟨HNR1.out, (Fr.set_ _ _).trans ((Fr.set_ _ _).mono fun k _ e => .inl e), by simp⟩ fun w1 H1 => ?_
        obtain ⟨k6, k7, k8, k9, k10, _⟩ := H1.out.1.cells
        rw [HND.out] at k10
        rw [show D.near.withIt = D.withIt from rfl, HW.out] at k9
        clear c6 c7 c8 c9 c10 f8 f10
        go_wp2_with fail
        refine (HDO.out w1 D.near H1.out.2.1 rfl rfl rfl H1.out.1).mono ?_
        rintro e w2 ⟨rfl, h2⟩
        have R := hid (Did.more H1.out.2.1 H1.out.2.2 H.out.sd h2)
        obtain ⟨m6, m7, m8, m9, m10, mf⟩ := h2.1.cells
        rw [eff_done, show D.near.done = D.done from rfl] at m7
        rw [eff_dead, HND.out] at m10
        rw [eff_done, show D.near.done = D.done from rfl] at R
        replace mf := mf 7
        clear k6 k7 k8 k9 k10 h2 m6 m8 m9
        go_wp2
        go_ret
        exact ⟨rfl, R.out⟩
    case neg =>
      have hw' : D.withIt = false := by simpa using hw
      have HST : Hid (D.step 1 o = D.near) := hid (by
        unfold Dk.step
        rw [if_neg (by rw [HD.out]; decide), if_neg (by rw [hbb.out]; decide), if_pos ⟨HNM.out, hw'⟩])
      have HW := hid hw'
      rw [HST.out]
      clear hw hw'
      cases wi
      all_goals
        go_enter Try.func35, Try.ntmps35
        go_upto_region 9 with (fail)
        refine Code.seen (fun W => DAt W S d D.near ∧ Fr (fun k => k = d) w W ∧ W.heap.size = w.heap.size) ⟨HNR1.out, (Fr.set_ _ _).trans ((Fr.set_ _ _).mono fun k _ e => .inl e), by simp⟩ fun w1 H1 => ?_
        obtain ⟨k6, k7, k8, k9, k10, _⟩ := H1.out.1.cells
        rw [HND.out] at k10
        rw [show D.near.withIt = D.withIt from rfl, HW.out] at k9
        clear c6 c7 c8 c9 c10 f8 f10
        go_wp2
        go_ret
        exact ⟨rfl, Did.stay H1.out.2.1 H.out.sd H1.out.1 HT.out⟩
  · have q1 : ((nm : Int) == 1) = false := by rw [beq_eq_false_iff_ne]; omega
    have q2 : (nm == 1) = false := by rw [beq_eq_false_iff_ne]; exact h1
    have HE : Hid (D.err 1 o.wipes = 0) := hid (by unfold Dk.err; rw [HD.out, hbb.out, HNM.out, if_neg h1]; rfl)
    have HST : Hid (D.step 1 o = (o.eff 1 D.near).more) := hid (by
      unfold Dk.step
      rw [if_neg (by rw [HD.out]; decide), if_neg (by rw [hbb.out]; decide), if_neg (by rw [HNM.out]; exact fun h => h1 h.1)]; rfl)
    rw [HWI.out] at HE
    have HNR1 := hid (HNR.out false q2)
    rw [q2] at HND
    clear q2 HNR
    rw [HE.out, HST.out]
    cases wi
    all_goals
      go_enter Try.func35, Try.ntmps35
      go_upto_region 9 with (fail)
      refine Code.seen (fun W => DAt W S d D.near ∧ Fr (fun k => k = d) w W ∧ W.heap.size = w.heap.size) ⟨HNR1.out, (Fr.set_ _ _).trans ((Fr.set_ _ _).mono fun k _ e => .inl e), by simp⟩ fun w1 H1 => ?_
      obtain ⟨k6, k7, k8, k9, k10, _⟩ := H1.out.1.cells
      rw [HND.out] at k10
      clear c6 c7 c8 c9 c10 f8 f10
      go_wp2_with fail
      refine (HDO.out w1 D.near H1.out.2.1 rfl rfl rfl H1.out.1).mono ?_
      rintro e w2 ⟨rfl, h2⟩
      have R := hid (Did.more H1.out.2.1 H1.out.2.2 H.out.sd h2)
      obtain ⟨m6, m7, m8, m9, m10, mf⟩ := h2.1.cells
      rw [eff_done, show D.near.done = D.done from rfl] at m7
      rw [eff_dead, HND.out] at m10
      rw [eff_done, show D.near.done = D.done from rfl] at R
      replace mf := mf 7
      clear k6 k7 k8 k9 k10 h2 m6 m8 m9
      go_wp2
      go_ret
      exact ⟨rfl, R.out⟩
end Go.Proofs.Ytcadacljacbipaa
