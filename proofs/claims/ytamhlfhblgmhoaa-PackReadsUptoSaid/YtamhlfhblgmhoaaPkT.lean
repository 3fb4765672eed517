/- The walks of package pack: the reader's Bytes, Text, End. -/
import Derived.Test.YtamhlfhblgmhoaaPkS
namespace Go.Proofs.Ytamhlfhblgmhoaa
open Go.RowKit
set_option maxHeartbeats 1000000 in
theorem rBytes_no (g : Nat) (e : Int) (v : Value) (d : List UInt8) (k : Nat) (max : Int) (w : World) (he : e ≠ 0) (h : RAt w g e v d k) :
    Calls Try.prog 49 #[.pointer (some ⟨g, 0, none⟩), .int .i64 max] w fun r w' => r = .returned (.slice none 0 0) ∧ w' = w := by
  go_enter Try.func49, Try.ntmps49
  go_wp2_with fail
  refine (stopped_yes g e v d k w he h).mono ?_
  rintro r w1 ⟨rfl, rfl⟩
  go_wp2
  go_ret
  exact ⟨rfl, rfl⟩
theorem own_part {w : World} {g cap : Nat} {d : List UInt8} (h : OwnB w 0 (.slice (some ⟨g, 0, none⟩) d.length cap) d) (k n : Nat) (hk : k + n ≤ d.length) (c : Nat) (hc : n ≤ c) : SlB w (.slice (some ⟨g, k, none⟩) n c) ((d.drop k).take n) := by
  have hl : ((d.drop k).take n).length = n := by rw [List.length_take, List.length_drop]; omega
  refine ⟨_, _, by rw [hl], by rw [hl]; exact hc, (fun h => by cases h), fun h0 => ⟨g, k, rfl, fun i hi => ?_⟩⟩
  rw [hl] at hi
  rw [(h.at_ (k + i) (by omega)).1]
  simp [List.getElem?_take_of_lt hi]
set_option maxRecDepth 100000 in
set_option maxHeartbeats 2000000 in
theorem rBytes_err (g : Nat) (v : Value) (d : List UInt8) (k : Nat) (max : Int) (w : World) (h : RAt w g 0 v d k) (E : Int) (hE : E ≠ 0)
    (hn : (Pk.num max 0 0 (d.drop k)).2.2 = E ∨ ((Pk.num max 0 0 (d.drop k)).2.2 = 0 ∧ E = 30 ∧ (d.length : Int) - k - (Pk.num max 0 0 (d.drop k)).2.1 < (Pk.num max 0 0 (d.drop k)).1)) :
    Calls Try.prog 49 #[.pointer (some ⟨g, 0, none⟩), .int .i64 max] w fun r w' => r = .returned (.slice none 0 0) ∧ RLeft w w' g v d E k := by
  have H := hid h
  have h9 := num_nine max (d.drop k)
  have hsm := h.small
  have hle := h.le
  have HNU := hid (number_any g 0 v d k max w h)
  have hq : (E != 0) = true := by rw [bne_iff_ne]; exact hE
  obtain ⟨R, hR⟩ : ∃ R, Pk.num max 0 0 (d.drop k) = R := ⟨_, rfl⟩
  rw [hR] at HNU hn h9
  clear hR
  obtain ⟨n, s, E1⟩ := R
  simp only at HNU hn h9
  obtain ⟨A, c, rfl⟩ := h.own.form
  clear h
  obtain ⟨h9, h10⟩ := h9
  rcases hn with rfl | ⟨rfl, rfl, hlt⟩
  · have hq2 : (E1 == 0) = false := by rw [beq_eq_false_iff_ne]; exact hE
    clear hE
    go_enter Try.func49, Try.ntmps49
    go_wp2_with fail
    refine (stopped_no g _ d k w H.out).mono ?_
    rintro r w1 ⟨rfl, rfl⟩
    go_wp2_with fail
    refine HNU.out.mono ?_
    rintro r w2 ⟨rfl, m, rfl⟩
    go_wp2
    go_quiet (fail)
    go_wp2_with fail
    refine (rfail_any g E1 _ d k _ (H.out.drewN _)).mono ?_
    rintro r w3 ⟨rfl, hL⟩
    have HL := hid (((RLeft.refl H.out).drewN _).trans hL)
    clear hL
    go_wp2
    go_ret
    exact ⟨rfl, HL.out⟩
  · have c1 := fun n => ((H.out.drewN n).c1)
    have c2 := fun n => ((H.out.drewN n).c2)
    have e1 : IntKind.i64.wrap ((d.length : Int) - k) = (d.length : Int) - k := by rw [IntKind.wrap_i64]; omega
    have e2 : IntKind.i64.wrap ((d.length : Int) - k - s) = (d.length : Int) - k - s := by rw [IntKind.wrap_i64]; omega
    go_enter Try.func49, Try.ntmps49
    go_wp2_with fail
    refine (stopped_no g _ d k w H.out).mono ?_
    rintro r w1 ⟨rfl, rfl⟩
    go_wp2_with fail
    refine HNU.out.mono ?_
    rintro r w2 ⟨rfl, m, rfl⟩
    go_wp2
    go_quiet (fail)
    go_wp2_with fail
    refine (rfail_any g 30 _ d k _ (H.out.drewN _)).mono ?_
    rintro r w3 ⟨rfl, hL⟩
    have HL := hid (((RLeft.refl H.out).drewN _).trans hL)
    clear hL
    go_wp2
    go_ret
    exact ⟨rfl, HL.out⟩
set_option maxRecDepth 100000 in
set_option maxHeartbeats 2000000 in
theorem rBytes_ok (g : Nat) (v : Value) (d : List UInt8) (k : Nat) (max : Int) (w : World) (h : RAt w g 0 v d k) (n s : Nat) (hn : Pk.num max 0 0 (d.drop k) = (n, s, 0)) (hin : k + s + n ≤ d.length) :
    Calls Try.prog 49 #[.pointer (some ⟨g, 0, none⟩), .int .i64 max] w fun r w' => ∃ A c, r = .returned (.slice A n c) ∧ OwnB w' w.heap.size (.slice A n c) ((d.drop (k + s)).take n) ∧ RLeft w w' g v d 0 (k + s + n) := by
  have H := hid h
  have hsm := h.small
  have hle := h.le
  have HNU := hid (number_any g 0 v d k max w h)
  have HNE : Hid (d ≠ []) := hid fun e => by rw [e] at hn; simp [Pk.num] at hn
  rw [hn] at HNU
  simp only at HNU
  clear hn
  have e1 : IntKind.i64.wrap ((d.length : Int) - k) = (d.length : Int) - k := by rw [IntKind.wrap_i64]; omega
  have e2 : IntKind.i64.wrap ((d.length : Int) - k - s) = (d.length : Int) - k - s := by rw [IntKind.wrap_i64]; omega
  have e3 : ¬ ((d.length : Int) - k - s < n) := by omega
  have hform : (v = .slice none 0 0 ∧ d = []) ∨ ∃ b cap, v = .slice (some ⟨b, 0, none⟩) d.length cap ∧ d.length ≤ cap := by
    obtain ⟨_, hv | ⟨b, cap, cur, hv, _, _, hcap, hmax, _⟩⟩ := h.own
    · exact .inl ⟨hv.1, own_none h.own hv.1⟩
    · exact .inr ⟨b, cap, hv, hcap⟩
  have c1 := fun n => (h.drewN n).c1
  have c2 := fun n => (h.drewN n).c2
  have f2 := fun n => (h.drewN n).fz 2
  obtain ⟨A, c, hvv⟩ := h.own.form
  clear h
  obtain ⟨F, hF⟩ : ∃ F, F = k + s := ⟨_, rfl⟩
  obtain ⟨T, hT⟩ : ∃ T, T = F + n := ⟨_, rfl⟩
  rw [← hF] at hin ⊢
  rw [← hT] at hin ⊢
  have q1 : (k : Int) + (s : Int) = (F : Int) := by omega
  have q2 : (F : Int) + (n : Int) = (T : Int) := by omega
  have q3 : T - F = n := by omega
  have q4 : (F : Int) ≤ (T : Int) := by omega
  have q5 : T ≤ 140737488355328 := by omega
  have HF := hid hF
  have HT := hid hT
  have HIN := hid hin
  have HSET : Hid (∀ j, RLeft w ((w.drewN j).setCell ⟨g, 2, none⟩ (.int .i64 (T : Int))) g v d 0 T) := hid fun j => ((RLeft.refl H.out).drewN j).set2 T hin
  clear hF hT
  obtain ⟨L, hL⟩ : ∃ L, (d.drop F).take n = L := ⟨_, rfl⟩
  have HLEN : Hid (L.length = n) := hid (by rw [← hL, List.length_take, List.length_drop]; omega)
  have HLd := hid hL
  rw [hL]
  clear hL
  rcases hform with ⟨hv, hd⟩ | ⟨b, cap, hv, hcap⟩
  case inl => exact absurd hd HNE.out
  case' inr =>
    subst hv
    clear hvv
    by_cases hkc : F = cap
    case' pos =>
      have hn0 : n = 0 := by omega
      have hTF : T = F := by omega
      have hP : L = [] := by rw [← HLd.out, hn0, List.take_zero]
      subst hkc hTF
      clear q2 q3
      have HP := hid hP
      clear hP
      go_enter Try.func49, Try.ntmps49
      go_wp2_with fail
      refine (stopped_no g _ d k w H.out).mono ?_
      rintro r w1 ⟨rfl, rfl⟩
      go_wp2_with fail
      refine HNU.out.mono ?_
      rintro r w2 ⟨rfl, m, rfl⟩
      go_wp2
      go_quiet (fail)
      go_wp2
      refine Code.seen (fun W => RLeft w1 W g (.slice (some ⟨b, 0, none⟩) d.length T) d 0 T) (HSET.out _) fun w2 H2 => ?_
      clear c1 c2 f2
      have c1 := H2.out.1.c1
      have c2 := H2.out.1.c2
      go_still_tail 10, (by kernel_rfl)
      change wpList _ _ _ _ _ w2.drew
      have HSL : Hid (SlB w2.drew (.slice (some ⟨b, 0, none⟩) 0 0) L) := hid (by rw [HP.out]; exact ⟨_, _, rfl, Nat.le_refl _, (fun h => by cases h), fun h => absurd h (by simp)⟩)
      clear HP
    case' neg =>
      have q6 : T ≤ cap := by omega
      go_enter Try.func49, Try.ntmps49
      go_wp2_with fail
      refine (stopped_no g _ d k w H.out).mono ?_
      rintro r w1 ⟨rfl, rfl⟩
      go_wp2_with fail
      refine HNU.out.mono ?_
      rintro r w2 ⟨rfl, m, rfl⟩
      go_wp2
      go_quiet (fail)
      go_wp2
      refine Code.seen (fun W => RLeft w1 W g (.slice (some ⟨b, 0, none⟩) d.length cap) d 0 T) (HSET.out _) fun w2 H2 => ?_
      clear c1 c2 f2
      have c1 := H2.out.1.c1
      have c2 := H2.out.1.c2
      go_still_tail 10, (by kernel_rfl)
      change wpList _ _ _ _ _ w2.drew
      have HSL : Hid (SlB w2.drew (.slice (some ⟨b, F, none⟩) n (cap - F)) L) := hid (by rw [← HLd.out]; exact own_part (H2.out.1.drewN 1).own F n (by omega) _ (by omega))
  all_goals
    go_wp2_with fail
    refine (clone_any _ L w2.drew HSL.out (by rw [HLEN.out]; omega)).mono ?_
    rintro r w3 ⟨u, rfl, ho, hb⟩
    obtain ⟨A3, c3, rfl⟩ := ho.form
    rw [HLEN.out] at ho ⊢
    have HO := hid ho
    have HB := hid hb
    clear ho hb
    go_wp2
    go_ret
    refine ⟨A3, c3, ?_, own_base HO.out H2.out.2.size, (H2.out.drewN 1).below HB.out⟩
    first | rfl | (rw [hn0]; rfl)
set_option maxHeartbeats 1000000 in
theorem rText_of (g : Nat) (max : Int) (w : World) (L : List UInt8) (Φ : World → Prop)
    (hB : Calls Try.prog 49 #[.pointer (some ⟨g, 0, none⟩), .int .i64 max] w fun r w' => ∃ v, r = .returned v ∧ SlB w' v L ∧ Φ w') :
    Calls Try.prog 50 #[.pointer (some ⟨g, 0, none⟩), .int .i64 max] w fun r w' => r = .returned (.string (str L)) ∧ Φ w' := by
  go_enter Try.func50, Try.ntmps50
  go_wp2_with fail
  refine hB.mono ?_
  rintro r w1 ⟨v, rfl, hs, hp⟩
  have k1 := conv_str hs
  have HP := hid hp
  clear hs hp
  go_wp2
  go_ret
  exact ⟨rfl, HP.out⟩
set_option maxHeartbeats 1000000 in
theorem rEnd_no (g : Nat) (e : Int) (v : Value) (d : List UInt8) (k : Nat) (w : World) (he : e ≠ 0) (h : RAt w g e v d k) :
    Calls Try.prog 21 #[.pointer (some ⟨g, 0, none⟩)] w fun r w' => r = .returned (.tuple #[]) ∧ RLeft w w' g v d e k := by
  have H := hid h
  have HE := hid he
  clear h he
  go_enter Try.func21, Try.ntmps21
  go_wp2
  go_quiet (first | (go_at_call 52; exact Calls.quiet_of_same (stopped_yes g e v d k _ HE.out (H.out.drewN _))))
  go_wp2
  go_returns
  exact ⟨rfl, (RLeft.refl H.out).drewN _⟩
set_option maxHeartbeats 1000000 in
theorem rEnd_ok (g : Nat) (v : Value) (d : List UInt8) (k : Nat) (w : World) (hk : k = d.length) (h : RAt w g 0 v d k) :
    Calls Try.prog 21 #[.pointer (some ⟨g, 0, none⟩)] w fun r w' => r = .returned (.tuple #[]) ∧ RLeft w w' g v d 0 k := by
  have H := hid h
  have c1 := fun n => (h.drewN n).c1
  have c2 := fun n => (h.drewN n).c2
  obtain ⟨A, c, rfl⟩ := h.own.form
  have hk4 : decide ((k : Int) < (d.length : Int)) = false := by simp; omega
  have hk5 : ¬ k < d.length := by omega
  clear h hk
  go_enter Try.func21, Try.ntmps21
  go_wp2
  go_quiet (first | (go_at_call 52; exact Calls.quiet_of_same (stopped_no g _ d k _ (H.out.drewN _))))
  go_wp2
  go_returns
  exact ⟨rfl, (RLeft.refl H.out).drewN _⟩
set_option maxHeartbeats 1000000 in
theorem rEnd_rest (g : Nat) (v : Value) (d : List UInt8) (k : Nat) (w : World) (hk : k < d.length) (h : RAt w g 0 v d k) :
    Calls Try.prog 21 #[.pointer (some ⟨g, 0, none⟩)] w fun r w' => r = .returned (.tuple #[]) ∧ RLeft w w' g v d 35 k := by
  have H := hid h
  have c1 := fun n => (h.drewN n).c1
  have c2 := fun n => (h.drewN n).c2
  obtain ⟨A, c, rfl⟩ := h.own.form
  clear h
  go_enter Try.func21, Try.ntmps21
  go_wp2
  go_quiet (first | (go_at_call 52; exact Calls.quiet_of_same (stopped_no g _ d k _ (H.out.drewN _))))
  go_wp2_with fail
  refine (rfail_any g 35 _ d k _ (H.out.drewN _)).mono ?_
  rintro r w3 ⟨rfl, hL⟩
  have HL := hid (((RLeft.refl H.out).drewN _).trans hL)
  clear hL
  go_wp2
  go_returns
  exact ⟨rfl, HL.out⟩
end Go.Proofs.Ytamhlfhblgmhoaa
