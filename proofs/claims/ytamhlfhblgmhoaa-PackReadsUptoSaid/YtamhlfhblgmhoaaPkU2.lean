/- The walks of the document's reader: Bytes, Text; every answer in one word. -/
import Derived.Test.YtamhlfhblgmhoaaPkU
import Derived.Deep.RegionLaw
namespace Go.Proofs.Ytamhlfhblgmhoaa
open Go.RowKit
set_option maxRecDepth 100000 in
set_option maxHeartbeats 2000000 in
theorem qBytes_err (g : Nat) (v : Value) (d : List UInt8) (k : Nat) (max : Int) (w : World) (h : QAt w g 0 v d k) (E : Int) (hE : E ≠ 0) (hn : (Pk.num max 0 0 (d.drop k)).2.2 = E) :
    Calls Try.prog 57 #[.pointer (some ⟨g, 0, none⟩), .int .i64 max] w fun r w' => r = .returned (.slice none 0 0) ∧ QLeft w w' g v d E k := by
  have H := hid h
  have c0 := fun n => (h.drewN n).c0
  have c1 := fun n => (h.drewN n).c1
  have c2 := h.c2
  have d2 := fun n => (h.drewN n).c2
  have f1 := fun n => (h.drewN n).fz 1
  have f2 := fun n => (h.drewN n).fz 2
  have hsm := h.small
  have hk := h.le
  have hf := q_form h
  clear h
  obtain ⟨L, hL⟩ : ∃ L, d.drop k = L := ⟨_, rfl⟩
  rw [hL] at hn
  have HLd := hid hL
  have hLs : L.length ≤ 140737488355328 := by rw [← hL, List.length_drop]; omega
  clear hL
  have HNU := hid (fun u m (hu : SlB (w.drewN m) u L) => vnumber_any u L max (w.drewN m) hu hLs)
  unfold nres at HNU
  obtain ⟨R, hR⟩ : ∃ R, Pk.num max 0 0 L = R := ⟨_, rfl⟩
  rw [hR] at HNU hn
  clear hR
  obtain ⟨n, s, E'⟩ := R
  simp only at HNU hn
  subst hn
  have hq : (E' != 0) = true := by rw [bne_iff_ne]; exact hE
  clear hE
  rcases hf with rfl | ⟨b, cap, rfl, hcap⟩
  case' inl =>
    obtain ⟨rfl, rfl⟩ := rest_none H.out
    have HSL : Hid (∀ m, SlB (w.drewN m) (.slice none 0 0) L) := hid fun m => by rw [← HLd.out]; exact Sl.nil _ _
  case' inr =>
    by_cases hkc : k = cap
    case' pos =>
      have HSL : Hid (∀ m, SlB (w.drewN m) (.slice (some ⟨b, 0, none⟩) 0 0) L) := hid fun m => by
        have hz : L = [] := by rw [← HLd.out]; exact List.drop_eq_nil_of_le (by omega)
        rw [hz]; exact ⟨_, _, rfl, Nat.le_refl _, (fun h => by cases h), fun h => absurd h (by simp)⟩
      subst hkc
    case' neg =>
      have HSL : Hid (∀ m, SlB (w.drewN m) (.slice (some ⟨b, k, none⟩) (d.length - k) (cap - k)) L) := hid fun m => by
        rw [← HLd.out]
        exact own_drop (H.out.drewN m).own k hk _ (by omega)
  all_goals
    go_enter Try.func57, Try.ntmps57
    go_wp2
    go_quiet (first | (go_at_call 63; exact Calls.quiet_of_same (HNU.out _ _ (HSL.out _))))
    go_wp2
    go_ret
    exact ⟨rfl, ((QLeft.refl H.out).drewN _).set2 E'⟩
set_option maxRecDepth 100000 in
set_option maxHeartbeats 2000000 in
theorem qBytes_short (g : Nat) (v : Value) (d : List UInt8) (k : Nat) (max : Int) (w : World) (h : QAt w g 0 v d k) (n s : Nat) (hn : Pk.num max 0 0 (d.drop k) = (n, s, 0)) (hin : d.length < k + s + n) :
    Calls Try.prog 57 #[.pointer (some ⟨g, 0, none⟩), .int .i64 max] w fun r w' => r = .returned (.slice none 0 0) ∧ QLeft w w' g v d 30 k := by
  have H := hid h
  have c0 := fun n => (h.drewN n).c0
  have c1 := fun n => (h.drewN n).c1
  have c2 := h.c2
  have d2 := fun n => (h.drewN n).c2
  have f1 := fun n => (h.drewN n).fz 1
  have f2 := fun n => (h.drewN n).fz 2
  have hsm := h.small
  have hk := h.le
  have hs9 : k + s ≤ d.length := by have h2 := num_len max (d.drop k); rw [hn, List.length_drop] at h2; simp only at h2; omega
  obtain ⟨F, hF⟩ : ∃ F, F = k + s := ⟨_, rfl⟩
  rw [← hF] at hin hs9
  have q1 : (k : Int) + (s : Int) = (F : Int) := by omega
  have q3 : (d.length : Int) - (F : Int) < (n : Int) := by omega
  clear hF
  have hf := q_form h
  clear h
  obtain ⟨L, hL⟩ : ∃ L, d.drop k = L := ⟨_, rfl⟩
  rw [hL] at hn
  have HLd := hid hL
  have hLs : L.length ≤ 140737488355328 := by rw [← hL, List.length_drop]; omega
  clear hL
  have HNU := hid (fun u m (hu : SlB (w.drewN m) u L) => vnumber_any u L max (w.drewN m) hu hLs)
  unfold nres at HNU
  rw [hn] at HNU
  simp only at HNU
  clear hn
  rcases hf with rfl | ⟨b, cap, rfl, hcap⟩
  case' inl =>
    obtain ⟨rfl, rfl⟩ := rest_none H.out
    have HSL : Hid (∀ m, SlB (w.drewN m) (.slice none 0 0) L) := hid fun m => by rw [← HLd.out]; exact Sl.nil _ _
  case' inr =>
    by_cases hkc : k = cap
    case' pos =>
      have HSL : Hid (∀ m, SlB (w.drewN m) (.slice (some ⟨b, 0, none⟩) 0 0) L) := hid fun m => by
        have hz : L = [] := by rw [← HLd.out]; exact List.drop_eq_nil_of_le (by omega)
        rw [hz]; exact ⟨_, _, rfl, Nat.le_refl _, (fun h => by cases h), fun h => absurd h (by simp)⟩
      subst hkc
    case' neg =>
      have HSL : Hid (∀ m, SlB (w.drewN m) (.slice (some ⟨b, k, none⟩) (d.length - k) (cap - k)) L) := hid fun m => by
        rw [← HLd.out]
        exact own_drop (H.out.drewN m).own k hk _ (by omega)
  all_goals
    go_enter Try.func57, Try.ntmps57
    go_wp2
    go_quiet (first | (go_at_call 63; exact Calls.quiet_of_same (HNU.out _ _ (HSL.out _))))
    go_wp2
    go_ret
    exact ⟨rfl, ((QLeft.refl H.out).drewN _).set2 30⟩
set_option maxRecDepth 100000 in
set_option maxHeartbeats 4000000 in
theorem qBytes_ok (g : Nat) (v : Value) (d : List UInt8) (k : Nat) (max : Int) (w : World) (h : QAt w g 0 v d k) (n s : Nat) (hn : Pk.num max 0 0 (d.drop k) = (n, s, 0)) (hin : k + s + n ≤ d.length) :
    Calls Try.prog 57 #[.pointer (some ⟨g, 0, none⟩), .int .i64 max] w fun r w' => ∃ A c, r = .returned (.slice A n c) ∧ SlB w' (.slice A n c) ((d.drop (k + s)).take n) ∧ QLeft w w' g v d 0 (k + s + n) := by
  have H := hid h
  have c0 := fun n => (h.drewN n).c0
  have c1 := fun n => (h.drewN n).c1
  have c2 := h.c2
  have d2 := fun n => (h.drewN n).c2
  have f1 := fun n => (h.drewN n).fz 1
  have f2 := fun n => (h.drewN n).fz 2
  have hsm := h.small
  have hk := h.le
  have HNE : Hid (d ≠ []) := hid fun e => by rw [e] at hn; simp [Pk.num] at hn
  obtain ⟨b, cap, rfl, _, hcap, _⟩ := h.own.some_ (List.length_pos_iff.2 HNE.out)
  have hkc : ¬ k = cap := fun e => by
    rw [List.drop_eq_nil_of_le (by omega)] at hn; simp [Pk.num] at hn
  obtain ⟨F, hF⟩ : ∃ F, F = k + s := ⟨_, rfl⟩
  obtain ⟨T, hT⟩ : ∃ T, T = F + n := ⟨_, rfl⟩
  rw [← hF] at hin ⊢
  rw [← hT] at hin ⊢
  have q1 : (k : Int) + (s : Int) = (F : Int) := by omega
  have q2 : (F : Int) + (n : Int) = (T : Int) := by omega
  have q3 : ¬ ((d.length : Int) - (F : Int) < (n : Int)) := by omega
  have q4 : (F : Int) ≤ (T : Int) := by omega
  have q5 : T ≤ 140737488355328 := by omega
  have q6 : T ≤ cap := by omega
  have q7 : T - F = n := by omega
  have HF := hid hF
  have HT := hid hT
  have HSET : Hid (∀ j, QLeft w ((w.drewN j).setCell ⟨g, 1, none⟩ (.int .i64 (T : Int))) g (.slice (some ⟨b, 0, none⟩) d.length cap) d 0 T) := hid fun j => ((QLeft.refl H.out).drewN j).set1 T hin
  clear hF hT
  obtain ⟨D, hD⟩ : ∃ D, (d.drop F).take n = D := ⟨_, rfl⟩
  have HLEN : Hid (D.length = n) := hid (by rw [← hD, List.length_take, List.length_drop]; omega)
  have HDD := hid hD
  rw [hD]
  clear hD
  clear h
  obtain ⟨L, hL⟩ : ∃ L, d.drop k = L := ⟨_, rfl⟩
  rw [hL] at hn
  have HLd := hid hL
  have hLs : L.length ≤ 140737488355328 := by rw [← hL, List.length_drop]; omega
  clear hL
  have HNU := hid (fun u m (hu : SlB (w.drewN m) u L) => vnumber_any u L max (w.drewN m) hu hLs)
  unfold nres at HNU
  rw [hn] at HNU
  simp only at HNU
  clear hn
  have HSL : Hid (∀ m, SlB (w.drewN m) (.slice (some ⟨b, k, none⟩) (d.length - k) (cap - k)) L) := hid fun m => by
    rw [← HLd.out]
    exact own_drop (H.out.drewN m).own k hk _ (by omega)
  by_cases hkF : F = cap
  case' pos =>
    have hn0 : n = 0 := by omega
    have hTF : T = F := by omega
    have hP : D = [] := by rw [← HDD.out, hn0, List.take_zero]
    have HP := hid hP
    subst hkF hTF
    clear hP q2 q7
    have hcF : True := trivial
    go_enter Try.func57, Try.ntmps57
    go_wp2
    go_quiet (first | (go_at_call 63; exact Calls.quiet_of_same (HNU.out _ _ (HSL.out _))))
    go_wp2
    refine Code.seen (fun W => QLeft w W g (.slice (some ⟨b, 0, none⟩) d.length T) d 0 T) (HSET.out _) fun w2 H2 => ?_
    obtain ⟨UV, hUV⟩ : ∃ U, U = Value.slice (some ⟨b, 0, none⟩) 0 0 := ⟨_, rfl⟩
    have HSD : Hid (SlB w2 UV D) := hid (by rw [HP.out, hUV]; exact ⟨_, _, rfl, Nat.le_refl _, (fun h => by cases h), fun h => absurd h (by simp)⟩)
  case' neg =>
    have hcF : ¬ cap = F := fun e => hkF e.symm
    go_enter Try.func57, Try.ntmps57
    go_wp2
    go_quiet (first | (go_at_call 63; exact Calls.quiet_of_same (HNU.out _ _ (HSL.out _))))
    go_wp2
    refine Code.seen (fun W => QLeft w W g (.slice (some ⟨b, 0, none⟩) d.length cap) d 0 T) (HSET.out _) fun w2 H2 => ?_
    obtain ⟨UV, hUV⟩ : ∃ U, U = Value.slice (some ⟨b, F, none⟩) n (cap - F) := ⟨_, rfl⟩
    have HSD : Hid (SlB w2 UV D) := hid (by rw [← HDD.out, hUV]; exact own_part H2.out.1.own F n (by omega) _ (by omega))
  all_goals
    have HUV := hid hUV
    clear hUV HSET c0 c1 c2 d2 f1 f2
    have p0 := H2.out.1.c0
    have p1 := H2.out.1.c1
    have r0 := (H2.out.1.below ((Below.refl _ _).alloc (Nat.le_refl _) (.cells #[] 5))).c0
    have r1 := (H2.out.1.below ((Below.refl _ _).alloc (Nat.le_refl _) (.cells #[] 5))).c1
    have hl0 : ([] : List UInt8).length + D.length ≤ 140737488355328 := by rw [HLEN.out, List.length_nil]; omega
    go_region_law (first
      | (refine step_appB rfl (.tmp 59) (.tmp 69) rfl w2.heap.size (.slice (some ⟨w2.heap.size, 0, none⟩) 0 0) UV [] D (by simp [Act.eval, Act.put]) (by rw [HUV.out]; simp [Act.eval, Act.put, hcF]) (by exact OwnB.drew (lit0 w2)) (by exact HSD.out.below (((Below.refl _ _).alloc (Nat.le_refl _) _).drew)) hl0 (by simp) ?_; intro v3 w3 ho3 hg3; have HB := hid (OwnB.grown (((Below.refl w2.heap.size w2).alloc (Nat.le_refl _) _).drew) (OwnB.drew (lit0 w2)) (Nat.le_refl _) (by simp) hg3); rw [List.nil_append] at ho3; have HO := hid ho3; clear ho3 hg3))
    all_goals
      obtain ⟨A3, c3, e3⟩ := HO.out.form
      rw [HLEN.out] at e3
      subst e3
      go_simp
      go_wp2
      go_ret
      refine ⟨A3, c3, ?_, HO.out.sl, H2.out.below HB.out⟩
      first | rfl | (rw [hn0]; rfl)
theorem qText_of (g : Nat) (max : Int) (w : World) (L : List UInt8) (Φ : World → Prop)
    (hB : Calls Try.prog 57 #[.pointer (some ⟨g, 0, none⟩), .int .i64 max] w fun r w' => ∃ v, r = .returned v ∧ SlB w' v L ∧ Φ w') :
    Calls Try.prog 58 #[.pointer (some ⟨g, 0, none⟩), .int .i64 max] w fun r w' => r = .returned (.string (str L)) ∧ Φ w' := by
  go_enter Try.func58, Try.ntmps58
  go_wp2_with fail
  refine hB.mono ?_
  rintro r w1 ⟨v, rfl, hs, hp⟩
  have k1 := conv_str hs
  have HP := hid hp
  clear hs hp
  go_wp2
  go_ret
  exact ⟨rfl, HP.out⟩
/-! every answer in one word -/
section
variable {g : Nat} {e : Int} {v : Value} {d : List UInt8} {k : Nat} {w : World}
theorem qUint_o (max : Int) (h : QAt w g e v d k) :
    Calls Try.prog 54 #[.pointer (some ⟨g, 0, none⟩), .int .i64 max] w fun r w' => r = .returned (.int .i64 (uo e d k max).1) ∧ QLeft w w' g v d (uo e d k max).2.1 (uo e d k max).2.2 := by
  unfold uo
  by_cases he : e = 0
  · subst he; simp only [if_true]; exact qUint_ok g v d k max w h
  · rw [if_neg he]; exact qUint_no g e v d k max w he h
theorem rUint_o (max : Int) (h : RAt w g e v d k) :
    Calls Try.prog 23 #[.pointer (some ⟨g, 0, none⟩), .int .i64 max] w fun r w' => r = .returned (.int .i64 (uo e d k max).1) ∧ RLeft w w' g v d (uo e d k max).2.1 (uo e d k max).2.2 := by
  unfold uo
  by_cases he : e = 0
  · subst he; simp only [if_true]; exact rUint_ok g v d k max w h
  · rw [if_neg he]; exact (rUint_no g e v d k max w he h).mono fun _ _ h2 => by obtain ⟨rfl, rfl⟩ := h2; exact ⟨rfl, RLeft.refl h⟩
theorem qByte_o (h : QAt w g e v d k) :
    Calls Try.prog 55 #[.pointer (some ⟨g, 0, none⟩)] w fun r w' => r = .returned (B (byo e d k).1) ∧ QLeft w w' g v d (byo e d k).2.1 (byo e d k).2.2 := by
  unfold byo
  by_cases he : e = 0
  · subst he; simp only [if_true]
    by_cases hk : k < d.length
    · rw [if_pos hk]; exact qByte_ok g v d k w h hk
    · rw [if_neg hk]; exact qByte_end g v d k w h hk
  · rw [if_neg he]; exact qByte_no g e v d k w he h
theorem rByte_o (h : RAt w g e v d k) :
    Calls Try.prog 22 #[.pointer (some ⟨g, 0, none⟩)] w fun r w' => r = .returned (B (byo e d k).1) ∧ RLeft w w' g v d (byo e d k).2.1 (byo e d k).2.2 := by
  unfold byo
  by_cases he : e = 0
  · subst he; simp only [if_true]
    by_cases hk : k < d.length
    · rw [if_pos hk]; exact rByte_ok g v d k w h hk
    · rw [if_neg hk]; exact rByte_end g v d k w h (by omega)
  · rw [if_neg he]; exact (rByte_no g e v d k w he h).mono fun _ _ h2 => by obtain ⟨rfl, rfl⟩ := h2; exact ⟨rfl, RLeft.refl h⟩
theorem qBool_o (h : QAt w g e v d k) :
    Calls Try.prog 56 #[.pointer (some ⟨g, 0, none⟩)] w fun r w' => r = .returned (.bool (boo e d k).1) ∧ QLeft w w' g v d (boo e d k).2.1 (boo e d k).2.2 := by
  unfold boo
  by_cases he : e = 0
  · subst he; simp only [if_true]
    by_cases hk : k < d.length
    · rw [if_pos hk]
      by_cases hb : (d.getD k 0).toNat ≤ 1
      · rw [if_pos hb]; exact qBool_ok g v d k w h hk hb
      · rw [if_neg hb]; exact qBool_bad g v d k w h hk hb
    · rw [if_neg hk]; exact qBool_end g v d k w h hk
  · rw [if_neg he]; exact qBool_no g e v d k w he h
theorem rBool_o (h : RAt w g e v d k) :
    Calls Try.prog 48 #[.pointer (some ⟨g, 0, none⟩)] w fun r w' => r = .returned (.bool (boo e d k).1) ∧ RLeft w w' g v d (boo e d k).2.1 (boo e d k).2.2 := by
  unfold boo
  by_cases he : e = 0
  · subst he; simp only [if_true]
    by_cases hk : k < d.length
    · rw [if_pos hk]
      by_cases hb : (d.getD k 0).toNat ≤ 1
      · rw [if_pos hb]; exact rBool_ok g v d k w h hk hb
      · rw [if_neg hb]; exact rBool_bad g v d k w h hk (by omega)
    · rw [if_neg hk]; exact rBool_end g v d k w h (by omega)
  · rw [if_neg he]; exact (rBool_no g e v d k w he h).mono fun _ _ h2 => by obtain ⟨rfl, rfl⟩ := h2; exact ⟨rfl, RLeft.refl h⟩
theorem qEnd_o (h : QAt w g e v d k) :
    Calls Try.prog 59 #[.pointer (some ⟨g, 0, none⟩)] w fun r w' => r = .returned (.tuple #[]) ∧ QLeft w w' g v d (eno e d k) k := by
  unfold eno
  by_cases he : e = 0
  · subst he; simp only [if_true]
    by_cases hk : k < d.length
    · rw [if_pos hk]; exact qEnd_rest g v d k w hk h
    · rw [if_neg hk]; exact qEnd_ok g v d k w hk h
  · rw [if_neg he]; exact qEnd_no g e v d k w he h
theorem rEnd_o (h : RAt w g e v d k) :
    Calls Try.prog 21 #[.pointer (some ⟨g, 0, none⟩)] w fun r w' => r = .returned (.tuple #[]) ∧ RLeft w w' g v d (eno e d k) k := by
  unfold eno
  by_cases he : e = 0
  · subst he; simp only [if_true]
    by_cases hk : k < d.length
    · rw [if_pos hk]; exact rEnd_rest g v d k w hk h
    · rw [if_neg hk]; exact rEnd_ok g v d k w (by have := h.le; omega) h
  · rw [if_neg he]; exact rEnd_no g e v d k w he h
theorem qBytes_o (max : Int) (h : QAt w g e v d k) :
    Calls Try.prog 57 #[.pointer (some ⟨g, 0, none⟩), .int .i64 max] w fun r w' => ∃ u, r = .returned u ∧ SlB w' u (bso e d k max).1 ∧ QLeft w w' g v d (bso e d k max).2.1 (bso e d k max).2.2 := by
  unfold bso
  by_cases he : e = 0
  · subst he; simp only [if_true]
    by_cases hE : (Pk.num max 0 0 (d.drop k)).2.2 = 0
    · rw [if_pos hE]
      have hn : Pk.num max 0 0 (d.drop k) = ((Pk.num max 0 0 (d.drop k)).1, (Pk.num max 0 0 (d.drop k)).2.1, 0) := by rw [← hE]
      by_cases hin : k + (Pk.num max 0 0 (d.drop k)).2.1 + (Pk.num max 0 0 (d.drop k)).1 ≤ d.length
      · rw [if_pos hin]
        refine (qBytes_ok g v d k max w h _ _ hn hin).mono ?_
        rintro r w' ⟨A, c, rfl, h1, h2⟩
        exact ⟨_, rfl, h1, h2⟩
      · rw [if_neg hin]
        refine (qBytes_short g v d k max w h _ _ hn (by omega)).mono ?_
        rintro r w' ⟨rfl, h2⟩
        exact ⟨_, rfl, Sl.nil _ _, h2⟩
    · rw [if_neg hE]
      refine (qBytes_err g v d k max w h _ hE rfl).mono ?_
      rintro r w' ⟨rfl, h2⟩
      exact ⟨_, rfl, Sl.nil _ _, h2⟩
  · rw [if_neg he]
    refine (qBytes_no g e v d k max w he h).mono ?_
    rintro r w' ⟨rfl, h2⟩
    exact ⟨_, rfl, Sl.nil _ _, h2⟩
theorem rBytes_o (max : Int) (h : RAt w g e v d k) :
    Calls Try.prog 49 #[.pointer (some ⟨g, 0, none⟩), .int .i64 max] w fun r w' => ∃ A c, r = .returned (.slice A (bso e d k max).1.length c) ∧ OwnB w' w.heap.size (.slice A (bso e d k max).1.length c) (bso e d k max).1 ∧ RLeft w w' g v d (bso e d k max).2.1 (bso e d k max).2.2 := by
  unfold bso
  by_cases he : e = 0
  · subst he; simp only [if_true]
    by_cases hE : (Pk.num max 0 0 (d.drop k)).2.2 = 0
    · rw [if_pos hE]
      have hn : Pk.num max 0 0 (d.drop k) = ((Pk.num max 0 0 (d.drop k)).1, (Pk.num max 0 0 (d.drop k)).2.1, 0) := by rw [← hE]
      by_cases hin : k + (Pk.num max 0 0 (d.drop k)).2.1 + (Pk.num max 0 0 (d.drop k)).1 ≤ d.length
      · rw [if_pos hin]
        refine (rBytes_ok g v d k max w h _ _ hn hin).mono ?_
        rintro r w' ⟨A, c, rfl, h1, h2⟩
        have hl : ((d.drop (k + (Pk.num max 0 0 (d.drop k)).2.1)).take (Pk.num max 0 0 (d.drop k)).1).length = (Pk.num max 0 0 (d.drop k)).1 := by rw [List.length_take, List.length_drop]; omega
        simp only
        rw [hl]
        exact ⟨_, _, rfl, h1, h2⟩
      · rw [if_neg hin]
        refine (rBytes_err g v d k max w h 30 (by decide) (.inr ⟨hE, rfl, by omega⟩)).mono ?_
        rintro r w' ⟨rfl, h2⟩
        exact ⟨none, 0, rfl, OwnB.nil _ _, h2⟩
    · rw [if_neg hE]
      refine (rBytes_err g v d k max w h _ hE (.inl rfl)).mono ?_
      rintro r w' ⟨rfl, h2⟩
      exact ⟨none, 0, rfl, OwnB.nil _ _, h2⟩
  · rw [if_neg he]
    refine (rBytes_no g e v d k max w he h).mono ?_
    rintro r w' ⟨rfl, rfl⟩
    exact ⟨none, 0, rfl, OwnB.nil _ _, RLeft.refl h⟩
theorem qText_o (max : Int) (h : QAt w g e v d k) :
    Calls Try.prog 58 #[.pointer (some ⟨g, 0, none⟩), .int .i64 max] w fun r w' => r = .returned (.string (str (bso e d k max).1)) ∧ QLeft w w' g v d (bso e d k max).2.1 (bso e d k max).2.2 :=
  qText_of g max w _ _ (qBytes_o max h)
theorem rText_o (max : Int) (h : RAt w g e v d k) :
    Calls Try.prog 50 #[.pointer (some ⟨g, 0, none⟩), .int .i64 max] w fun r w' => r = .returned (.string (str (bso e d k max).1)) ∧ RLeft w w' g v d (bso e d k max).2.1 (bso e d k max).2.2 :=
  rText_of g max w _ _ ((rBytes_o max h).mono fun _ _ h2 => by obtain ⟨A, c, rfl, h3, h4⟩ := h2; exact ⟨_, rfl, h3.sl, h4⟩)
end
end Go.Proofs.Ytamhlfhblgmhoaa
