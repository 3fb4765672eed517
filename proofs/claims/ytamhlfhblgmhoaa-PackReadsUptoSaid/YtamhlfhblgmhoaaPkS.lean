/- The walks of package pack: the reader's methods. -/
import Derived.Test.YtamhlfhblgmhoaaPkR
import Derived.StillTailTactics
namespace Go.Proofs.Ytamhlfhblgmhoaa
open Go.RowKit
theorem num_len (max : Int) (l : List UInt8) : (Pk.num max 0 0 l).2.1 ≤ l.length := by
  by_cases h : (Pk.num max 0 0 l).2.2 = 0
  · obtain ⟨n, rest, h1, _, h3, _⟩ := Pk.num_back max l 0 0 (Pk.num max 0 0 l).1 (Pk.num max 0 0 l).2.1 (by rw [← h])
    rw [h3, h1]; simp
  · rw [(Pk.num_err max l 0 0 h).2]; omega
theorem num_nine (max : Int) (l : List UInt8) : (Pk.num max 0 0 l).2.1 ≤ 9 ∧ (Pk.num max 0 0 l).1 ≤ 9223372036854775807 := by
  by_cases h : (Pk.num max 0 0 l).2.2 = 0
  · obtain ⟨n, rest, h1, h2, h3, _, h5, _⟩ := Pk.num_back max l 0 0 (Pk.num max 0 0 l).1 (Pk.num max 0 0 l).2.1 (by rw [← h])
    have := Pk.form_lt n
    have h6 : 2 ^ (7 * (Pk.form n).length) ≤ 2 ^ 63 := Nat.pow_le_pow_right (by decide) (by omega)
    rw [h2, h3]; simp; omega
  · rw [(Pk.num_err max l 0 0 h).2, (Pk.num_err max l 0 0 h).1]; omega
/-- what a call leaves of a reader -/
def RLeft (w w' : World) (g : Nat) (v : Value) (d : List UInt8) (e : Int) (k : Nat) : Prop := RAt w' g e v d k ∧ Fr (fun b => b = g) w w'
theorem RAt.set0 {w : World} {g : Nat} {e : Int} {v : Value} {d : List UInt8} {k : Nat} (h : RAt w g e v d k) (c : Int) : RAt (w.setCell ⟨g, 0, none⟩ (.int .i64 c)) g c v d k :=
  ⟨by rw [blk_set h.at_]; rfl, h.own.fr (Fr.set_ _ _) (fun b hb e => by subst e; exact h.ne hb), h.ne, h.le, h.small⟩
theorem RAt.set2 {w : World} {g : Nat} {e : Int} {v : Value} {d : List UInt8} {k : Nat} (h : RAt w g e v d k) (j : Nat) (hj : j ≤ d.length) : RAt (w.setCell ⟨g, 2, none⟩ (.int .i64 j)) g e v d j :=
  ⟨by rw [blk_set h.at_]; rfl, h.own.fr (Fr.set_ _ _) (fun b hb e => by subst e; exact h.ne hb), h.ne, hj, h.small⟩
theorem RLeft.refl {w : World} {g : Nat} {e : Int} {v : Value} {d : List UInt8} {k : Nat} (h : RAt w g e v d k) : RLeft w w g v d e k := ⟨h, Fr.refl _ _⟩
theorem RLeft.drewN {w w1 : World} {g : Nat} {e : Int} {v : Value} {d : List UInt8} {k : Nat} (h : RLeft w w1 g v d e k) (n : Nat) : RLeft w (w1.drewN n) g v d e k :=
  ⟨h.1.drewN n, h.2.trans ((Fr.of_below (below_drewN (Below.refl _ _) n)).mono fun _ _ h => h.elim)⟩
theorem RLeft.below {w w1 w2 : World} {g : Nat} {e : Int} {v : Value} {d : List UInt8} {k : Nat} (h : RLeft w w1 g v d e k) (hb : Below w1.heap.size w1 w2) : RLeft w w2 g v d e k :=
  ⟨h.1.below hb, h.2.trans ((Fr.of_below hb).mono fun _ _ h => h.elim)⟩
theorem RLeft.set0 {w w1 : World} {g : Nat} {e : Int} {v : Value} {d : List UInt8} {k : Nat} (h : RLeft w w1 g v d e k) (c : Int) : RLeft w (w1.setCell ⟨g, 0, none⟩ (.int .i64 c)) g v d c k :=
  ⟨h.1.set0 c, fr_set h.2 rfl _ _⟩
theorem RLeft.set2 {w w1 : World} {g : Nat} {e : Int} {v : Value} {d : List UInt8} {k : Nat} (h : RLeft w w1 g v d e k) (j : Nat) (hj : j ≤ d.length) : RLeft w (w1.setCell ⟨g, 2, none⟩ (.int .i64 j)) g v d e j :=
  ⟨h.1.set2 j hj, fr_set h.2 rfl _ _⟩
theorem RLeft.trans {w w1 w2 : World} {g : Nat} {e e2 : Int} {v : Value} {d : List UInt8} {k k2 : Nat} (h : RLeft w w1 g v d e k) (h2 : RLeft w1 w2 g v d e2 k2) : RLeft w w2 g v d e2 k2 :=
  ⟨h2.1, h.2.trans (h2.2.mono fun _ _ h => .inl h)⟩
set_option maxHeartbeats 1000000 in
theorem stopped_no (g : Nat) (v : Value) (d : List UInt8) (k : Nat) (w : World) (h : RAt w g 0 v d k) :
    Calls Try.prog 52 #[.pointer (some ⟨g, 0, none⟩)] w fun r w' => r = .returned (.bool false) ∧ w' = w := by
  have c0 := h.c0
  clear h
  go_enter Try.func52, Try.ntmps52
  go_wp2
  go_ret
  exact ⟨rfl, rfl⟩
set_option maxHeartbeats 1000000 in
theorem stopped_yes (g : Nat) (e : Int) (v : Value) (d : List UInt8) (k : Nat) (w : World) (he : e ≠ 0) (h : RAt w g e v d k) :
    Calls Try.prog 52 #[.pointer (some ⟨g, 0, none⟩)] w fun r w' => r = .returned (.bool true) ∧ w' = w := by
  have c0 := h.c0
  have hq : (e != 0) = true := by rw [bne_iff_ne]; exact he
  clear h he
  go_enter Try.func52, Try.ntmps52
  go_wp2
  go_ret
  exact ⟨rfl, rfl⟩
set_option maxHeartbeats 1000000 in
theorem rfail_any (g : Nat) (c : Int) (v : Value) (d : List UInt8) (k : Nat) (w : World) (h : RAt w g 0 v d k) :
    Calls Try.prog 33 #[.pointer (some ⟨g, 0, none⟩), .int .i64 c] w fun r w' => r = .returned (.tuple #[]) ∧ RLeft w w' g v d c k := by
  have H := hid h
  have c0 := h.c0
  have c2 := h.fz 0
  clear h
  go_enter Try.func33, Try.ntmps33
  go_wp2
  go_returns
  exact ⟨rfl, (RLeft.refl H.out).set0 c⟩
set_option maxHeartbeats 1000000 in
theorem NewReader_any (v : Value) (d : List UInt8) (w : World) (h : SlB w v d) (hd : d.length ≤ 140737488355328) :
    Calls Try.prog 16 #[v] w fun r w' => ∃ g u, r = .returned (.pointer (some ⟨g, 0, none⟩)) ∧ RAt w' g 0 u d 0 ∧ w.heap.size ≤ g ∧ (∀ b, u.ownBlock = some b → w.heap.size ≤ b) ∧ Below w.heap.size w w' ∧ g < w'.heap.size := by
  go_enter Try.func16, Try.ntmps16
  go_wp2_with fail
  refine (clone_any v d w h hd).mono ?_
  rintro r w1 ⟨u, rfl, ho, hb⟩
  obtain ⟨A, c, rfl⟩ := ho.form
  have HO := hid ho
  have HB := hid hb
  clear ho hb
  go_wp2
  go_ret
  refine ⟨_, _, rfl, ⟨heap_alloc_new _ _, own_base (HO.out.alloc _) (Nat.zero_le _), fun hb => ?_, Nat.zero_le _, hd⟩, HB.out.size, fun b hb => (World.ownsRow.lt HO.out b hb).1, HB.out.alloc HB.out.size _, by simp⟩
  have := (World.ownsRow.lt HO.out _ hb).2
  omega
set_option maxRecDepth 100000 in
set_option maxHeartbeats 1000000 in
theorem rUint_ok (g : Nat) (v : Value) (d : List UInt8) (k : Nat) (max : Int) (w : World) (h : RAt w g 0 v d k) :
    Calls Try.prog 23 #[.pointer (some ⟨g, 0, none⟩), .int .i64 max] w fun r w' =>
      r = .returned (.int .i64 (Pk.num max 0 0 (d.drop k)).1) ∧ RLeft w w' g v d (Pk.num max 0 0 (d.drop k)).2.2 (k + (Pk.num max 0 0 (d.drop k)).2.1) := by
  have H := hid h
  have hle : k + (Pk.num max 0 0 (d.drop k)).2.1 ≤ d.length := by have := h.le; have h2 := num_len max (d.drop k); rw [List.length_drop] at h2; omega
  have hsm := h.small
  have HNU := hid (number_any g 0 v d k max w h)
  clear h
  obtain ⟨R, hR⟩ : ∃ R, Pk.num max 0 0 (d.drop k) = R := ⟨_, rfl⟩
  rw [hR] at HNU hle ⊢
  clear hR
  obtain ⟨n, s, E⟩ := R
  simp only at HNU hle ⊢
  go_enter Try.func23, Try.ntmps23
  go_wp2_with fail
  refine (stopped_no g v d k w H.out).mono ?_
  rintro r w1 ⟨rfl, rfl⟩
  go_wp2_with fail
  refine HNU.out.mono ?_
  rintro r w2 ⟨rfl, m, rfl⟩
  go_wp2_with fail
  refine (rfail_any g E v d k _ (H.out.drewN m)).mono ?_
  rintro r w3 ⟨rfl, hL⟩
  have HL := hid (((RLeft.refl H.out).drewN m).trans hL)
  have c2 := hL.1.c2
  have f2 := hL.1.fz 2
  clear hL
  go_wp2
  go_ret
  exact ⟨rfl, by have := HL.out.set2 (k + s) hle; simpa using this⟩
set_option maxHeartbeats 1000000 in
theorem rUint_no (g : Nat) (e : Int) (v : Value) (d : List UInt8) (k : Nat) (max : Int) (w : World) (he : e ≠ 0) (h : RAt w g e v d k) :
    Calls Try.prog 23 #[.pointer (some ⟨g, 0, none⟩), .int .i64 max] w fun r w' => r = .returned (.int .i64 0) ∧ w' = w := by
  go_enter Try.func23, Try.ntmps23
  go_wp2_with fail
  refine (stopped_yes g e v d k w he h).mono ?_
  rintro r w1 ⟨rfl, rfl⟩
  go_wp2
  go_ret
  exact ⟨rfl, rfl⟩

set_option maxHeartbeats 1000000 in
theorem rByte_end (g : Nat) (v : Value) (d : List UInt8) (k : Nat) (w : World) (h : RAt w g 0 v d k) (hk : d.length ≤ k) :
    Calls Try.prog 22 #[.pointer (some ⟨g, 0, none⟩)] w fun r w' => r = .returned (.int .u8 0) ∧ RLeft w w' g v d 30 k := by
  have H := hid h
  have c1 := fun n => (h.drewN n).c1
  have c2 := fun n => (h.drewN n).c2
  obtain ⟨A, c, rfl⟩ := h.own.form
  clear h
  go_enter Try.func22, Try.ntmps22
  go_wp2_with fail
  refine (stopped_no g _ d k w H.out).mono ?_
  rintro r w1 ⟨rfl, rfl⟩
  go_wp2
  go_quiet (fail)
  go_wp2_with fail
  refine (rfail_any g 30 _ d k _ (H.out.drewN _)).mono ?_
  rintro r w3 ⟨rfl, hL⟩
  have HL := hid (((RLeft.refl H.out).drewN _).trans hL)
  clear hL
  go_wp2
  go_ret
  exact ⟨rfl, HL.out⟩
set_option maxHeartbeats 1000000 in
theorem rByte_ok (g : Nat) (v : Value) (d : List UInt8) (k : Nat) (w : World) (h : RAt w g 0 v d k) (hk : k < d.length) :
    Calls Try.prog 22 #[.pointer (some ⟨g, 0, none⟩)] w fun r w' => r = .returned (B (d.getD k 0)) ∧ RLeft w w' g v d 0 (k + 1) := by
  have H := hid h
  have c1 := fun n => (h.drewN n).c1
  have c2 := fun n => (h.drewN n).c2
  have f2 := fun n => (h.drewN n).fz 2
  have hs := h.small
  obtain ⟨b, cap, rfl, _, hcap, _⟩ := h.own.some_ (by omega)
  have hcell := fun n => ((h.drewN n).own.at_ k hk).1
  have HN : Hid (∀ n, RLeft w ((w.drewN n).setCell ⟨g, 2, none⟩ (.int .i64 ((k + 1 : Nat) : Int))) g (.slice (some ⟨b, 0, none⟩) d.length cap) d 0 (k + 1)) := hid fun n => ((RLeft.refl H.out).drewN n).set2 (k + 1) hk
  obtain ⟨b0, hb0⟩ : ∃ b, d.getD k 0 = b := ⟨_, rfl⟩
  have HB0 := hid hb0
  rw [hb0] at hcell ⊢
  clear h hb0
  go_enter Try.func22, Try.ntmps22
  go_wp2_with fail
  refine (stopped_no g _ d k w H.out).mono ?_
  rintro r w1 ⟨rfl, rfl⟩
  go_wp2
  go_quiet (fail)
  go_wp2
  refine Code.seen (fun W => RLeft w1 W g (.slice (some ⟨b, 0, none⟩) d.length cap) d 0 (k + 1)) (by have := HN.out nq; simpa using this) fun w2 H2 => ?_
  clear HN c1 c2 f2 hcell
  have c1 := fun n => (H2.out.1.drewN n).c1
  have c2 := fun n => (H2.out.1.drewN n).c2
  have hcell := fun n => ((H2.out.1.drewN n).own.at_ k hk).1
  have hb0 : d.getD k 0 = b0 := HB0.out
  rw [hb0] at hcell
  have hw : IntKind.i64.wrap (((k + 1 : Nat) : Int) - 1) = (k : Int) := by rw [IntKind.wrap_i64]; omega
  clear hb0
  go_quiet (fail)
  go_wp2
  go_ret
  exact ⟨rfl, H2.out.drewN _⟩
set_option maxHeartbeats 1000000 in
theorem rByte_no (g : Nat) (e : Int) (v : Value) (d : List UInt8) (k : Nat) (w : World) (he : e ≠ 0) (h : RAt w g e v d k) :
    Calls Try.prog 22 #[.pointer (some ⟨g, 0, none⟩)] w fun r w' => r = .returned (.int .u8 0) ∧ w' = w := by
  go_enter Try.func22, Try.ntmps22
  go_wp2_with fail
  refine (stopped_yes g e v d k w he h).mono ?_
  rintro r w1 ⟨rfl, rfl⟩
  go_wp2
  go_ret
  exact ⟨rfl, rfl⟩
set_option maxHeartbeats 1000000 in
theorem rBool_no (g : Nat) (e : Int) (v : Value) (d : List UInt8) (k : Nat) (w : World) (he : e ≠ 0) (h : RAt w g e v d k) :
    Calls Try.prog 48 #[.pointer (some ⟨g, 0, none⟩)] w fun r w' => r = .returned (.bool false) ∧ w' = w := by
  go_enter Try.func48, Try.ntmps48
  go_wp2_with fail
  refine (stopped_yes g e v d k w he h).mono ?_
  rintro r w1 ⟨rfl, rfl⟩
  go_wp2
  go_ret
  exact ⟨rfl, rfl⟩
set_option maxHeartbeats 1000000 in
theorem rBool_end (g : Nat) (v : Value) (d : List UInt8) (k : Nat) (w : World) (h : RAt w g 0 v d k) (hk : d.length ≤ k) :
    Calls Try.prog 48 #[.pointer (some ⟨g, 0, none⟩)] w fun r w' => r = .returned (.bool false) ∧ RLeft w w' g v d 30 k := by
  have H := hid h
  have c1 := fun n => (h.drewN n).c1
  have c2 := fun n => (h.drewN n).c2
  obtain ⟨A, c, rfl⟩ := h.own.form
  have hk3 : ¬ k < d.length := by omega
  have hk4 : decide ((k : Int) < (d.length : Int)) = false := by simpa using hk
  clear h
  go_enter Try.func48, Try.ntmps48
  go_wp2_with fail
  refine (stopped_no g _ d k w H.out).mono ?_
  rintro r w1 ⟨rfl, rfl⟩
  go_wp2
  go_quiet (fail)
  go_wp2_with fail
  refine (rByte_end g _ d k _ (H.out.drewN _) hk).mono ?_
  rintro r w3 ⟨rfl, hL⟩
  have HL := hid (((RLeft.refl H.out).drewN _).trans hL)
  clear hL
  go_wp2
  go_ret
  exact ⟨rfl, HL.out⟩
set_option maxHeartbeats 1000000 in
theorem rBool_ok (g : Nat) (v : Value) (d : List UInt8) (k : Nat) (w : World) (h : RAt w g 0 v d k) (hk : k < d.length) (hb : (d.getD k 0).toNat ≤ 1) :
    Calls Try.prog 48 #[.pointer (some ⟨g, 0, none⟩)] w fun r w' => r = .returned (.bool ((d.getD k 0) == 1)) ∧ RLeft w w' g v d 0 (k + 1) := by
  have H := hid h
  have c1 := fun n => (h.drewN n).c1
  have c2 := fun n => (h.drewN n).c2
  obtain ⟨b, cap, rfl, _, hcap, _⟩ := h.own.some_ (by omega)
  have hcell := fun n => ((h.drewN n).own.at_ k hk).1
  have HB := hid (fun n => rByte_ok g _ d k _ (h.drewN n) hk)
  have hq : ((d.getD k 0) == 1) = (((d.getD k 0).toNat : Int) == 1) := by
    rw [Bool.eq_iff_iff, beq_iff_eq, beq_iff_eq]
    exact ⟨fun h => by rw [h]; rfl, fun h => UInt8.toNat_inj.1 (by simp at h ⊢; omega)⟩
  rw [hq]
  clear hq
  generalize d.getD k 0 = b0 at *
  clear h
  go_enter Try.func48, Try.ntmps48
  go_wp2_with fail
  refine (stopped_no g _ d k w H.out).mono ?_
  rintro r w1 ⟨rfl, rfl⟩
  go_wp2
  go_quiet (fail)
  go_wp2_with fail
  refine (HB.out _).mono ?_
  rintro r w3 ⟨rfl, hL⟩
  have HL := hid (((RLeft.refl H.out).drewN _).trans hL)
  clear hL
  go_wp2
  go_ret
  exact ⟨rfl, HL.out⟩
set_option maxHeartbeats 1000000 in
theorem rBool_bad (g : Nat) (v : Value) (d : List UInt8) (k : Nat) (w : World) (h : RAt w g 0 v d k) (hk : k < d.length) (hb : 1 < (d.getD k 0).toNat) :
    Calls Try.prog 48 #[.pointer (some ⟨g, 0, none⟩)] w fun r w' => r = .returned (.bool false) ∧ RLeft w w' g v d 31 k := by
  have H := hid h
  have c1 := fun n => (h.drewN n).c1
  have c2 := fun n => (h.drewN n).c2
  obtain ⟨b, cap, rfl, _, hcap, _⟩ := h.own.some_ (by omega)
  have hcell := fun n => ((h.drewN n).own.at_ k hk).1
  generalize d.getD k 0 = b0 at *
  clear h
  go_enter Try.func48, Try.ntmps48
  go_wp2_with fail
  refine (stopped_no g _ d k w H.out).mono ?_
  rintro r w1 ⟨rfl, rfl⟩
  go_wp2
  go_quiet (fail)
  go_wp2_with fail
  refine (rfail_any g 31 _ d k _ (H.out.drewN _)).mono ?_
  rintro r w3 ⟨rfl, hL⟩
  have HL := hid (((RLeft.refl H.out).drewN _).trans hL)
  clear hL
  go_wp2
  go_ret
  exact ⟨rfl, HL.out⟩
set_option maxHeartbeats 1000000 in
theorem rErr_any (g : Nat) (e : Int) (v : Value) (d : List UInt8) (k : Nat) (w : World) (h : RAt w g e v d k) :
    Calls Try.prog 18 #[.pointer (some ⟨g, 0, none⟩)] w fun r w' => r = .returned (.int .i64 e) ∧ w' = w := by
  have c0 := h.c0
  clear h
  go_enter Try.func18, Try.ntmps18
  go_wp2
  go_ret
  exact ⟨rfl, rfl⟩
set_option maxHeartbeats 1000000 in
theorem rAt_any (g : Nat) (e : Int) (v : Value) (d : List UInt8) (k : Nat) (w : World) (h : RAt w g e v d k) :
    Calls Try.prog 19 #[.pointer (some ⟨g, 0, none⟩)] w fun r w' => r = .returned (.int .i64 k) ∧ w' = w := by
  have c2 := h.c2
  clear h
  go_enter Try.func19, Try.ntmps19
  go_wp2
  go_ret
  exact ⟨rfl, rfl⟩
end Go.Proofs.Ytamhlfhblgmhoaa
