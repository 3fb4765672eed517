/- The walks of the document's reader (sherdref07). -/
import Derived.Test.YtamhlfhblgmhoaaPkQ
namespace Go.Proofs.Ytamhlfhblgmhoaa
open Go.RowKit
/-- the document's reader: the bytes, how many were taken, its first error -/
structure QAt (w : World) (g : Nat) (e : Int) (dv : Value) (d : List UInt8) (k : Nat) : Prop where
  at_ : w.heap[g]? = some (.cells #[dv, .int .i64 k, .int .i64 e] 82 (0, 0))
  own : OwnB w 0 dv d
  ne : dv.ownBlock ≠ some g
  le : k ≤ d.length
  small : d.length ≤ 140737488355328
section
variable {w w1 w2 : World} {g : Nat} {e e2 : Int} {v : Value} {d : List UInt8} {k k2 : Nat}
theorem QAt.c0 (h : QAt w g e v d k) : w.cell? ⟨g, 0, none⟩ = some v := by rw [blk_cell h.at_]; rfl
theorem QAt.c1 (h : QAt w g e v d k) : w.cell? ⟨g, 1, none⟩ = some (.int .i64 k) := by rw [blk_cell h.at_]; rfl
theorem QAt.c2 (h : QAt w g e v d k) : w.cell? ⟨g, 2, none⟩ = some (.int .i64 e) := by rw [blk_cell h.at_]; rfl
theorem QAt.fz (h : QAt w g e v d k) (i : Nat) : w.frozen? ⟨g, i, none⟩ = false := blk_frozen h.at_ i
theorem QAt.fr {X : Nat → Prop} (h : QAt w g e v d k) (hf : Fr X w w1) (hg : ¬ X g) (hv : ∀ b, v.ownBlock = some b → ¬ X b) : QAt w1 g e v d k :=
  ⟨blk_fr hf h.at_ hg, h.own.fr hf hv, h.ne, h.le, h.small⟩
theorem QAt.below (h : QAt w g e v d k) (hb : Below w.heap.size w w1) : QAt w1 g e v d k := h.fr (Fr.of_below hb) (fun h => h) (fun _ _ h => h)
theorem QAt.drewN (h : QAt w g e v d k) (n : Nat) : QAt (w.drewN n) g e v d k := h.below (below_drewN (Below.refl _ _) n)
def QLeft (w w' : World) (g : Nat) (v : Value) (d : List UInt8) (e : Int) (k : Nat) : Prop := QAt w' g e v d k ∧ Fr (fun b => b = g) w w'
theorem QAt.set2 (h : QAt w g e v d k) (c : Int) : QAt (w.setCell ⟨g, 2, none⟩ (.int .i64 c)) g c v d k :=
  ⟨by rw [blk_set h.at_]; rfl, h.own.fr (Fr.set_ _ _) (fun b hb e => by subst e; exact h.ne hb), h.ne, h.le, h.small⟩
theorem QAt.set1 (h : QAt w g e v d k) (j : Nat) (hj : j ≤ d.length) : QAt (w.setCell ⟨g, 1, none⟩ (.int .i64 j)) g e v d j :=
  ⟨by rw [blk_set h.at_]; rfl, h.own.fr (Fr.set_ _ _) (fun b hb e => by subst e; exact h.ne hb), h.ne, hj, h.small⟩
theorem QLeft.refl (h : QAt w g e v d k) : QLeft w w g v d e k := ⟨h, Fr.refl _ _⟩
theorem QLeft.below (h : QLeft w w1 g v d e k) (hb : Below w1.heap.size w1 w2) : QLeft w w2 g v d e k := ⟨h.1.below hb, h.2.trans ((Fr.of_below hb).mono fun _ _ h => h.elim)⟩
theorem QLeft.drewN (h : QLeft w w1 g v d e k) (n : Nat) : QLeft w (w1.drewN n) g v d e k := h.below (below_drewN (Below.refl _ _) n)
theorem QLeft.set2 (h : QLeft w w1 g v d e k) (c : Int) : QLeft w (w1.setCell ⟨g, 2, none⟩ (.int .i64 c)) g v d c k := ⟨h.1.set2 c, fr_set h.2 rfl _ _⟩
theorem QLeft.set1 (h : QLeft w w1 g v d e k) (j : Nat) (hj : j ≤ d.length) : QLeft w (w1.setCell ⟨g, 1, none⟩ (.int .i64 j)) g v d e j := ⟨h.1.set1 j hj, fr_set h.2 rfl _ _⟩
theorem QLeft.trans (h : QLeft w w1 g v d e k) (h2 : QLeft w1 w2 g v d e2 k2) : QLeft w w2 g v d e2 k2 := ⟨h2.1, h.2.trans (h2.2.mono fun _ _ h => .inl h)⟩
end
/-! what a reader answers -/
def uo (e : Int) (d : List UInt8) (k : Nat) (max : Int) : Int × Int × Nat := if e = 0 then (((Pk.num max 0 0 (d.drop k)).1 : Int), (Pk.num max 0 0 (d.drop k)).2.2, k + (Pk.num max 0 0 (d.drop k)).2.1) else (0, e, k)
def byo (e : Int) (d : List UInt8) (k : Nat) : UInt8 × Int × Nat := if e = 0 then (if k < d.length then (d.getD k 0, 0, k + 1) else (0, 30, k)) else (0, e, k)
def boo (e : Int) (d : List UInt8) (k : Nat) : Bool × Int × Nat := if e = 0 then (if k < d.length then (if (d.getD k 0).toNat ≤ 1 then (d.getD k 0 == 1, 0, k + 1) else (false, 31, k)) else (false, 30, k)) else (false, e, k)
def bso (e : Int) (d : List UInt8) (k : Nat) (max : Int) : List UInt8 × Int × Nat :=
  if e = 0 then
    (if (Pk.num max 0 0 (d.drop k)).2.2 = 0 then
      (if k + (Pk.num max 0 0 (d.drop k)).2.1 + (Pk.num max 0 0 (d.drop k)).1 ≤ d.length then ((d.drop (k + (Pk.num max 0 0 (d.drop k)).2.1)).take (Pk.num max 0 0 (d.drop k)).1, 0, k + (Pk.num max 0 0 (d.drop k)).2.1 + (Pk.num max 0 0 (d.drop k)).1)
      else ([], 30, k))
    else ([], (Pk.num max 0 0 (d.drop k)).2.2, k))
  else ([], e, k)
def eno (e : Int) (d : List UInt8) (k : Nat) : Int := if e = 0 then (if k < d.length then 35 else 0) else e
set_option maxHeartbeats 1000000 in
theorem qErr_any (g : Nat) (e : Int) (v : Value) (d : List UInt8) (k : Nat) (w : World) (h : QAt w g e v d k) :
    Calls Try.prog 60 #[.pointer (some ⟨g, 0, none⟩)] w fun r w' => r = .returned (.int .i64 e) ∧ w' = w := by
  have c2 := h.c2
  clear h
  go_enter Try.func60, Try.ntmps60
  go_wp2
  go_ret
  exact ⟨rfl, rfl⟩
set_option maxHeartbeats 1000000 in
theorem qAt_any (g : Nat) (e : Int) (v : Value) (d : List UInt8) (k : Nat) (w : World) (h : QAt w g e v d k) :
    Calls Try.prog 61 #[.pointer (some ⟨g, 0, none⟩)] w fun r w' => r = .returned (.int .i64 k) ∧ w' = w := by
  have c1 := h.c1
  clear h
  go_enter Try.func61, Try.ntmps61
  go_wp2
  go_ret
  exact ⟨rfl, rfl⟩
set_option maxHeartbeats 1000000 in
theorem QNew_any (v : Value) (d : List UInt8) (w : World) (h : SlB w v d) (hd : d.length ≤ 140737488355328) :
    Calls Try.prog 25 #[v] w fun r w' => ∃ g u, r = .returned (.pointer (some ⟨g, 0, none⟩)) ∧ QAt w' g 0 u d 0 ∧ w.heap.size ≤ g ∧ (∀ b, u.ownBlock = some b → w.heap.size ≤ b) ∧ Below w.heap.size w w' ∧ g < w'.heap.size := by
  have H := hid h
  clear h
  go_enter Try.func25, Try.ntmps25
  go_wp2_with (at_builtin; refine wpList_appB rfl (.tmp 3) (.tmp 4) rfl w.heap.size _ _ [] d rfl rfl (by exact lit0 w) (by exact H.out.below ((Below.refl _ _).alloc (Nat.le_refl _) _)) (by simp only [List.length_nil]; omega) (by simp) ?_; intro v1 w1 ho1 hg1; rw [List.nil_append] at ho1; have HB := hid (OwnB.grown ((Below.refl w.heap.size w).alloc (Nat.le_refl _) _) (lit0 w) (Nat.le_refl _) (by simp) hg1); obtain ⟨A1, c1, rfl⟩ := ho1.form; have HO := hid ho1; clear ho1 hg1)
  go_ret
  refine ⟨_, _, rfl, ⟨heap_alloc_new _ _, own_base (HO.out.alloc _) (Nat.zero_le _), fun hb => ?_, Nat.zero_le _, hd⟩, HB.out.size, fun b hb => (World.ownsRow.lt HO.out b hb).1, HB.out.alloc HB.out.size _, by simp⟩
  have := (World.ownsRow.lt HO.out _ hb).2
  omega
set_option maxHeartbeats 1000000 in
theorem qUint_no (g : Nat) (e : Int) (v : Value) (d : List UInt8) (k : Nat) (max : Int) (w : World) (he : e ≠ 0) (h : QAt w g e v d k) :
    Calls Try.prog 54 #[.pointer (some ⟨g, 0, none⟩), .int .i64 max] w fun r w' => r = .returned (.int .i64 0) ∧ QLeft w w' g v d e k := by
  have c2 := h.c2
  have hq : (e != 0) = true := by rw [bne_iff_ne]; exact he
  have H := hid h
  clear h he
  go_enter Try.func54, Try.ntmps54
  go_wp2
  go_ret
  exact ⟨rfl, QLeft.refl H.out⟩
set_option maxHeartbeats 1000000 in
theorem qByte_no (g : Nat) (e : Int) (v : Value) (d : List UInt8) (k : Nat) (w : World) (he : e ≠ 0) (h : QAt w g e v d k) :
    Calls Try.prog 55 #[.pointer (some ⟨g, 0, none⟩)] w fun r w' => r = .returned (.int .u8 0) ∧ QLeft w w' g v d e k := by
  have c2 := h.c2
  have hq : (e != 0) = true := by rw [bne_iff_ne]; exact he
  have H := hid h
  clear h he
  go_enter Try.func55, Try.ntmps55
  go_wp2
  go_ret
  exact ⟨rfl, QLeft.refl H.out⟩
set_option maxHeartbeats 1000000 in
theorem qBool_no (g : Nat) (e : Int) (v : Value) (d : List UInt8) (k : Nat) (w : World) (he : e ≠ 0) (h : QAt w g e v d k) :
    Calls Try.prog 56 #[.pointer (some ⟨g, 0, none⟩)] w fun r w' => r = .returned (.bool false) ∧ QLeft w w' g v d e k := by
  have c2 := h.c2
  have hq : (e != 0) = true := by rw [bne_iff_ne]; exact he
  have H := hid h
  clear h he
  go_enter Try.func56, Try.ntmps56
  go_wp2
  go_ret
  exact ⟨rfl, QLeft.refl H.out⟩
set_option maxHeartbeats 1000000 in
theorem qBytes_no (g : Nat) (e : Int) (v : Value) (d : List UInt8) (k : Nat) (max : Int) (w : World) (he : e ≠ 0) (h : QAt w g e v d k) :
    Calls Try.prog 57 #[.pointer (some ⟨g, 0, none⟩), .int .i64 max] w fun r w' => r = .returned (.slice none 0 0) ∧ QLeft w w' g v d e k := by
  have c2 := h.c2
  have hq : (e != 0) = true := by rw [bne_iff_ne]; exact he
  have H := hid h
  clear h he
  go_enter Try.func57, Try.ntmps57
  go_wp2
  go_ret
  exact ⟨rfl, QLeft.refl H.out⟩
/-- the bytes behind those that were taken -/
def RestAt (w : World) (dv : Value) (d : List UInt8) (k : Nat) (u : Value) : Prop := ∀ n, SlB (w.drewN n) u (d.drop k)
theorem rest_none {w : World} {g : Nat} {e : Int} {d : List UInt8} {k : Nat} (h : QAt w g e (.slice none 0 0) d k) : d = [] ∧ k = 0 := by
  have hd := own_none h.own rfl
  exact ⟨hd, by have := h.le; rw [hd] at this; simpa using this⟩
theorem q_form {w : World} {g : Nat} {e : Int} {v : Value} {d : List UInt8} {k : Nat} (h : QAt w g e v d k) : v = .slice none 0 0 ∨ ∃ b cap, v = .slice (some ⟨b, 0, none⟩) d.length cap ∧ d.length ≤ cap := by
  obtain ⟨_, hv | ⟨b, cap, cur, hv, _, _, hcap, hmax, _⟩⟩ := h.own
  · exact .inl hv.1
  · exact .inr ⟨b, cap, hv, hcap⟩
set_option maxRecDepth 100000 in
set_option maxHeartbeats 2000000 in
theorem qUint_ok (g : Nat) (v : Value) (d : List UInt8) (k : Nat) (max : Int) (w : World) (h : QAt w g 0 v d k) :
    Calls Try.prog 54 #[.pointer (some ⟨g, 0, none⟩), .int .i64 max] w fun r w' =>
      r = .returned (.int .i64 (Pk.num max 0 0 (d.drop k)).1) ∧ QLeft w w' g v d (Pk.num max 0 0 (d.drop k)).2.2 (k + (Pk.num max 0 0 (d.drop k)).2.1) := by
  have H := hid h
  have hle : k + (Pk.num max 0 0 (d.drop k)).2.1 ≤ d.length := by have := h.le; have h2 := num_len max (d.drop k); rw [List.length_drop] at h2; omega
  have hsm := h.small
  have hk := h.le
  have c0 := fun n => (h.drewN n).c0
  have c1 := fun n => (h.drewN n).c1
  have c2 := h.c2
  have d2 := fun n => (h.drewN n).c2
  have f1 := fun n => (h.drewN n).fz 1
  have f2 := fun n => (h.drewN n).fz 2
  have hf := q_form h
  clear h
  obtain ⟨L, hL⟩ : ∃ L, d.drop k = L := ⟨_, rfl⟩
  rw [hL] at hle ⊢
  have HLd := hid hL
  have hLs : L.length ≤ 140737488355328 := by rw [← hL, List.length_drop]; omega
  clear hL
  have HNU := hid (fun u m (hu : SlB (w.drewN m) u L) => vnumber_any u L max (w.drewN m) hu hLs)
  unfold nres at HNU
  obtain ⟨R, hR⟩ : ∃ R, Pk.num max 0 0 L = R := ⟨_, rfl⟩
  rw [hR] at HNU hle ⊢
  clear hR
  obtain ⟨n, s, E⟩ := R
  simp only at HNU hle ⊢
  rcases hf with rfl | ⟨b, cap, rfl, hcap⟩
  case' inl =>
    obtain ⟨rfl, rfl⟩ := rest_none H.out
    have HSL : Hid (∀ m, SlB (w.drewN m) (.slice none 0 0) L) := hid fun m => by rw [← HLd.out]; exact Sl.nil _ _
  case' inr =>
    by_cases hkc : k = cap
    case' pos =>
      have HSL : Hid (∀ m, SlB (w.drewN m) (.slice (some ⟨b, 0, none⟩) 0 0) L) := hid fun m => by
        have hz : L = [] := by rw [← HLd.out]; exact List.drop_eq_nil_of_le (by omega)
        rw [hz]; exact ⟨_, _, rfl, Nat.le_refl _, (fun h => by cases h), fun h => absurd h (by simp)⟩
      subst hkc
    case' neg =>
      have HSL : Hid (∀ m, SlB (w.drewN m) (.slice (some ⟨b, k, none⟩) (d.length - k) (cap - k)) L) := hid fun m => by
        rw [← HLd.out]
        exact own_drop (H.out.drewN m).own k hk _ (by omega)
  all_goals
    go_enter Try.func54, Try.ntmps54
    go_wp2
    go_quiet (first | (go_at_call 63; exact Calls.quiet_of_same (HNU.out _ _ (HSL.out _))))
    go_wp2
    go_ret
    exact ⟨rfl, by have := (((QLeft.refl H.out).drewN nq).set2 E).set1 _ hle; simpa using this⟩
set_option maxRecDepth 100000 in
set_option maxHeartbeats 1000000 in
theorem qByte_end (g : Nat) (v : Value) (d : List UInt8) (k : Nat) (w : World) (h : QAt w g 0 v d k) (hk : ¬ k < d.length) :
    Calls Try.prog 55 #[.pointer (some ⟨g, 0, none⟩)] w fun r w' => r = .returned (.int .u8 0) ∧ QLeft w w' g v d 30 k := by
  have H := hid h
  have c0 := fun n => (h.drewN n).c0
  have c1 := fun n => (h.drewN n).c1
  have c2 := h.c2
  have f1 := fun n => (h.drewN n).fz 1
  have f2 := fun n => (h.drewN n).fz 2
  have hsm := h.small
  have hkk : k = d.length := by have := h.le; omega
  have hq : ((k : Int) == (d.length : Int)) = true := by rw [beq_iff_eq]; omega
  obtain ⟨A, c, rfl⟩ := h.own.form
  clear h hkk
  go_enter Try.func55, Try.ntmps55
  go_wp2
  go_quiet (fail)
  go_wp2
  go_ret
  exact ⟨rfl, ((QLeft.refl H.out).drewN nq).set2 30⟩
set_option maxRecDepth 100000 in
set_option maxHeartbeats 1000000 in
theorem qByte_ok (g : Nat) (v : Value) (d : List UInt8) (k : Nat) (w : World) (h : QAt w g 0 v d k) (hk : k < d.length) :
    Calls Try.prog 55 #[.pointer (some ⟨g, 0, none⟩)] w fun r w' => r = .returned (B (d.getD k 0)) ∧ QLeft w w' g v d 0 (k + 1) := by
  have H := hid h
  have c0 := fun n => (h.drewN n).c0
  have c1 := fun n => (h.drewN n).c1
  have c2 := h.c2
  have f1 := fun n => (h.drewN n).fz 1
  have f2 := fun n => (h.drewN n).fz 2
  have hsm := h.small
  have hq : ((k : Int) == (d.length : Int)) = false := by rw [beq_eq_false_iff_ne]; omega
  obtain ⟨b, cap, rfl, _, hcap, _⟩ := h.own.some_ (by omega)
  have HN : Hid (∀ n, QLeft w ((w.drewN n).setCell ⟨g, 1, none⟩ (.int .i64 ((k + 1 : Nat) : Int))) g (.slice (some ⟨b, 0, none⟩) d.length cap) d 0 (k + 1)) := hid fun n => ((QLeft.refl H.out).drewN n).set1 (k + 1) hk
  obtain ⟨b0, hb0⟩ : ∃ b, d.getD k 0 = b := ⟨_, rfl⟩
  have HB0 := hid hb0
  rw [hb0]
  clear h hb0
  go_enter Try.func55, Try.ntmps55
  go_wp2
  go_quiet (fail)
  go_wp2
  refine Code.seen (fun W => QLeft w W g (.slice (some ⟨b, 0, none⟩) d.length cap) d 0 (k + 1)) (by rw [show ((k : Int) + 1) = ((k + 1 : Nat) : Int) by omega]; exact HN.out _) fun w2 H2 => ?_
  clear HN c0 c1 f1 f2 c2
  have c0 := fun n => (H2.1.drewN n).c0
  have c1 := fun n => (H2.1.drewN n).c1
  have hcell := fun n => ((H2.1.drewN n).own.at_ k hk).1
  have hw : IntKind.i64.wrap (((k + 1 : Nat) : Int) - 1) = (k : Int) := by rw [IntKind.wrap_i64]; omega
  simp only [HB0.out] at hcell
  have HL := hid H2
  clear H2
  go_quiet (fail)
  go_wp2
  go_ret
  exact ⟨rfl, HL.out.drewN _⟩
set_option maxRecDepth 100000 in
set_option maxHeartbeats 1000000 in
theorem qBool_end (g : Nat) (v : Value) (d : List UInt8) (k : Nat) (w : World) (h : QAt w g 0 v d k) (hk : ¬ k < d.length) :
    Calls Try.prog 56 #[.pointer (some ⟨g, 0, none⟩)] w fun r w' => r = .returned (.bool false) ∧ QLeft w w' g v d 30 k := by
  have H := hid h
  have c0 := fun n => (h.drewN n).c0
  have c1 := fun n => (h.drewN n).c1
  have c2 := h.c2
  have f1 := fun n => (h.drewN n).fz 1
  have f2 := fun n => (h.drewN n).fz 2
  have hsm := h.small
  have hkk : k = d.length := by have := h.le; omega
  have hq : ((k : Int) == (d.length : Int)) = true := by rw [beq_iff_eq]; omega
  obtain ⟨A, c, rfl⟩ := h.own.form
  clear h hkk
  go_enter Try.func56, Try.ntmps56
  go_wp2
  go_quiet (fail)
  go_wp2
  go_ret
  exact ⟨rfl, ((QLeft.refl H.out).drewN nq).set2 30⟩
set_option maxRecDepth 100000 in
set_option maxHeartbeats 1000000 in
theorem qBool_bad (g : Nat) (v : Value) (d : List UInt8) (k : Nat) (w : World) (h : QAt w g 0 v d k) (hk : k < d.length) (hb : ¬ (d.getD k 0).toNat ≤ 1) :
    Calls Try.prog 56 #[.pointer (some ⟨g, 0, none⟩)] w fun r w' => r = .returned (.bool false) ∧ QLeft w w' g v d 31 k := by
  have H := hid h
  have c0 := fun n => (h.drewN n).c0
  have c1 := fun n => (h.drewN n).c1
  have c2 := h.c2
  have f1 := fun n => (h.drewN n).fz 1
  have f2 := fun n => (h.drewN n).fz 2
  have hsm := h.small
  have hq : ((k : Int) == (d.length : Int)) = false := by rw [beq_eq_false_iff_ne]; omega
  obtain ⟨b, cap, rfl, _, hcap, _⟩ := h.own.some_ (by omega)
  have hcell := fun n => ((h.drewN n).own.at_ k hk).1
  generalize d.getD k 0 = b0 at *
  have hb1 : 1 < b0.toNat := by omega
  clear h hb
  go_enter Try.func56, Try.ntmps56
  go_wp2
  go_quiet (fail)
  go_wp2
  go_quiet (fail)
  go_wp2
  go_ret
  exact ⟨rfl, (((QLeft.refl H.out).drewN _)).set2 31⟩
set_option maxRecDepth 100000 in
set_option maxHeartbeats 1000000 in
theorem qBool_ok (g : Nat) (v : Value) (d : List UInt8) (k : Nat) (w : World) (h : QAt w g 0 v d k) (hk : k < d.length) (hb : (d.getD k 0).toNat ≤ 1) :
    Calls Try.prog 56 #[.pointer (some ⟨g, 0, none⟩)] w fun r w' => r = .returned (.bool ((d.getD k 0) == 1)) ∧ QLeft w w' g v d 0 (k + 1) := by
  have H := hid h
  have c0 := fun n => (h.drewN n).c0
  have c1 := fun n => (h.drewN n).c1
  have c2 := h.c2
  have f1 := fun n => (h.drewN n).fz 1
  have f2 := fun n => (h.drewN n).fz 2
  have hsm := h.small
  have hq : ((k : Int) == (d.length : Int)) = false := by rw [beq_eq_false_iff_ne]; omega
  obtain ⟨b, cap, rfl, _, hcap, _⟩ := h.own.some_ (by omega)
  have hcell := fun n => ((h.drewN n).own.at_ k hk).1
  have HN : Hid (∀ n, QLeft w ((w.drewN n).setCell ⟨g, 1, none⟩ (.int .i64 ((k + 1 : Nat) : Int))) g (.slice (some ⟨b, 0, none⟩) d.length cap) d 0 (k + 1)) := hid fun n => ((QLeft.refl H.out).drewN n).set1 (k + 1) hk
  have hqq : ((d.getD k 0) == 1) = (((d.getD k 0).toNat : Int) == 1) := by
    rw [Bool.eq_iff_iff, beq_iff_eq, beq_iff_eq]
    exact ⟨fun h => by rw [h]; rfl, fun h => UInt8.toNat_inj.1 (by simp at h ⊢; omega)⟩
  rw [hqq]
  clear hqq
  obtain ⟨b0, hb0⟩ : ∃ b, d.getD k 0 = b := ⟨_, rfl⟩
  have HB0 := hid hb0
  rw [hb0] at hb ⊢
  simp only [hb0] at hcell
  clear h hb0
  go_enter Try.func56, Try.ntmps56
  go_wp2
  go_quiet (fail)
  go_wp2
  go_quiet (fail)
  go_wp2
  refine Code.seen (fun W => QLeft w W g (.slice (some ⟨b, 0, none⟩) d.length cap) d 0 (k + 1)) (by rw [show ((k : Int) + 1) = ((k + 1 : Nat) : Int) by omega]; exact HN.out _) fun w2 H2 => ?_
  clear HN c0 c1 f1 f2 c2 hcell
  have c0 := fun n => (H2.1.drewN n).c0
  have c1 := fun n => (H2.1.drewN n).c1
  have hcell := fun n => ((H2.1.drewN n).own.at_ k hk).1
  simp only [HB0.out] at hcell
  have hw : IntKind.i64.wrap (((k + 1 : Nat) : Int) - 1) = (k : Int) := by rw [IntKind.wrap_i64]; omega
  have HL := hid H2
  clear H2
  go_quiet (fail)
  go_wp2
  go_ret
  exact ⟨rfl, HL.out.drewN _⟩
set_option maxRecDepth 100000 in
set_option maxHeartbeats 1000000 in
theorem qEnd_no (g : Nat) (e : Int) (v : Value) (d : List UInt8) (k : Nat) (w : World) (he : e ≠ 0) (h : QAt w g e v d k) :
    Calls Try.prog 59 #[.pointer (some ⟨g, 0, none⟩)] w fun r w' => r = .returned (.tuple #[]) ∧ QLeft w w' g v d e k := by
  have H := hid h
  have c2 := fun n => (h.drewN n).c2
  have hq : (e == 0) = false := by rw [beq_eq_false_iff_ne]; exact he
  clear h he
  go_enter Try.func59, Try.ntmps59
  go_wp2
  go_quiet (fail)
  go_wp2
  go_returns
  exact ⟨rfl, (QLeft.refl H.out).drewN _⟩
set_option maxRecDepth 100000 in
set_option maxHeartbeats 1000000 in
theorem qEnd_ok (g : Nat) (v : Value) (d : List UInt8) (k : Nat) (w : World) (hk : ¬ k < d.length) (h : QAt w g 0 v d k) :
    Calls Try.prog 59 #[.pointer (some ⟨g, 0, none⟩)] w fun r w' => r = .returned (.tuple #[]) ∧ QLeft w w' g v d 0 k := by
  have H := hid h
  have c0 := fun n => (h.drewN n).c0
  have c1 := fun n => (h.drewN n).c1
  have c2 := h.c2
  have f1 := fun n => (h.drewN n).fz 1
  have f2 := fun n => (h.drewN n).fz 2
  have hsm := h.small
  replace c2 := fun n => (h.drewN n).c2
  obtain ⟨A, c, rfl⟩ := h.own.form
  have hk4 : decide ((k : Int) < (d.length : Int)) = false := by simp; omega
  clear h
  go_enter Try.func59, Try.ntmps59
  go_wp2
  go_quiet (fail)
  go_wp2
  go_returns
  exact ⟨rfl, (QLeft.refl H.out).drewN _⟩
set_option maxRecDepth 100000 in
set_option maxHeartbeats 1000000 in
theorem qEnd_rest (g : Nat) (v : Value) (d : List UInt8) (k : Nat) (w : World) (hk : k < d.length) (h : QAt w g 0 v d k) :
    Calls Try.prog 59 #[.pointer (some ⟨g, 0, none⟩)] w fun r w' => r = .returned (.tuple #[]) ∧ QLeft w w' g v d 35 k := by
  have H := hid h
  have c0 := fun n => (h.drewN n).c0
  have c1 := fun n => (h.drewN n).c1
  have c2 := h.c2
  have f1 := fun n => (h.drewN n).fz 1
  have f2 := fun n => (h.drewN n).fz 2
  have hsm := h.small
  replace c2 := fun n => (h.drewN n).c2
  obtain ⟨A, c, rfl⟩ := h.own.form
  clear h
  go_enter Try.func59, Try.ntmps59
  go_wp2
  go_quiet (fail)
  go_wp2
  go_returns
  exact ⟨rfl, ((QLeft.refl H.out).drewN _).set2 35⟩
end Go.Proofs.Ytamhlfhblgmhoaa
