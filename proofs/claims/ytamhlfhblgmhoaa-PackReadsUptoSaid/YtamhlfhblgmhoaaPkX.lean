/- The walks of the document's writer (sherdref07). -/
import Derived.Test.YtamhlfhblgmhoaaPkV
import Derived.Test.YtamhlfhblgmhoaaPackOneW
namespace Go.Proofs.Ytamhlfhblgmhoaa
open Go.RowKit
/-- the document's writer -/
structure VAt (w : World) (g : Nat) (e : Int) (v : Value) (l : List UInt8) : Prop where
  at_ : w.heap[g]? = some (.cells #[v, .int .i64 e] 71 (0, 0))
  own : OwnB w 0 v l
  ne : v.ownBlock ≠ some g
theorem VAt.fr {X : Nat → Prop} {w w' : World} {g : Nat} {e : Int} {v : Value} {l : List UInt8} (h : VAt w g e v l) (hf : Fr X w w') (hg : ¬ X g) (hv : ∀ k, v.ownBlock = some k → ¬ X k) : VAt w' g e v l :=
  ⟨blk_fr hf h.at_ hg, h.own.fr hf hv, h.ne⟩
theorem VAt.below {w w' : World} {g : Nat} {e : Int} {v : Value} {l : List UInt8} (h : VAt w g e v l) (hb : Below w.heap.size w w') : VAt w' g e v l :=
  h.fr (Fr.of_below hb) (fun h => h) (fun _ _ h => h)
theorem vNewWriter_any (w : World) :
    Calls Try.prog 12 #[] w fun e w' => e = .returned (.pointer (some ⟨w.heap.size, 0, none⟩)) ∧ VAt w' w.heap.size 0 (.slice none 0 0) [] ∧ Below w.heap.size w w' ∧ w'.heap.size = w.heap.size + 1 := by
  go_enter Try.func12, Try.ntmps12
  go_wp2
  go_ret
  exact ⟨rfl, ⟨heap_alloc_new _ _, OwnB.nil _ _, by simp [Value.ownBlock]⟩, (Below.refl _ _).alloc (Nat.le_refl _) _, by simp⟩
theorem VAt.c0 {w : World} {g : Nat} {e : Int} {v : Value} {l : List UInt8} (h : VAt w g e v l) : w.cell? ⟨g, 1, none⟩ = some (.int .i64 e) := by rw [blk_cell h.at_]; rfl
theorem VAt.c1 {w : World} {g : Nat} {e : Int} {v : Value} {l : List UInt8} (h : VAt w g e v l) : w.cell? ⟨g, 0, none⟩ = some v := by rw [blk_cell h.at_]; rfl
theorem VAt.fz {w : World} {g : Nat} {e : Int} {v : Value} {l : List UInt8} (h : VAt w g e v l) (i : Nat) : w.frozen? ⟨g, i, none⟩ = false := blk_frozen h.at_ i
/-- what a call leaves of a writer -/
def VLeft (w w' : World) (g : Nat) (v : Value) (e : Int) (l : List UInt8) : Prop :=
  ∃ v', VAt w' g e v' l ∧ Fr (WX g v) w w' ∧ ∀ k, v'.ownBlock = some k → v.ownBlock = some k ∨ w.heap.size ≤ k
theorem VLeft.refl {w : World} {g : Nat} {e : Int} {v : Value} {l : List UInt8} (h : VAt w g e v l) : VLeft w w g v e l := ⟨v, h, Fr.refl _ _, fun _ h => .inl h⟩
set_option maxHeartbeats 1000000 in
theorem vput_ok (g : Nat) (v u : Value) (l k : List UInt8) (w : World) (h : VAt w g 0 v l) (hu : SlB w u k) (hlen : l.length + k.length ≤ 140737488355328) :
    Calls Try.prog 62 #[.pointer (some ⟨g, 0, none⟩), u] w fun e w' => e = .returned (.tuple #[]) ∧ VLeft w w' g v 0 (l ++ k) := by
  have H := hid h
  have HU := hid hu
  have c0 := h.c0
  have c1 := h.c1
  clear h hu
  go_enter Try.func62, Try.ntmps62
  go_wp2_with (at_builtin; refine wpList_appBX rfl (.tmp 13) (.tmp 14) rfl 0 _ _ l k rfl rfl H.out.own HU.out hlen (Nat.zero_le _) ?_; intro v2 w2 ho2 hg2 hp2; obtain ⟨A2, c2, rfl⟩ := ho2.form; rw [List.length_append] at ho2 hp2 ⊢; have HO2 := hid ho2; have HG2 : Hid (Fr (fun b => v.ownBlock = some b) w w2) := hid (Fr.of_grown hg2); have HP2 : Hid (∀ b, (Value.slice A2 (l.length + k.length) c2).ownBlock = some b → v.ownBlock = some b ∨ w.heap.size ≤ b) := hid hp2; have HA2 := hid (blk_fr HG2.out H.out.at_ H.out.ne); have d1 : w2.cell? ⟨g, 0, none⟩ = some v := (by rw [blk_cell HA2.out]; rfl); have d2 := blk_frozen HA2.out 0; clear ho2 hg2 hp2)
  go_returns
  refine ⟨rfl, _, ⟨?_, ?_, ?_⟩, ?_, HP2.out⟩
  · rw [blk_set HA2.out]; rfl
  · exact HO2.out.fr (Fr.set_ _ _) (fun b hb e => by
      subst e
      rcases HP2.out _ hb with h | h
      · exact H.out.ne h
      · have := blk_lt H.out.at_; omega)
  · intro hb
    rcases HP2.out _ hb with h | h
    · exact H.out.ne h
    · have := blk_lt H.out.at_; omega
  · exact fr_set (HG2.out.mono fun _ _ h => .inr h) (.inl rfl) _ _
set_option maxHeartbeats 1000000 in
theorem vput_no (g : Nat) (e : Int) (v u : Value) (l : List UInt8) (w : World) (he : e ≠ 0) (h : VAt w g e v l) :
    Calls Try.prog 62 #[.pointer (some ⟨g, 0, none⟩), u] w fun r w' => r = .returned (.tuple #[]) ∧ w' = w := by
  have c0 := h.c0
  have hq : (e == 0) = false := by rw [beq_eq_false_iff_ne]; exact he
  clear h he
  go_enter Try.func62, Try.ntmps62
  go_wp2
  go_returns
  exact ⟨rfl, rfl⟩
theorem vput_any (g : Nat) (e : Int) (v u : Value) (l k : List UInt8) (w : World) (h : VAt w g e v l) (hu : SlB w u k) (hlen : l.length + k.length ≤ 140737488355328) :
    Calls Try.prog 62 #[.pointer (some ⟨g, 0, none⟩), u] w fun r w' => r = .returned (.tuple #[]) ∧ VLeft w w' g v e (wput e l k) := by
  unfold wput
  by_cases he : e = 0
  · subst he
    exact (vput_ok g v u l k w h hu hlen).mono fun _ _ h => by simpa using h
  · rw [if_neg he]
    exact (vput_no g e v u l w he h).mono fun _ _ h2 => by obtain ⟨rfl, rfl⟩ := h2; exact ⟨rfl, VLeft.refl h⟩
theorem VLeft.pre {w w1 w2 : World} {g : Nat} {v : Value} {e : Int} {l : List UInt8} (hb : Below w.heap.size w w1) (h : VLeft w1 w2 g v e l) (_hv : ∀ k, v.ownBlock = some k → k < w.heap.size) : VLeft w w2 g v e l := by
  obtain ⟨v', h1, h2, h3⟩ := h
  exact ⟨v', h1, ⟨h2.os.trans hb.os, h2.tape.trans hb.tape, h2.output.trans hb.output, Nat.le_trans hb.size h2.size, fun k hk hx => (h2.block k (Nat.lt_of_lt_of_le hk hb.size) hx).trans (hb.block k hk)⟩, fun k hk => (h3 k hk).imp_right fun h => Nat.le_trans hb.size h⟩
theorem VAt.lt {w : World} {g : Nat} {e : Int} {v : Value} {l : List UInt8} (h : VAt w g e v l) : ∀ k, v.ownBlock = some k → k < w.heap.size := fun k hk => (World.ownsRow.lt h.own k hk).2
set_option maxRecDepth 100000 in
set_option maxHeartbeats 1000000 in
theorem vForm_any (n : Nat) (hn : n ≤ 9223372036854775807) (w : World) :
    Calls Try.prog 47 #[.int .i64 n] w fun e w' => ∃ A c, e = .returned (.slice A (Pk.form n).length c) ∧ OwnB w' w.heap.size (.slice A (Pk.form n).length c) (Pk.form n) ∧ Below w.heap.size w w' := by
  have H9 := hid (Pk.form_nine n hn)
  go_enter Try.func47, Try.ntmps47
  go_wp2
  go_loopw [0, 3] (fun x u wr => ∃ (m : Nat) (l : List UInt8), m ≤ n ∧ x = .int .i64 m ∧ OwnB wr w.heap.size u l ∧ l ++ Pk.form m = Pk.form n ∧ Below w.heap.size w wr) (fun x _ _ => (intOf x).toNat)
  case atStart => exact ⟨n, [], Nat.le_refl _, rfl, OwnB.nil _ _, rfl, Below.refl _ _⟩
  case round =>
    obtain ⟨m, l, hm, rfl, ho, he, hb⟩ := hrel
    have HO := hid ho
    have HB := hid hb
    have HE := hid he
    have HL : Hid (l.length + (Pk.form m).length ≤ 9) := hid (by rw [← List.length_append, he]; exact H9.out)
    have HP := hid (Pk.form_pos m)
    clear ho hb he
    obtain ⟨A1, c1, rfl⟩ := HO.out.form
    by_cases hlt : m < 128
    · have HF := hid (Pk.form_small m hlt)
      have hlow := hid (pk_low m hlt)
      obtain ⟨b, hbb⟩ : ∃ b, UInt8.ofNat m = b := ⟨_, rfl⟩
      rw [hbb] at HF hlow
      clear hbb
      have q0 : (m : Int) % 128 = (m : Int) := by omega
      have q1 : (m : Int) / 128 = 0 := by omega
      go_wp2_with (at_builtin; refine wpList_appB rfl (.tmp 12) (.tmp 14) rfl w.heap.size _ _ l [b] rfl rfl (HO.out.alloc _) (by rw [hlow.out]; exact lit_sl wr [b] (by simp)) (by have := HL.out; have := HP.out; simp only [List.length_cons, List.length_nil]; omega) (by exact Nat.le_trans HB.out.size (by simp)) ?_; intro v2 w2 ho2 hg2; have hb2 := hid (OwnB.grown (HB.out.alloc HB.out.size _) (HO.out.alloc _) (Nat.le_refl _) (Nat.le_trans HB.out.size (by simp)) hg2); have ho3 := hid ho2)
      go_ret
      have e1 : l ++ [b] = Pk.form n := by rw [← HE.out, HF.out]
      have ho4 := ho3.out
      rw [e1] at ho4
      obtain ⟨A2, c2, e2⟩ := ho4.form
      rw [e2] at ho4 ⊢
      exact ⟨_, _, rfl, ho4, hb2.out⟩
    · have HF := hid (Pk.form_big m (by omega))
      have hhigh : (m : Int) % 128 + 128 = ((UInt8.ofNat (m % 128 + 128)).toNat : Int) := by rw [UInt8.toNat_ofNat']; omega
      obtain ⟨b, hbb⟩ : ∃ b, UInt8.ofNat (m % 128 + 128) = b := ⟨_, rfl⟩
      rw [hbb] at HF hhigh
      have hb1 := b.toNat_lt
      clear hbb
      have q1 : (m : Int) / 128 = ((m / 128 : Nat) : Int) := by omega
      obtain ⟨q, hq⟩ : ∃ q, q = m / 128 := ⟨_, rfl⟩
      have HQ := hid hq
      rw [← hq] at q1
      have hq0 : ((q : Int) == 0) = false := by rw [beq_eq_false_iff_ne]; omega
      clear hq
      go_wp2_with (at_builtin; refine wpList_appB rfl (.tmp 16) (.tmp 19) rfl w.heap.size _ _ l [b] rfl rfl (HO.out.alloc _) (by exact lit_sl wr [b] (by simp)) (by have := HL.out; have := HP.out; simp only [List.length_cons, List.length_nil]; omega) (by exact Nat.le_trans HB.out.size (by simp)) ?_; intro v2 w2 ho2 hg2; have hb2 := hid (OwnB.grown (HB.out.alloc HB.out.size _) (HO.out.alloc _) (Nat.le_refl _) (Nat.le_trans HB.out.size (by simp)) hg2); have ho3 := hid ho2)
      go_roundw
      case rel => exact ⟨q, l ++ [b], by have := HQ.out; omega, by go_num, ho3.out, by rw [← HE.out, HF.out, HQ.out]; simp, hb2.out⟩
      case measure => have := HQ.out; simp [intOf]; omega
set_option maxRecDepth 100000 in
set_option maxHeartbeats 1000000 in
theorem vUint_any (g : Nat) (e : Int) (v : Value) (l : List UInt8) (n : Nat) (hn : n ≤ 9223372036854775807) (w : World) (h : VAt w g e v l) (hlen : l.length + 9 ≤ 140737488355328) :
    Calls Try.prog 36 #[.pointer (some ⟨g, 0, none⟩), .int .i64 n] w fun r w' => r = .returned (.tuple #[]) ∧ VLeft w w' g v e (wput e l (Pk.form n)) := by
  have H := hid h
  have H9 := Pk.form_nine n hn
  have c0 := h.c0
  clear h
  rcases Int.lt_or_le e 0 with he | he
  case' inl => have hq : (e == 0) = false := by rw [beq_eq_false_iff_ne]; omega
  case' inr =>
    rcases Int.lt_or_le 0 e with he2 | he2
    case' inl => have hq : (e == 0) = false := by rw [beq_eq_false_iff_ne]; omega
    case' inr => have hq : (e == 0) = true := by rw [beq_iff_eq]; omega
  all_goals
    go_enter Try.func36, Try.ntmps36
    go_wp2_with fail
    refine (vForm_any n hn w).mono ?_
    rintro r w1 ⟨A, c, rfl, ho, hb⟩
    have HO := hid ho
    have HB := hid hb
    clear ho hb
    go_wp2_with fail
    refine (vput_any g e v _ l (Pk.form n) w1 (H.out.below HB.out) HO.out.sl (by omega)).mono ?_
    rintro r w2 ⟨rfl, hL⟩
    have HL := hid (hL.pre HB.out H.out.lt)
    clear hL
    go_wp2
    go_returns
    exact ⟨rfl, HL.out⟩
set_option maxHeartbeats 1000000 in
theorem vUint_neg (g : Nat) (e : Int) (v : Value) (l : List UInt8) (n : Int) (hn : n < 0) (w : World) (h : VAt w g e v l) :
    Calls Try.prog 36 #[.pointer (some ⟨g, 0, none⟩), .int .i64 n] w fun r w' => r = .returned (.tuple #[]) ∧ VLeft w w' g v (wfail e 33) l := by
  have H := hid h
  have c0 := h.c0
  have c2 := h.fz 1
  clear h
  by_cases he : e = 0
  · subst he
    go_enter Try.func36, Try.ntmps36
    go_wp2
    go_returns
    refine ⟨rfl, v, ⟨?_, ?_, H.out.ne⟩, fr_set (Fr.refl _ _) (.inl rfl) _ _, fun _ h => .inl h⟩
    · rw [blk_set H.out.at_]; rfl
    · exact H.out.own.fr (Fr.set_ _ _) (fun b hb e => by subst e; exact H.out.ne hb)
  · have hq : (e == 0) = false := by rw [beq_eq_false_iff_ne]; exact he
    have HE := hid he
    clear he
    go_enter Try.func36, Try.ntmps36
    go_wp2
    go_returns
    have e1 : wfail e 33 = e := by unfold wfail; rw [if_neg HE.out]
    rw [e1]
    exact ⟨rfl, VLeft.refl H.out⟩
set_option maxHeartbeats 1000000 in
theorem vErr_any (g : Nat) (e : Int) (v : Value) (l : List UInt8) (w : World) (h : VAt w g e v l) :
    Calls Try.prog 46 #[.pointer (some ⟨g, 0, none⟩)] w fun r w' => r = .returned (.int .i64 e) ∧ w' = w := by
  have c0 := h.c0
  clear h
  go_enter Try.func46, Try.ntmps46
  go_wp2
  go_ret
  exact ⟨rfl, rfl⟩
def dataOf (e : Int) (l : List UInt8) : List UInt8 := if e = 0 then l else []
set_option maxHeartbeats 1000000 in
theorem vData_any (g : Nat) (e : Int) (v : Value) (l : List UInt8) (w : World) (h : VAt w g e v l) (hlen : l.length ≤ 140737488355328) :
    Calls Try.prog 45 #[.pointer (some ⟨g, 0, none⟩)] w fun r w' => ∃ u, r = .returned u ∧ SlB w' u (dataOf e l) ∧ Below w.heap.size w w' := by
  have H := hid h
  have c0 := h.c0
  clear h
  by_cases he : e = 0
  · subst he
    have c1 := (H.out.below ((Below.refl _ _).alloc (Nat.le_refl _) (.cells #[] 5))).c1
    go_enter Try.func45, Try.ntmps45
    go_wp2_with (at_builtin; refine wpList_appB rfl (.tmp 8) (.tmp 12) rfl w.heap.size _ _ [] l rfl rfl (by exact lit0 w) (by exact (H.out.own.sl).below ((Below.refl _ _).alloc (Nat.le_refl _) _)) (by simp; omega) (by simp) ?_; intro v1 w1 ho1 hg1; have hb1 := hid (OwnB.grown ((Below.refl w.heap.size w).alloc (Nat.le_refl _) _) (lit0 w) (Nat.le_refl _) (by simp) hg1); have HO := hid ho1; clear ho1 hg1)
    go_ret
    exact ⟨_, rfl, by have := HO.out.sl; rw [List.nil_append] at this; exact this, hb1.out⟩
  · have hq : (e != 0) = true := by rw [bne_iff_ne]; exact he
    have e1 : dataOf e l = [] := by unfold dataOf; rw [if_neg he]
    rw [e1]
    clear he e1
    go_enter Try.func45, Try.ntmps45
    go_wp2
    go_ret
    exact ⟨_, rfl, Sl.nil _ _, Below.refl _ _⟩
set_option maxHeartbeats 1000000 in
theorem vwByte_any (g : Nat) (e : Int) (v : Value) (l : List UInt8) (b : UInt8) (w : World) (h : VAt w g e v l) (hlen : l.length + 1 ≤ 140737488355328) :
    Calls Try.prog 38 #[.pointer (some ⟨g, 0, none⟩), B b] w fun r w' => r = .returned (.tuple #[]) ∧ VLeft w w' g v e (wput e l [b]) := by
  have H := hid h
  clear h
  go_enter Try.func38, Try.ntmps38
  go_wp2_with fail
  refine (vput_any g e v _ l [b] _ (H.out.below ((Below.refl _ _).alloc (Nat.le_refl _) _)) (by exact lit_sl w [b] (by simp)) (by simpa using hlen)).mono ?_
  rintro r w2 ⟨rfl, hL⟩
  have HL := hid (hL.pre ((Below.refl _ _).alloc (Nat.le_refl _) _) H.out.lt)
  clear hL
  go_wp2
  go_returns
  exact ⟨rfl, HL.out⟩
set_option maxHeartbeats 1000000 in
theorem vwBool_any (g : Nat) (e : Int) (v : Value) (l : List UInt8) (b : Bool) (w : World) (h : VAt w g e v l) (hlen : l.length + 1 ≤ 140737488355328) :
    Calls Try.prog 40 #[.pointer (some ⟨g, 0, none⟩), .bool b] w fun r w' => r = .returned (.tuple #[]) ∧ VLeft w w' g v e (wput e l [if b then 1 else 0]) := by
  have H := hid h
  clear h
  cases b
  · go_enter Try.func40, Try.ntmps40
    go_wp2_with fail
    refine (vput_any g e v _ l [0] _ (H.out.below ((Below.refl _ _).alloc (Nat.le_refl _) _)) (by exact lit_sl w [0] (by simp)) (by simpa using hlen)).mono ?_
    rintro r w2 ⟨rfl, hL⟩
    have HL := hid (hL.pre ((Below.refl _ _).alloc (Nat.le_refl _) _) H.out.lt)
    clear hL
    go_wp2
    go_returns
    exact ⟨rfl, HL.out⟩
  · go_enter Try.func40, Try.ntmps40
    go_wp2_with fail
    refine (vput_any g e v _ l [1] _ (H.out.below ((Below.refl _ _).alloc (Nat.le_refl _) _)) (by exact lit_sl w [1] (by simp)) (by simpa using hlen)).mono ?_
    rintro r w2 ⟨rfl, hL⟩
    have HL := hid (hL.pre ((Below.refl _ _).alloc (Nat.le_refl _) _) H.out.lt)
    clear hL
    go_wp2
    go_returns
    exact ⟨rfl, HL.out⟩
theorem VLeft.then {w w1 w2 : World} {g : Nat} {v v1 : Value} {e e2 : Int} {l l2 : List UInt8} (h1 : VAt w1 g e v1 l) (hf : Fr (WX g v) w w1) (hp : ∀ k, v1.ownBlock = some k → v.ownBlock = some k ∨ w.heap.size ≤ k) (h : VLeft w1 w2 g v1 e2 l2) : VLeft w w2 g v e2 l2 := by
  obtain ⟨v2, a1, a2, a3⟩ := h
  refine ⟨v2, a1, hf.trans (a2.mono fun k hk hx => ?_), fun k hk => ?_⟩
  · rcases hx with hx | hx
    · exact .inl (.inl hx)
    · rcases hp k hx with h | h
      · exact .inl (.inr h)
      · exact .inr h
  · rcases a3 k hk with h | h
    · exact hp k h
    · exact .inr (Nat.le_trans hf.size h)
set_option maxHeartbeats 1000000 in
theorem vwBytes_any (g : Nat) (e : Int) (v u : Value) (l k : List UInt8) (w : World) (h : VAt w g e v l) (hu : SlB w u k) (hub : 0 < k.length → ∀ b, u.ownBlock = some b → b ≠ g ∧ v.ownBlock ≠ some b) (hlen : l.length + k.length + 9 ≤ 140737488355328) :
    Calls Try.prog 42 #[.pointer (some ⟨g, 0, none⟩), u] w fun r w' => r = .returned (.tuple #[]) ∧ VLeft w w' g v e (wput e (wput e l (Pk.form k.length)) k) := by
  have H := hid h
  have HU := hid hu
  have HUB := hid hub
  obtain ⟨A, c, rfl⟩ := hu.form
  have h9 := Pk.form_nine k.length (by omega)
  clear h hu hub
  go_enter Try.func42, Try.ntmps42
  go_wp2_with fail
  refine (vUint_any g e v l k.length (by omega) w H.out (by omega)).mono ?_
  rintro r w1 ⟨rfl, v1, hw1, hf1, hp1⟩
  have HW1 := hid hw1
  have HF1 := hid hf1
  have HP1 := hid hp1
  have hl1 : (wput e l (Pk.form k.length)).length + k.length ≤ 140737488355328 := by unfold wput; split <;> (try simp only [List.length_append]) <;> omega
  clear hw1 hf1 hp1
  go_wp2_with fail
  refine (vput_any g e v1 _ _ k w1 HW1.out ?_ hl1).mono ?_
  · obtain ⟨A', c', e1, h1, h2, h3⟩ := HU.out
    injection e1 with e1 e2 e3
    subst e1 e3
    refine ⟨A, c, rfl, h1, h2, fun h0 => ?_⟩
    obtain ⟨b, off, eA, hc⟩ := h3 h0
    refine ⟨b, off, eA, fun i hi => ?_⟩
    have hcc := hc i hi
    have hb := World.block_lt_of_cell? w _ hcc
    rw [World.cell?_of_block (w := w) (w' := w1) (a := ⟨b, off + i, none⟩), hcc]
    refine HF1.out.block b hb fun hx => ?_
    have := HUB.out h0 b (by rw [eA]; rfl)
    rcases hx with hx | hx
    · exact this.1 hx
    · exact this.2 hx
  rintro r w2 ⟨rfl, hL⟩
  have HL := hid (VLeft.then HW1.out HF1.out HP1.out hL)
  clear hL
  go_wp2
  go_returns
  exact ⟨rfl, HL.out⟩
set_option maxHeartbeats 1000000 in
theorem vwText_any (g : Nat) (e : Int) (v : Value) (l : List UInt8) (s : ByteArray) (w : World) (h : VAt w g e v l) (hlen : l.length + s.toList.length + 9 ≤ 140737488355328) :
    Calls Try.prog 44 #[.pointer (some ⟨g, 0, none⟩), .string s] w fun r w' => r = .returned (.tuple #[]) ∧ VLeft w w' g v e (wput e (wput e l (Pk.form s.toList.length)) s.toList) := by
  have H := hid h
  obtain ⟨c, w1, hrun, hs, hb⟩ := conv_bytes w s
  have HS := hid hs
  have HB := hid hb
  clear h hs hb
  go_enter Try.func44, Try.ntmps44
  go_wp2_with fail
  refine (vwBytes_any g e v _ l s.toList w1 (H.out.below HB.out) HS.out (fun _ b hb => ?_) hlen).mono ?_
  · simp only [Value.ownBlock, Option.some.injEq] at hb
    subst hb
    have := blk_lt H.out.at_
    exact ⟨by omega, fun h => by have := H.out.lt _ h; omega⟩
  rintro r w2 ⟨rfl, hL⟩
  have HL := hid (hL.pre HB.out H.out.lt)
  clear hL
  go_wp2
  go_returns
  exact ⟨rfl, HL.out⟩
end Go.Proofs.Ytamhlfhblgmhoaa
