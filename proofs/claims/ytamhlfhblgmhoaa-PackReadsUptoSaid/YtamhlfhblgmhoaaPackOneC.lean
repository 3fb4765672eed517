/- What is read is written again: one step of it. -/
import Derived.Test.YtamhlfhblgmhoaaPkT
import Derived.Test.YtamhlfhblgmhoaaPkV
namespace Go.Proofs.Ytamhlfhblgmhoaa
open Go.RowKit
/-- a reader, and a writer that was made behind it, which holds just what the reader has taken -/
structure One (w1 : World) (B2 gr gw : Nat) (dv : Value) (d : List UInt8) (e : Int) (k : Nat) (W : World) : Prop where
  b : Below w1.heap.size w1 W
  r : RAt W gr e dv d k
  wt : ∃ wv, WAt W gw 0 wv (d.take k) ∧ ∀ b, wv.ownBlock = some b → B2 ≤ b
  h1 : w1.heap.size ≤ gr
  h2 : gr < B2
  h3 : ∀ b, dv.ownBlock = some b → b < B2
  h4 : B2 ≤ gw
  h5 : B2 ≤ W.heap.size
theorem One.rd {w1 W W' : World} {B2 gr gw : Nat} {dv : Value} {d : List UInt8} {e e' : Int} {k : Nat} (h : One w1 B2 gr gw dv d e k W) (hL : RLeft W W' gr dv d e' k) : One w1 B2 gr gw dv d e' k W' := by
  obtain ⟨wv, hw, hwv⟩ := h.wt
  refine ⟨h.b.trans (hL.2.to_below (fun j hj e => by have := h.h1; omega) h.b.size), hL.1, ⟨wv, hw.fr hL.2 (by have := h.h2; have := h.h4; omega) (fun b hb e => by have := hwv b hb; have := h.h2; omega), hwv⟩, h.h1, h.h2, h.h3, h.h4, Nat.le_trans h.h5 hL.2.size⟩
theorem One.below {w1 W W' : World} {B2 gr gw : Nat} {dv : Value} {d : List UInt8} {e : Int} {k : Nat} (h : One w1 B2 gr gw dv d e k W) (hb : Below W.heap.size W W') : One w1 B2 gr gw dv d e k W' := by
  obtain ⟨wv, hw, hwv⟩ := h.wt
  exact ⟨h.b.trans (hb.mono h.b.size), h.r.below hb, ⟨wv, hw.below hb, hwv⟩, h.h1, h.h2, h.h3, h.h4, Nat.le_trans h.h5 hb.size⟩
/-- a read that took some bytes, and their writing -/
theorem One.both {w1 W W' W2 : World} {B2 gr gw : Nat} {dv wv : Value} {d : List UInt8} {e e' : Int} {k k' : Nat} (h : One w1 B2 gr gw dv d e k W) (hL : RLeft W W' gr dv d e' k') (hw : WAt W gw 0 wv (d.take k)) (hwv : ∀ b, wv.ownBlock = some b → B2 ≤ b)
    (hW : Left W' W2 gw wv 0 (d.take k')) : One w1 B2 gr gw dv d e' k' W2 := by
  obtain ⟨wv2, a1, a2, a3⟩ := hW
  have g1 := h.h1
  have g2 := h.h2
  have g3 := h.h3
  have g4 := h.h4
  have g5 := h.h5
  have g6 := h.b.size
  have g7 := hL.2.size
  have hb1 : Below w1.heap.size w1 W' := h.b.trans (hL.2.to_below (fun j hj e => by omega) h.b.size)
  refine ⟨hb1.trans (a2.to_below (fun j hj e => by
      rcases e with e | e
      · omega
      · have := hwv j e; omega) hb1.size), hL.1.fr a2 (fun e => by
      rcases e with e | e
      · omega
      · have := hwv _ e; omega) (fun b hb e => by
      have := g3 b hb
      rcases e with e | e
      · omega
      · have := hwv _ e; omega), ⟨wv2, a1, fun b hb => ?_⟩, g1, g2, g3, g4, Nat.le_trans g5 (Nat.le_trans g7 a2.size)⟩
  rcases a3 b hb with h | h
  · exact hwv b h
  · omega
theorem One.wAt {w1 W W' : World} {B2 gr gw : Nat} {dv wv : Value} {d : List UInt8} {e e' : Int} {k k' : Nat} (h : One w1 B2 gr gw dv d e k W) (hL : RLeft W W' gr dv d e' k') (hw : WAt W gw 0 wv (d.take k)) (hwv : ∀ b, wv.ownBlock = some b → B2 ≤ b) : WAt W' gw 0 wv (d.take k) :=
  hw.fr hL.2 (by have := h.h2; have := h.h4; omega) (fun b hb e => by have := hwv b hb; have := h.h2; omega)
theorem take_form {d : List UInt8} {k : Nat} {max : Int} {n s : Nat} (hn : Pk.num max 0 0 (d.drop k) = (n, s, 0)) : d.take (k + s) = d.take k ++ Pk.form n ∧ s = (Pk.form n).length ∧ (n : Int) ≤ max := by
  obtain ⟨m, rest, h1, h2, h3, h4, _, _⟩ := Pk.num_back max _ 0 0 n s hn
  have e : n = m := by rw [h2]; simp
  subst e
  refine ⟨?_, by simpa using h3, h4⟩
  rw [List.take_add, h1, h3, Nat.zero_add, List.take_left']
  rfl
theorem take_one {d : List UInt8} {k : Nat} (h : k < d.length) : d.take (k + 1) = d.take k ++ [d.getD k 0] := by
  rw [List.take_succ_eq_append_getElem h]; simp [h]
theorem take_part (d : List UInt8) (j n : Nat) : d.take (j + n) = d.take j ++ (d.drop j).take n := List.take_add
section
variable {w1 : World} {B2 gr gw : Nat} {dv : Value} {d : List UInt8} {k : Nat}
set_option maxHeartbeats 1000000 in
theorem copy_no (e : Int) (K : Int) (W : World) (he : e ≠ 0) (h : One w1 B2 gr gw dv d e k W) :
    Calls Try.prog 17 #[.pointer (some ⟨gw, 0, none⟩), .pointer (some ⟨gr, 0, none⟩), .int .i64 K] W fun r W' => r = .returned (.tuple #[]) ∧ W' = W := by
  by_cases h1 : K = 1
  · subst h1
    have hq : (e == 0) = false := by rw [beq_eq_false_iff_ne]; exact he
    have HR := hid h.r
    have HE := hid he
    clear h he
    go_enter Try.func17, Try.ntmps17
    go_wp2_with fail
    refine (rUint_no gr e dv d k _ W HE.out HR.out).mono ?_
    rintro r w2 ⟨rfl, rfl⟩
    go_wp2_with fail
    refine (rErr_any gr e dv d k _ HR.out).mono ?_
    rintro r w3 ⟨rfl, rfl⟩
    go_wp2
    go_returns
    exact ⟨rfl, rfl⟩
  by_cases h2 : K = 2
  · subst h2
    have hq : (e == 0) = false := by rw [beq_eq_false_iff_ne]; exact he
    have HR := hid h.r
    have HE := hid he
    clear h he
    go_enter Try.func17, Try.ntmps17
    go_wp2_with fail
    refine (rByte_no gr e dv d k W HE.out HR.out).mono ?_
    rintro r w2 ⟨rfl, rfl⟩
    go_wp2_with fail
    refine (rErr_any gr e dv d k _ HR.out).mono ?_
    rintro r w3 ⟨rfl, rfl⟩
    go_wp2
    go_returns
    exact ⟨rfl, rfl⟩
  by_cases h3 : K = 3
  · subst h3
    have hq : (e == 0) = false := by rw [beq_eq_false_iff_ne]; exact he
    have HR := hid h.r
    have HE := hid he
    clear h he
    go_enter Try.func17, Try.ntmps17
    go_wp2_with fail
    refine (rBool_no gr e dv d k W HE.out HR.out).mono ?_
    rintro r w2 ⟨rfl, rfl⟩
    go_wp2_with fail
    refine (rErr_any gr e dv d k _ HR.out).mono ?_
    rintro r w3 ⟨rfl, rfl⟩
    go_wp2
    go_returns
    exact ⟨rfl, rfl⟩
  by_cases h4 : K = 4
  · subst h4
    have hq : (e == 0) = false := by rw [beq_eq_false_iff_ne]; exact he
    have HR := hid h.r
    have HE := hid he
    clear h he
    go_enter Try.func17, Try.ntmps17
    go_wp2_with fail
    refine (rBytes_no gr e dv d k _ W HE.out HR.out).mono ?_
    rintro r w2 ⟨rfl, rfl⟩
    go_wp2_with fail
    refine (rErr_any gr e dv d k _ HR.out).mono ?_
    rintro r w3 ⟨rfl, rfl⟩
    go_wp2
    go_returns
    exact ⟨rfl, rfl⟩
  by_cases h5 : K = 5
  · subst h5
    have hq : (e == 0) = false := by rw [beq_eq_false_iff_ne]; exact he
    have HR := hid h.r
    have HE := hid he
    clear h he
    go_enter Try.func17, Try.ntmps17
    go_wp2_with fail
    refine (rText_of gr _ W [] (fun W' => W' = W) ((rBytes_no gr e dv d k _ W HE.out HR.out).mono fun r w' h => ⟨_, h.1, Sl.nil _ _, h.2⟩)).mono ?_
    rintro r w2 ⟨rfl, rfl⟩
    go_wp2_with fail
    refine (rErr_any gr e dv d k _ HR.out).mono ?_
    rintro r w3 ⟨rfl, rfl⟩
    go_wp2
    go_returns
    exact ⟨rfl, rfl⟩
  have g1 : (K == 1) = false := by rw [beq_eq_false_iff_ne]; exact h1
  have g2 : (K == 2) = false := by rw [beq_eq_false_iff_ne]; exact h2
  have g3 : (K == 3) = false := by rw [beq_eq_false_iff_ne]; exact h3
  have g4 : (K == 4) = false := by rw [beq_eq_false_iff_ne]; exact h4
  have g5 : (K == 5) = false := by rw [beq_eq_false_iff_ne]; exact h5
  clear h1 h2 h3 h4 h5
  go_enter Try.func17, Try.ntmps17
  go_wp2
  go_returns
  exact ⟨rfl, rfl⟩
set_option maxRecDepth 100000 in
set_option maxHeartbeats 1000000 in
theorem copy_1 (W : World) (hd : d.length ≤ 2097152) (h : One w1 B2 gr gw dv d 0 k W) :
    Calls Try.prog 17 #[.pointer (some ⟨gw, 0, none⟩), .pointer (some ⟨gr, 0, none⟩), .int .i64 1] W fun r W' => r = .returned (.tuple #[]) ∧ One w1 B2 gr gw dv d (Pk.num 9223372036854775807 0 0 (d.drop k)).2.2 (k + (Pk.num 9223372036854775807 0 0 (d.drop k)).2.1) W' := by
  have X := hid (rUint_ok gr dv d k 9223372036854775807 W h.r)
  have HF : Hid (∀ n s, Pk.num 9223372036854775807 0 0 (d.drop k) = (n, s, 0) → d.take (k + s) = d.take k ++ Pk.form n ∧ s = (Pk.form n).length ∧ (n : Int) ≤ 9223372036854775807) := hid fun n s hn => take_form hn
  have HZ : Hid ((Pk.num 9223372036854775807 0 0 (d.drop k)).2.2 ≠ 0 → (Pk.num 9223372036854775807 0 0 (d.drop k)).2.1 = 0) := hid fun hn => (Pk.num_err _ _ _ _ hn).2
  obtain ⟨R, hR⟩ : ∃ R, Pk.num 9223372036854775807 0 0 (d.drop k) = R := ⟨_, rfl⟩
  rw [hR] at X HF HZ ⊢
  clear hR
  obtain ⟨n, s, E⟩ := R
  simp only at X HZ ⊢
  by_cases hE : E = 0
  · subst hE
    obtain ⟨f1, f2, f3⟩ := HF.out n s rfl
    have H := hid h
    obtain ⟨wv, hw, hwv⟩ := h.wt
    have HW := hid hw
    have HWV := hid hwv
    have HF1 := hid f1
    have hn : n ≤ 9223372036854775807 := by omega
    clear h hw hwv f1 f2 f3
    go_enter Try.func17, Try.ntmps17
    go_wp2_with fail
    refine X.out.mono ?_
    rintro r w2 ⟨rfl, hL⟩
    have HL := hid hL
    clear hL
    go_wp2_with fail
    refine (rErr_any gr 0 dv d _ _ HL.out.1).mono ?_
    rintro r w3 ⟨rfl, rfl⟩
    go_wp2_with fail
    refine (Uint_any gw 0 wv _ n hn _ (H.out.wAt HL.out HW.out HWV.out) (by rw [List.length_take]; omega)).mono ?_
    rintro r w4 ⟨rfl, hL2⟩
    have e1 : wput 0 (d.take k) (Pk.form n) = d.take (k + s) := by rw [HF1.out]; rfl
    rw [e1] at hL2
    have HO := hid (H.out.both HL.out HW.out HWV.out hL2)
    clear hL2 e1
    go_wp2
    go_returns
    exact ⟨rfl, HO.out⟩
  · have hz := HZ.out hE
    subst hz
    have hq : (E == 0) = false := by rw [beq_eq_false_iff_ne]; exact hE
    clear hE HF HZ
    rw [Nat.add_zero]
    have H := hid h
    go_enter Try.func17, Try.ntmps17
    go_wp2_with fail
    refine (X.out).mono ?_
    rintro r w2 ⟨rfl, hL⟩
    have HL := hid (H.out.rd hL)
    clear hL h
    go_wp2_with fail
    refine (rErr_any gr E dv d k _ HL.out.r).mono ?_
    rintro r w3 ⟨rfl, rfl⟩
    go_wp2
    go_returns
    exact ⟨rfl, HL.out⟩
set_option maxRecDepth 100000 in
set_option maxHeartbeats 1000000 in
theorem copy_2 (W : World) (hd : d.length ≤ 2097152) (h : One w1 B2 gr gw dv d 0 k W) :
    Calls Try.prog 17 #[.pointer (some ⟨gw, 0, none⟩), .pointer (some ⟨gr, 0, none⟩), .int .i64 2] W fun r W' => r = .returned (.tuple #[]) ∧ ∃ e' k', One w1 B2 gr gw dv d e' k' W' ∧ k ≤ k' := by
  by_cases hk : k < d.length
  · have X := hid (rByte_ok gr dv d k W h.r hk)
    have HT := hid (take_one hk)
    have hlen : (d.take k).length + 1 ≤ 140737488355328 := by rw [List.length_take]; omega
    obtain ⟨b, hb⟩ : ∃ b, d.getD k 0 = b := ⟨_, rfl⟩
    rw [hb] at X HT
    have H := hid h
    obtain ⟨wv, hw, hwv⟩ := h.wt
    have HW := hid hw
    have HWV := hid hwv
    clear h hw hwv
    clear hb
    go_enter Try.func17, Try.ntmps17
    go_wp2_with fail
    refine X.out.mono ?_
    rintro r w2 ⟨rfl, hL⟩
    have HL := hid hL
    clear hL
    go_wp2_with fail
    refine (rErr_any gr 0 dv d _ _ HL.out.1).mono ?_
    rintro r w3 ⟨rfl, rfl⟩
    go_wp2_with fail
    refine (wByte_any gw 0 wv _ b _ (H.out.wAt HL.out HW.out HWV.out) hlen).mono ?_
    rintro r w4 ⟨rfl, hL2⟩
    rw [show wput 0 (d.take k) [b] = d.take (k + 1) by rw [HT.out]; rfl] at hL2
    have HO := hid (H.out.both HL.out HW.out HWV.out hL2)
    clear hL2
    go_wp2
    go_returns
    exact ⟨rfl, _, _, HO.out, by omega⟩
  · have hk : d.length ≤ k := by omega
    have H := hid h
    go_enter Try.func17, Try.ntmps17
    go_wp2_with fail
    refine (rByte_end gr dv d k W H.out.r hk).mono ?_
    rintro r w2 ⟨rfl, hL⟩
    have HL := hid (H.out.rd hL)
    clear hL h
    go_wp2_with fail
    refine (rErr_any gr 30 dv d k _ HL.out.r).mono ?_
    rintro r w3 ⟨rfl, rfl⟩
    go_wp2
    go_returns
    exact ⟨rfl, _, k, HL.out, Nat.le_refl _⟩
theorem bool_byte (b : UInt8) (h : b.toNat ≤ 1) : (if (b == 1) = true then (1 : UInt8) else 0) = b := by
  by_cases h1 : b = 1
  · subst h1; rfl
  · have : b = 0 := UInt8.toNat_inj.1 (by
      have : b.toNat ≠ 1 := fun e => h1 (UInt8.toNat_inj.1 (by simpa using e))
      simp; omega)
    subst this; rfl
set_option maxRecDepth 100000 in
set_option maxHeartbeats 1000000 in
theorem copy_3 (W : World) (hd : d.length ≤ 2097152) (h : One w1 B2 gr gw dv d 0 k W) :
    Calls Try.prog 17 #[.pointer (some ⟨gw, 0, none⟩), .pointer (some ⟨gr, 0, none⟩), .int .i64 3] W fun r W' => r = .returned (.tuple #[]) ∧ ∃ e' k', One w1 B2 gr gw dv d e' k' W' ∧ k ≤ k' := by
  by_cases hk : k < d.length
  · by_cases hb1 : (d.getD k 0).toNat ≤ 1
    · have X := hid (rBool_ok gr dv d k W h.r hk hb1)
      have HT := hid (take_one hk)
      have HB := hid (bool_byte _ hb1)
      have hlen : (d.take k).length + 1 ≤ 140737488355328 := by rw [List.length_take]; omega
      obtain ⟨b, hb⟩ : ∃ b, d.getD k 0 = b := ⟨_, rfl⟩
      rw [hb] at X HT HB
      obtain ⟨q, hq⟩ : ∃ q, (b == 1) = q := ⟨_, rfl⟩
      rw [hq] at X HB
      have H := hid h
      obtain ⟨wv, hw, hwv⟩ := h.wt
      have HW := hid hw
      have HWV := hid hwv
      clear h hw hwv
      clear hb hq hb1
      go_enter Try.func17, Try.ntmps17
      go_wp2_with fail
      refine X.out.mono ?_
      rintro r w2 ⟨rfl, hL⟩
      have HL := hid hL
      clear hL
      go_wp2_with fail
      refine (rErr_any gr 0 dv d _ _ HL.out.1).mono ?_
      rintro r w3 ⟨rfl, rfl⟩
      go_wp2_with fail
      refine (wBool_any gw 0 wv _ q _ (H.out.wAt HL.out HW.out HWV.out) hlen).mono ?_
      rintro r w4 ⟨rfl, hL2⟩
      rw [show wput 0 (d.take k) [if q = true then 1 else 0] = d.take (k + 1) by rw [HT.out, HB.out]; rfl] at hL2
      have HO := hid (H.out.both HL.out HW.out HWV.out hL2)
      clear hL2
      go_wp2
      go_returns
      exact ⟨rfl, _, _, HO.out, by omega⟩
    · have hb2 : 1 < (d.getD k 0).toNat := by omega
      have H := hid h
      go_enter Try.func17, Try.ntmps17
      go_wp2_with fail
      refine (rBool_bad gr dv d k W H.out.r hk hb2).mono ?_
      rintro r w2 ⟨rfl, hL⟩
      have HL := hid (H.out.rd hL)
      clear hL h
      go_wp2_with fail
      refine (rErr_any gr 31 dv d k _ HL.out.r).mono ?_
      rintro r w3 ⟨rfl, rfl⟩
      go_wp2
      go_returns
      exact ⟨rfl, _, k, HL.out, Nat.le_refl _⟩
  · have hk : d.length ≤ k := by omega
    have H := hid h
    go_enter Try.func17, Try.ntmps17
    go_wp2_with fail
    refine (rBool_end gr dv d k W H.out.r hk).mono ?_
    rintro r w2 ⟨rfl, hL⟩
    have HL := hid (H.out.rd hL)
    clear hL h
    go_wp2_with fail
    refine (rErr_any gr 30 dv d k _ HL.out.r).mono ?_
    rintro r w3 ⟨rfl, rfl⟩
    go_wp2
    go_returns
    exact ⟨rfl, _, k, HL.out, Nat.le_refl _⟩
theorem num_cases (max : Int) (d : List UInt8) (k : Nat) : (∃ E, E ≠ 0 ∧ ((Pk.num max 0 0 (d.drop k)).2.2 = E ∨ ((Pk.num max 0 0 (d.drop k)).2.2 = 0 ∧ E = 30 ∧ (d.length : Int) - k - (Pk.num max 0 0 (d.drop k)).2.1 < (Pk.num max 0 0 (d.drop k)).1))) ∨
    (∃ n s, Pk.num max 0 0 (d.drop k) = (n, s, 0) ∧ (k : Int) + s + n ≤ d.length) := by
  obtain ⟨R, hR⟩ : ∃ R, Pk.num max 0 0 (d.drop k) = R := ⟨_, rfl⟩
  rw [hR]
  obtain ⟨n, s, E⟩ := R
  by_cases hE : E = 0
  · subst hE
    by_cases hl : (d.length : Int) - k - s < n
    · exact .inl ⟨30, by decide, .inr ⟨rfl, rfl, hl⟩⟩
    · exact .inr ⟨n, s, rfl, by omega⟩
  · exact .inl ⟨E, hE, .inl rfl⟩
set_option maxRecDepth 100000 in
set_option maxHeartbeats 1000000 in
theorem copy_4 (W : World) (hd : d.length ≤ 2097152) (h : One w1 B2 gr gw dv d 0 k W) :
    Calls Try.prog 17 #[.pointer (some ⟨gw, 0, none⟩), .pointer (some ⟨gr, 0, none⟩), .int .i64 4] W fun r W' => r = .returned (.tuple #[]) ∧ ∃ e' k', One w1 B2 gr gw dv d e' k' W' ∧ k ≤ k' := by
  rcases num_cases 9223372036854775807 d k with ⟨E, hE, hn⟩ | ⟨n, s, hn, hin⟩
  · have X := hid (rBytes_err gr dv d k 9223372036854775807 W h.r E hE hn)
    have hq : (E == 0) = false := by rw [beq_eq_false_iff_ne]; exact hE
    clear hE hn
    have H := hid h
    go_enter Try.func17, Try.ntmps17
    go_wp2_with fail
    refine (X.out).mono ?_
    rintro r w2 ⟨rfl, hL⟩
    have HL := hid (H.out.rd hL)
    clear hL h
    go_wp2_with fail
    refine (rErr_any gr E dv d k _ HL.out.r).mono ?_
    rintro r w3 ⟨rfl, rfl⟩
    go_wp2
    go_returns
    exact ⟨rfl, _, k, HL.out, Nat.le_refl _⟩
  · have hin2 : k + s + n ≤ d.length := by omega
    obtain ⟨f1, _, _⟩ := take_form hn
    have X := hid (rBytes_ok gr dv d k 9223372036854775807 W h.r n s hn hin2)
    have HF1 := hid f1
    have HP := hid (take_part d (k + s) n)
    have hul : ((d.drop (k + s)).take n).length = n := by rw [List.length_take, List.length_drop]; omega
    obtain ⟨u, hu⟩ : ∃ u, (d.drop (k + s)).take n = u := ⟨_, rfl⟩
    rw [hu] at X HP hul
    have HUL := hid hul
    have hlen : (d.take k).length + u.length + 9 ≤ 140737488355328 := by rw [List.length_take, hul]; omega
    have HB := hid h.h5
    have HGW := hid (show ∀ b, W.heap.size ≤ b → b ≠ gw ∧ ∀ wv, WAt W gw 0 wv (d.take k) → wv.ownBlock ≠ some b from fun b hb => ⟨fun e => by
      obtain ⟨wv, hw, _⟩ := h.wt
      have := blk_lt hw.at_
      omega, fun wv hw e => by have := hw.lt _ e; omega⟩)
    have H := hid h
    obtain ⟨wv, hw, hwv⟩ := h.wt
    have HW := hid hw
    have HWV := hid hwv
    clear h hw hwv
    clear hn f1 hul hu hin
    go_enter Try.func17, Try.ntmps17
    go_wp2_with fail
    refine X.out.mono ?_
    rintro r w2 ⟨A, c, rfl, ho, hL⟩
    have HL := hid hL
    have HO := hid ho
    clear hL ho
    go_wp2_with fail
    refine (rErr_any gr 0 dv d _ _ HL.out.1).mono ?_
    rintro r w3 ⟨rfl, rfl⟩
    go_wp2_with fail
    refine (wBytes_any gw 0 wv _ _ u _ (H.out.wAt HL.out HW.out HWV.out) HO.out.sl (fun b hb => ?_) hlen).mono ?_
    · have h1 := (World.ownsRow.lt HO.out b hb).1
      exact ⟨(HGW.out b h1).1, (HGW.out b h1).2 wv HW.out⟩
    rintro r w4 ⟨rfl, hL2⟩
    rw [show wput 0 (wput 0 (d.take k) (Pk.form u.length)) u = d.take (k + s + n) by rw [HP.out, HF1.out, HUL.out]; rfl] at hL2
    have HO := hid (H.out.both HL.out HW.out HWV.out hL2)
    clear hL2
    go_wp2
    go_returns
    exact ⟨rfl, _, _, HO.out, by omega⟩
set_option maxRecDepth 100000 in
set_option maxHeartbeats 1000000 in
theorem copy_5 (W : World) (hd : d.length ≤ 2097152) (h : One w1 B2 gr gw dv d 0 k W) :
    Calls Try.prog 17 #[.pointer (some ⟨gw, 0, none⟩), .pointer (some ⟨gr, 0, none⟩), .int .i64 5] W fun r W' => r = .returned (.tuple #[]) ∧ ∃ e' k', One w1 B2 gr gw dv d e' k' W' ∧ k ≤ k' := by
  rcases num_cases 9223372036854775807 d k with ⟨E, hE, hn⟩ | ⟨n, s, hn, hin⟩
  · have X := hid (rText_of gr 9223372036854775807 W [] (fun w' => RLeft W w' gr dv d E k) ((rBytes_err gr dv d k 9223372036854775807 W h.r E hE hn).mono fun r w' h => ⟨_, h.1, Sl.nil _ _, h.2⟩))
    have hq : (E == 0) = false := by rw [beq_eq_false_iff_ne]; exact hE
    clear hE hn
    have H := hid h
    go_enter Try.func17, Try.ntmps17
    go_wp2_with fail
    refine (X.out).mono ?_
    rintro r w2 ⟨rfl, hL⟩
    have HL := hid (H.out.rd hL)
    clear hL h
    go_wp2_with fail
    refine (rErr_any gr E dv d k _ HL.out.r).mono ?_
    rintro r w3 ⟨rfl, rfl⟩
    go_wp2
    go_returns
    exact ⟨rfl, _, k, HL.out, Nat.le_refl _⟩
  · have hin2 : k + s + n ≤ d.length := by omega
    obtain ⟨f1, _, _⟩ := take_form hn
    have X := hid (rText_of gr 9223372036854775807 W ((d.drop (k + s)).take n) (fun w' => RLeft W w' gr dv d 0 (k + s + n)) ((rBytes_ok gr dv d k 9223372036854775807 W h.r n s hn hin2).mono fun r w' h => by
      obtain ⟨A, c, h1, h2, h3⟩ := h
      exact ⟨_, h1, h2.sl, h3⟩))
    have HF1 := hid f1
    have HP := hid (take_part d (k + s) n)
    have hul : ((d.drop (k + s)).take n).length = n := by rw [List.length_take, List.length_drop]; omega
    obtain ⟨u, hu⟩ : ∃ u, (d.drop (k + s)).take n = u := ⟨_, rfl⟩
    rw [hu] at X HP hul
    have HUL := hid hul
    have hlen : (d.take k).length + u.length + 9 ≤ 140737488355328 := by rw [List.length_take, hul]; omega
    have H := hid h
    obtain ⟨wv, hw, hwv⟩ := h.wt
    have HW := hid hw
    have HWV := hid hwv
    clear h hw hwv
    clear hn f1 hul hu hin
    go_enter Try.func17, Try.ntmps17
    go_wp2_with fail
    refine X.out.mono ?_
    rintro r w2 ⟨rfl, hL⟩
    have HL := hid hL
    clear hL
    go_wp2_with fail
    refine (rErr_any gr 0 dv d _ _ HL.out.1).mono ?_
    rintro r w3 ⟨rfl, rfl⟩
    go_wp2_with fail
    refine (wText_any gw 0 wv _ (str u) _ (H.out.wAt HL.out HW.out HWV.out) (by rw [str_toList]; exact hlen)).mono ?_
    rw [str_toList]
    rintro r w4 ⟨rfl, hL2⟩
    rw [show wput 0 (wput 0 (d.take k) (Pk.form u.length)) u = d.take (k + s + n) by rw [HP.out, HF1.out, HUL.out]; rfl] at hL2
    have HO := hid (H.out.both HL.out HW.out HWV.out hL2)
    clear hL2
    go_wp2
    go_returns
    exact ⟨rfl, _, _, HO.out, by omega⟩
set_option maxHeartbeats 1000000 in
theorem copy_any (e K : Int) (W : World) (hd : d.length ≤ 2097152) (h : One w1 B2 gr gw dv d e k W) :
    Calls Try.prog 17 #[.pointer (some ⟨gw, 0, none⟩), .pointer (some ⟨gr, 0, none⟩), .int .i64 K] W fun r W' => r = .returned (.tuple #[]) ∧ ∃ e' k', One w1 B2 gr gw dv d e' k' W' ∧ k ≤ k' := by
  by_cases he : e = 0
  · subst he
    by_cases h1 : K = 1
    · subst h1; exact (copy_1 W hd h).mono fun r W' h => ⟨h.1, _, _, h.2, Nat.le_add_right _ _⟩
    by_cases h2 : K = 2
    · subst h2; exact copy_2 W hd h
    by_cases h3 : K = 3
    · subst h3; exact copy_3 W hd h
    by_cases h4 : K = 4
    · subst h4; exact copy_4 W hd h
    by_cases h5 : K = 5
    · subst h5; exact copy_5 W hd h
    have H := hid h
    have g1 : (K == 1) = false := by rw [beq_eq_false_iff_ne]; exact h1
    have g2 : (K == 2) = false := by rw [beq_eq_false_iff_ne]; exact h2
    have g3 : (K == 3) = false := by rw [beq_eq_false_iff_ne]; exact h3
    have g4 : (K == 4) = false := by rw [beq_eq_false_iff_ne]; exact h4
    have g5 : (K == 5) = false := by rw [beq_eq_false_iff_ne]; exact h5
    clear h1 h2 h3 h4 h5 h hd
    go_enter Try.func17, Try.ntmps17
    go_wp2
    go_returns
    exact ⟨rfl, 0, k, H.out, Nat.le_refl _⟩
  · refine (copy_no e K W he h).mono ?_
    rintro r W' ⟨rfl, rfl⟩
    exact ⟨rfl, e, k, h, Nat.le_refl _⟩
end
end Go.Proofs.Ytamhlfhblgmhoaa
