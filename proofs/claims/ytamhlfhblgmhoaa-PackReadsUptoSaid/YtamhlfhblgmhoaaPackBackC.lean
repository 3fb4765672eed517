/- One thing written, one thing read. -/
import Derived.Test.YtamhlfhblgmhoaaPackOneC
import Derived.Test.YtamhlfhblgmhoaaPkO
namespace Go.Proofs.Ytamhlfhblgmhoaa
open Go.RowKit
theorem fr_sl {X : Nat → Prop} {w w1 : World} {v : Value} {l : List UInt8} (hf : Fr X w w1) (h : SlB w v l) (hx : ∀ b, b < w.heap.size → X b → ∀ i f, v = .slice (some ⟨b, i, none⟩) l.length f → l = []) : SlB w1 v l := by
  obtain ⟨A, c, rfl, h1, h2, h3⟩ := h
  refine ⟨A, c, rfl, h1, h2, fun h0 => ?_⟩
  obtain ⟨b, off, rfl, hc⟩ := h3 h0
  refine ⟨b, off, rfl, fun i hi => ?_⟩
  have hb := World.block_lt_of_cell? w _ (hc i hi)
  rw [World.cell?_of_block (w := w) (w' := w1) (a := ⟨b, off + i, none⟩), hc i hi]
  refine hf.block b hb fun hxb => ?_
  have := hx b hb hxb off c rfl
  rw [this] at h0; simp at h0
theorem fr_sl_lt {X : Nat → Prop} {w w1 : World} {v : Value} {l : List UInt8} (hf : Fr X w w1) (B : Nat) (hB : ∀ b, X b → B ≤ b) (w0 : World) (h0 : SlB w0 v l) (hw0 : w0.heap.size ≤ B) (hb : Below w0.heap.size w0 w) : SlB w1 v l :=
  h0.below (hb.trans (hf.to_below (fun k hk hx => by have := hB k hx; omega) hb.size))
set_option maxHeartbeats 1000000 in
theorem wBytes_arg (g : Nat) (v u : Value) (l k : List UInt8) (w : World) (h : WAt w g 0 v l) (hu : ∀ w1, Fr (WX g v) w w1 → SlB w1 u k) (hlen : l.length + k.length + 9 ≤ 140737488355328) :
    Calls Try.prog 41 #[.pointer (some ⟨g, 0, none⟩), u] w fun r w' => r = .returned (.tuple #[]) ∧ Left w w' g v 0 (l ++ (Pk.form k.length ++ k)) := by
  have H := hid h
  have HU := hid hu
  obtain ⟨A, c, rfl⟩ := (hu w (Fr.refl _ _)).form
  have h9 := Pk.form_nine k.length (by omega)
  clear h hu
  go_enter Try.func41, Try.ntmps41
  go_wp2_with fail
  refine (Uint_any g 0 v l k.length (by omega) w H.out (by omega)).mono ?_
  rintro r w1 ⟨rfl, v1, hw1, hf1, hp1⟩
  have HW1 := hid hw1
  have HF1 := hid hf1
  have HP1 := hid hp1
  have hl1 : (wput 0 l (Pk.form k.length)).length + k.length ≤ 140737488355328 := by show (l ++ Pk.form k.length).length + _ ≤ _; simp only [List.length_append]; omega
  clear hw1 hf1 hp1
  go_wp2_with fail
  refine (put_any g 0 v1 _ _ k w1 HW1.out (HU.out w1 HF1.out) hl1).mono ?_
  rintro r w2 ⟨rfl, hL⟩
  have HL := hid (Left.then HW1.out HF1.out HP1.out hL)
  clear hL
  go_wp2
  go_returns
  exact ⟨rfl, by rw [← List.append_assoc]; exact HL.out⟩
def POp.num (o : POp) : Nat := if o.n < 0 then (-(o.n + 1)).toNat else o.n.toNat
def POp.bit (o : POp) : Bool := ((o.b.toNat : Int) % 2 == 1)
def POp.enc (o : POp) : List UInt8 :=
  if o.kind = 1 then Pk.form o.num else if o.kind = 2 then [o.b] else if o.kind = 3 then [if o.bit = true then 1 else 0]
  else if o.kind = 4 then Pk.form o.l.length ++ o.l else if o.kind = 5 then Pk.form o.s.toList.length ++ o.s.toList else []
theorem POp.num_eq (o : POp) : (o.n < 0 → -(o.n + 1) = (o.num : Int)) ∧ (0 ≤ o.n → o.n = (o.num : Int)) := by
  unfold POp.num
  constructor
  · intro h; rw [if_pos h]; omega
  · intro h; rw [if_neg (by omega)]; omega
theorem Left.box {w w2 : World} {g : Nat} {v : Value} {e : Int} {l : List UInt8} {o : Obj} (h : WAt w g e v l) {e2 : Int} {l2 : List UInt8} (hL : Left (w.alloc o) w2 g v e2 l2) : Left w w2 g v e2 l2 := hL.pre ((Below.refl _ _).alloc (Nat.le_refl _) _) h.lt
theorem fr_box {X : Nat → Prop} {w w1 : World} {o : Obj} (h : Fr X (w.alloc o) w1) : Fr X w w1 :=
  (Fr.alloc X w o).trans (h.mono fun _ _ h => .inl h)
theorem WAt.box {w : World} {g : Nat} {v : Value} {e : Int} {l : List UInt8} (h : WAt w g e v l) (o : Obj) : WAt (w.alloc o) g e v l := h.below ((Below.refl _ _).alloc (Nat.le_refl _) _)
section
variable {g : Nat} {wv v : Value} {l L : List UInt8} {n : Int} {N : Nat} {b : UInt8} {s : ByteArray} {w : World}
set_option maxRecDepth 100000 in
set_option maxHeartbeats 1000000 in
theorem write_1 (hN : (n < 0 → -(n + 1) = (N : Int)) ∧ (0 ≤ n → n = (N : Int))) (hN9 : N ≤ 9223372036854775807) (n0 : -9223372036854775808 ≤ n) (hlen : l.length + 9 ≤ 140737488355328) (h : WAt w g 0 wv l) :
    Calls Try.prog 29 #[.pointer (some ⟨g, 0, none⟩), .agg #[.int .i64 1, .int .i64 n, B b, v, .string s]] w fun r w' => r = .returned (.tuple #[]) ∧ Left w w' g wv 0 (l ++ Pk.form N) := by
  have H := hid h
  clear h
  rcases Int.lt_or_le n 0 with hn | hn
  case' inl => have e1 := hN.1 hn
  case' inr => obtain rfl := hN.2 hn
  all_goals
    go_enter Try.func29, Try.ntmps29
    go_wp2_with fail
    refine (Uint_any g 0 wv l N hN9 _ (H.out.box _) hlen).mono ?_
    rintro r w2 ⟨rfl, hL⟩
    have HL := hid (hL.box H.out)
    clear hL
    go_wp2
    go_returns
    exact ⟨rfl, HL.out⟩
set_option maxRecDepth 100000 in
set_option maxHeartbeats 1000000 in
theorem write_2 (hN : (n < 0 → -(n + 1) = (N : Int)) ∧ (0 ≤ n → n = (N : Int))) (n0 : -9223372036854775808 ≤ n) (hlen : l.length + 9 ≤ 140737488355328) (h : WAt w g 0 wv l) :
    Calls Try.prog 29 #[.pointer (some ⟨g, 0, none⟩), .agg #[.int .i64 2, .int .i64 n, B b, v, .string s]] w fun r w' => r = .returned (.tuple #[]) ∧ Left w w' g wv 0 (l ++ [b]) := by
  have H := hid h
  clear h
  rcases Int.lt_or_le n 0 with hn | hn
  case' inl => have e1 := hN.1 hn
  case' inr => obtain rfl := hN.2 hn
  all_goals
    go_enter Try.func29, Try.ntmps29
    go_wp2_with fail
    refine (wByte_any g 0 wv l b _ (H.out.box _) (by omega)).mono ?_
    rintro r w2 ⟨rfl, hL⟩
    have HL := hid (hL.box H.out)
    clear hL
    go_wp2
    go_returns
    exact ⟨rfl, HL.out⟩
set_option maxRecDepth 100000 in
set_option maxHeartbeats 1000000 in
theorem write_3 (q : Bool) (hq : ((b.toNat : Int) % 2 == 1) = q) (hN : (n < 0 → -(n + 1) = (N : Int)) ∧ (0 ≤ n → n = (N : Int))) (n0 : -9223372036854775808 ≤ n) (hlen : l.length + 9 ≤ 140737488355328) (h : WAt w g 0 wv l) :
    Calls Try.prog 29 #[.pointer (some ⟨g, 0, none⟩), .agg #[.int .i64 3, .int .i64 n, B b, v, .string s]] w fun r w' => r = .returned (.tuple #[]) ∧ Left w w' g wv 0 (l ++ [if q = true then 1 else 0]) := by
  have H := hid h
  clear h
  obtain ⟨x, hx⟩ : ∃ x : List UInt8, x = [if q = true then 1 else 0] := ⟨_, rfl⟩
  rw [← hx]
  have HX := hid hx
  clear hx
  rcases Int.lt_or_le n 0 with hn | hn
  case' inl => have e1 := hN.1 hn
  case' inr => obtain rfl := hN.2 hn
  all_goals
    go_enter Try.func29, Try.ntmps29
    go_wp2_with fail
    refine (wBool_any g 0 wv l q _ (H.out.box _) (by omega)).mono ?_
    rw [← HX.out]
    rintro r w2 ⟨rfl, hL⟩
    have HL := hid (hL.box H.out)
    clear hL
    go_wp2
    go_returns
    exact ⟨rfl, HL.out⟩
set_option maxRecDepth 100000 in
set_option maxHeartbeats 1000000 in
theorem write_4 (hs : ∀ w1, Fr (WX g wv) w w1 → SlB w1 v L) (hN : (n < 0 → -(n + 1) = (N : Int)) ∧ (0 ≤ n → n = (N : Int))) (n0 : -9223372036854775808 ≤ n) (hlen : l.length + L.length + 9 ≤ 140737488355328) (h : WAt w g 0 wv l) :
    Calls Try.prog 29 #[.pointer (some ⟨g, 0, none⟩), .agg #[.int .i64 4, .int .i64 n, B b, v, .string s]] w fun r w' => r = .returned (.tuple #[]) ∧ Left w w' g wv 0 (l ++ (Pk.form L.length ++ L)) := by
  have H := hid h
  have HS := hid hs
  obtain ⟨A, c, rfl⟩ := (hs w (Fr.refl _ _)).form
  clear h hs
  rcases Int.lt_or_le n 0 with hn | hn
  case' inl => have e1 := hN.1 hn
  case' inr => obtain rfl := hN.2 hn
  all_goals
    go_enter Try.func29, Try.ntmps29
    go_wp2_with fail
    refine (wBytes_arg g wv _ l L _ (H.out.box _) (fun w1 h1 => HS.out w1 (fr_box h1)) hlen).mono ?_
    rintro r w2 ⟨rfl, hL⟩
    have HL := hid (hL.box H.out)
    clear hL
    go_wp2
    go_returns
    exact ⟨rfl, HL.out⟩
set_option maxRecDepth 100000 in
set_option maxHeartbeats 1000000 in
theorem write_5 (hN : (n < 0 → -(n + 1) = (N : Int)) ∧ (0 ≤ n → n = (N : Int))) (n0 : -9223372036854775808 ≤ n) (hlen : l.length + s.toList.length + 9 ≤ 140737488355328) (h : WAt w g 0 wv l) :
    Calls Try.prog 29 #[.pointer (some ⟨g, 0, none⟩), .agg #[.int .i64 5, .int .i64 n, B b, v, .string s]] w fun r w' => r = .returned (.tuple #[]) ∧ Left w w' g wv 0 (l ++ (Pk.form s.toList.length ++ s.toList)) := by
  have H := hid h
  clear h
  have HE : Hid (wput 0 (wput 0 l (Pk.form s.toList.length)) s.toList = l ++ (Pk.form s.toList.length ++ s.toList)) := hid (by show (l ++ Pk.form s.toList.length) ++ s.toList = _; rw [List.append_assoc])
  obtain ⟨x, hx⟩ : ∃ x, x = l ++ (Pk.form s.toList.length ++ s.toList) := ⟨_, rfl⟩
  rw [← hx] at HE ⊢
  have hl2 := hid hlen
  clear hx hlen
  rcases Int.lt_or_le n 0 with hn | hn
  case' inl => have e1 := hN.1 hn
  case' inr => obtain rfl := hN.2 hn
  all_goals
    go_enter Try.func29, Try.ntmps29
    go_wp2_with fail
    refine (wText_any g 0 wv l s _ (H.out.box _) hl2.out).mono ?_
    rw [HE.out]
    rintro r w2 ⟨rfl, hL⟩
    have HL := hid (hL.box H.out)
    clear hL
    go_wp2
    go_returns
    exact ⟨rfl, HL.out⟩
set_option maxRecDepth 100000 in
set_option maxHeartbeats 1000000 in
theorem write_0 (K : Int) (h1 : K ≠ 1) (h2 : K ≠ 2) (h3 : K ≠ 3) (h4 : K ≠ 4) (h5 : K ≠ 5) (hN : (n < 0 → -(n + 1) = (N : Int)) ∧ (0 ≤ n → n = (N : Int))) (n0 : -9223372036854775808 ≤ n) (h : WAt w g 0 wv l) :
    Calls Try.prog 29 #[.pointer (some ⟨g, 0, none⟩), .agg #[.int .i64 K, .int .i64 n, B b, v, .string s]] w fun r w' => r = .returned (.tuple #[]) ∧ Left w w' g wv 0 l := by
  have H := hid h
  have g1 : (K == 1) = false := by rw [beq_eq_false_iff_ne]; exact h1
  have g2 : (K == 2) = false := by rw [beq_eq_false_iff_ne]; exact h2
  have g3 : (K == 3) = false := by rw [beq_eq_false_iff_ne]; exact h3
  have g4 : (K == 4) = false := by rw [beq_eq_false_iff_ne]; exact h4
  have g5 : (K == 5) = false := by rw [beq_eq_false_iff_ne]; exact h5
  clear h h1 h2 h3 h4 h5
  rcases Int.lt_or_le n 0 with hn | hn
  case' inl => have e1 := hN.1 hn
  case' inr => obtain rfl := hN.2 hn
  all_goals
    go_enter Try.func29, Try.ntmps29
    go_wp2
    go_returns
    exact ⟨rfl, Left.box H.out (Left.refl (H.out.box _))⟩
end
theorem write_any (g : Nat) (wv v : Value) (l : List UInt8) (o : POp) (w : World) (n0 : -9223372036854775808 ≤ o.n) (n1 : o.n ≤ 9223372036854775807) (h : WAt w g 0 wv l) (hs : ∀ w1, Fr (WX g wv) w w1 → SlB w1 v o.l) (hlen : l.length + o.l.length + o.s.toList.length + 9 ≤ 140737488355328) :
    Calls Try.prog 29 #[.pointer (some ⟨g, 0, none⟩), .agg (o.vals v).toArray] w fun r w' => r = .returned (.tuple #[]) ∧ Left w w' g wv 0 (l ++ o.enc) := by
  have hN := o.num_eq
  have hN9 : o.num ≤ 9223372036854775807 := by
    rcases Int.lt_or_le o.n 0 with h | h
    · have := hN.1 h; omega
    · have := hN.2 h; omega
  obtain ⟨K, n, b, L, s⟩ := o
  simp only at n0 n1 hN hs hlen
  unfold POp.enc POp.vals
  simp only
  by_cases h1 : K = 1
  · subst h1; rw [if_pos rfl]; exact write_1 hN hN9 n0 (by omega) h
  by_cases h2 : K = 2
  · subst h2; rw [if_neg h1, if_pos rfl]; exact write_2 hN n0 (by omega) h
  by_cases h3 : K = 3
  · subst h3; rw [if_neg h1, if_neg h2, if_pos rfl]; exact write_3 _ rfl hN n0 (by omega) h
  by_cases h4 : K = 4
  · subst h4; rw [if_neg h1, if_neg h2, if_neg h3, if_pos rfl]; exact write_4 hs hN n0 (by omega) h
  by_cases h5 : K = 5
  · subst h5; rw [if_neg h1, if_neg h2, if_neg h3, if_neg h4, if_pos rfl]; exact write_5 hN n0 (by omega) h
  rw [if_neg h1, if_neg h2, if_neg h3, if_neg h4, if_neg h5, List.append_nil]
  exact write_0 K h1 h2 h3 h4 h5 hN n0 h
end Go.Proofs.Ytamhlfhblgmhoaa
