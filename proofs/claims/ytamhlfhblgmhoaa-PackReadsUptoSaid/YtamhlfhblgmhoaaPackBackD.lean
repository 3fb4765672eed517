/- One thing read and compared. -/
import Derived.Test.YtamhlfhblgmhoaaPackBackC
import Derived.Test.YtamhlfhblgmhoaaPackOneW
import Derived.Deep.RegionHeld3
namespace Go.Proofs.Ytamhlfhblgmhoaa
open Go.RowKit
theorem RAt.box {w : World} {g : Nat} {e : Int} {v : Value} {d : List UInt8} {k : Nat} (h : RAt w g e v d k) (o : Obj) : RAt (w.alloc o) g e v d k := h.below ((Below.refl _ _).alloc (Nat.le_refl _) _)
theorem RLeft.pre {w w1 w2 : World} {g : Nat} {e e2 : Int} {v : Value} {d : List UInt8} {k k2 : Nat} (h : RAt w g e v d k) (hb : Below w.heap.size w w1) (hL : RLeft w1 w2 g v d e2 k2) : RLeft w w2 g v d e2 k2 :=
  ((RLeft.refl h).below hb).trans hL
section
variable {gr k k' : Nat} {dv v : Value} {d L : List UInt8} {e e' : Int} {n : Int} {N : Nat} {b : UInt8} {s : ByteArray} {w : World}
set_option maxRecDepth 100000 in
set_option maxHeartbeats 1000000 in
theorem read_1 (x : Nat) (hN : (n < 0 → -(n + 1) = (N : Int)) ∧ (0 ≤ n → n = (N : Int))) (n0 : -9223372036854775808 ≤ n) (h : RAt w gr e dv d k)
    (hx : ∀ W, RAt W gr e dv d k → Calls Try.prog 23 #[.pointer (some ⟨gr, 0, none⟩), .int .i64 N] W fun r w' => r = .returned (.int .i64 x) ∧ RLeft W w' gr dv d e' k') :
    Calls Try.prog 31 #[.pointer (some ⟨gr, 0, none⟩), .agg #[.int .i64 1, .int .i64 n, B b, v, .string s]] w fun r w' => r = .returned (.bool ((x : Int) == (N : Int))) ∧ RLeft w w' gr dv d e' k' := by
  have H := hid h
  have HX := hid hx
  clear h hx
  rcases Int.lt_or_le n 0 with hn | hn
  case' inl => have e1 := hN.1 hn
  case' inr => obtain rfl := hN.2 hn
  all_goals
    go_enter Try.func31, Try.ntmps31
    go_wp2_with fail
    refine (HX.out _ (H.out.box _)).mono ?_
    rintro r w2 ⟨rfl, hL⟩
    have HL := hid (RLeft.pre H.out ((Below.refl _ _).alloc (Nat.le_refl _) _) hL)
    clear hL
    go_wp2
    go_ret
    exact ⟨by simp, HL.out⟩
theorem fr_cell {w w1 : World} {g : Nat} (hf : Fr (fun b => b = g) w w1) {p : Addr} {v : Value} (h : w.cell? p = some v) (hp : p.block ≠ g) : w1.cell? p = some v := by
  rw [World.cell?_of_block (w := w) (w' := w1) (hf.block p.block (World.block_lt_of_cell? w _ h) hp), h]
set_option maxRecDepth 100000 in
set_option maxHeartbeats 1000000 in
theorem read_2 (x : UInt8) (hN : (n < 0 → -(n + 1) = (N : Int)) ∧ (0 ≤ n → n = (N : Int))) (n0 : -9223372036854775808 ≤ n) (h : RAt w gr e dv d k)
    (hx : ∀ W, RAt W gr e dv d k → Calls Try.prog 22 #[.pointer (some ⟨gr, 0, none⟩)] W fun r w' => r = .returned (B x) ∧ RLeft W w' gr dv d e' k') :
    Calls Try.prog 31 #[.pointer (some ⟨gr, 0, none⟩), .agg #[.int .i64 2, .int .i64 n, B b, v, .string s]] w fun r w' => r = .returned (.bool ((x.toNat : Int) == (b.toNat : Int))) ∧ RLeft w w' gr dv d e' k' := by
  have H := hid h
  have HX := hid hx
  have hne := blk_lt h.at_
  clear h hx
  rcases Int.lt_or_le n 0 with hn | hn
  case' inl => have e1 := hN.1 hn
  case' inr => obtain rfl := hN.2 hn
  all_goals
    go_enter Try.func31, Try.ntmps31
    go_wp2
    refine Code.seen (fun W => W.heap[w.heap.size]? = some (.cells #[.int .i64 2, .int .i64 _, B b, v, .string s] 41 (0, 0)) ∧ RLeft w W gr dv d e k) ⟨heap_alloc_new _ _, (RLeft.refl H.out).below ((Below.refl _ _).alloc (Nat.le_refl _) _)⟩ fun W1 H1 => ?_
    have hc : W1.cell? ⟨w.heap.size, 2, none⟩ = some (B b) := by rw [blk_cell H1.out.1]; rfl
    go_region_held3 (fun W => W.cell? ⟨w.heap.size, 2, none⟩ = some (B b))
      (first | assumption | exact hc | exact fr_cell hL.2 hc (by show w.heap.size ≠ gr; omega))
      (first | (go_at_call 22; refine (HX.out _ (H1.out.2.1.below ((Below.refl _ _).drew))).mono ?_; rintro r w' ⟨rfl, hL⟩))
    all_goals
      go_wp2
      go_ret
      exact ⟨rfl, (H1.out.2.below ((Below.refl _ _).drew)).trans hL⟩
set_option maxRecDepth 100000 in
set_option maxHeartbeats 1000000 in
theorem read_3 (x q : Bool) (hq : ((b.toNat : Int) % 2 == 1) = q) (hN : (n < 0 → -(n + 1) = (N : Int)) ∧ (0 ≤ n → n = (N : Int))) (n0 : -9223372036854775808 ≤ n) (h : RAt w gr e dv d k)
    (hx : ∀ W, RAt W gr e dv d k → Calls Try.prog 48 #[.pointer (some ⟨gr, 0, none⟩)] W fun r w' => r = .returned (.bool x) ∧ RLeft W w' gr dv d e' k') :
    Calls Try.prog 31 #[.pointer (some ⟨gr, 0, none⟩), .agg #[.int .i64 3, .int .i64 n, B b, v, .string s]] w fun r w' => r = .returned (.bool (x == q)) ∧ RLeft w w' gr dv d e' k' := by
  have H := hid h
  have HX := hid hx
  have hne := blk_lt h.at_
  clear h hx
  rcases Int.lt_or_le n 0 with hn | hn
  case' inl => have e1 := hN.1 hn
  case' inr => obtain rfl := hN.2 hn
  all_goals
    go_enter Try.func31, Try.ntmps31
    go_wp2
    refine Code.seen (fun W => W.heap[w.heap.size]? = some (.cells #[.int .i64 3, .int .i64 _, B b, v, .string s] 41 (0, 0)) ∧ RLeft w W gr dv d e k) ⟨heap_alloc_new _ _, (RLeft.refl H.out).below ((Below.refl _ _).alloc (Nat.le_refl _) _)⟩ fun W1 H1 => ?_
    have hc : W1.cell? ⟨w.heap.size, 2, none⟩ = some (B b) := by rw [blk_cell H1.out.1]; rfl
    go_region_held3 (fun W => W.cell? ⟨w.heap.size, 2, none⟩ = some (B b))
      (first | assumption | exact hc | exact fr_cell hL.2 hc (by show w.heap.size ≠ gr; omega))
      (first | (go_at_call 48; refine (HX.out _ (H1.out.2.1.below ((Below.refl _ _).drew))).mono ?_; rintro r w' ⟨rfl, hL⟩))
    all_goals
      go_wp2
      go_ret
      exact ⟨congrArg (fun q => Ending.returned (.bool (x == q))) (by rw [Int.tmod_eq_emod_of_nonneg (by omega)]; exact hq), (H1.out.2.below ((Below.refl _ _).drew)).trans hL⟩
set_option maxRecDepth 100000 in
set_option maxHeartbeats 1000000 in
theorem read_4 (K : List UInt8) (hv : ∀ w1, Fr (fun b => b = gr) w w1 → SlB w1 v L) (hN : (n < 0 → -(n + 1) = (N : Int)) ∧ (0 ≤ n → n = (N : Int))) (n0 : -9223372036854775808 ≤ n) (h : RAt w gr e dv d k)
    (hx : ∀ W, RAt W gr e dv d k → Calls Try.prog 49 #[.pointer (some ⟨gr, 0, none⟩), .int .i64 L.length] W fun r w' => ∃ u, r = .returned u ∧ SlB w' u K ∧ RLeft W w' gr dv d e' k') :
    Calls Try.prog 31 #[.pointer (some ⟨gr, 0, none⟩), .agg #[.int .i64 4, .int .i64 n, B b, v, .string s]] w fun r w' => r = .returned (.bool (decide (K = L))) ∧ RLeft w w' gr dv d e' k' := by
  have H := hid h
  have HX := hid hx
  have HV := hid hv
  have hne := blk_lt h.at_
  obtain ⟨A, c, rfl⟩ := (hv w (Fr.refl _ _)).form
  clear h hx hv
  rcases Int.lt_or_le n 0 with hn | hn
  case' inl => have e1 := hN.1 hn
  case' inr => obtain rfl := hN.2 hn
  all_goals
    go_enter Try.func31, Try.ntmps31
    go_wp2
    refine Code.seen (fun W => W.heap[w.heap.size]? = some (.cells #[.int .i64 4, .int .i64 _, B b, .slice A L.length c, .string s] 41 (0, 0)) ∧ RLeft w W gr dv d e k) ⟨heap_alloc_new _ _, (RLeft.refl H.out).below ((Below.refl _ _).alloc (Nat.le_refl _) _)⟩ fun W1 H1 => ?_
    have hc : W1.cell? ⟨w.heap.size, 3, none⟩ = some (.slice A L.length c) := by rw [blk_cell H1.out.1]; rfl
    go_region_held3 (fun W => W.cell? ⟨w.heap.size, 3, none⟩ = some (.slice A L.length c))
      (first | assumption | exact hc | exact fr_cell hL.2 hc (by show w.heap.size ≠ gr; omega))
      (first
        | (go_at_call 49; refine (HX.out _ (H1.out.2.1.below ((Below.refl _ _).drew))).mono ?_; rintro r w' ⟨u, rfl, hu, hL⟩)
        | (go_at_call 20; refine (same_any _ _ K L _ hu (HV.out _ ((H1.out.2.below ((Below.refl _ _).drew)).trans hL).2)).mono ?_; rintro r w2 ⟨rfl, rfl⟩))
    all_goals
      go_wp2
      go_ret
      exact ⟨rfl, (H1.out.2.below ((Below.refl _ _).drew)).trans hL⟩
set_option maxRecDepth 100000 in
set_option maxHeartbeats 1000000 in
theorem read_5 (K : List UInt8) (hN : (n < 0 → -(n + 1) = (N : Int)) ∧ (0 ≤ n → n = (N : Int))) (n0 : -9223372036854775808 ≤ n) (h : RAt w gr e dv d k)
    (hx : ∀ W, RAt W gr e dv d k → Calls Try.prog 50 #[.pointer (some ⟨gr, 0, none⟩), .int .i64 s.size] W fun r w' => r = .returned (.string (str K)) ∧ RLeft W w' gr dv d e' k') :
    Calls Try.prog 31 #[.pointer (some ⟨gr, 0, none⟩), .agg #[.int .i64 5, .int .i64 n, B b, v, .string s]] w fun r w' => r = .returned (.bool ((str K).toList == s.toList)) ∧ RLeft w w' gr dv d e' k' := by
  have H := hid h
  have HX := hid hx
  have hne := blk_lt h.at_
  clear h hx
  rcases Int.lt_or_le n 0 with hn | hn
  case' inl => have e1 := hN.1 hn
  case' inr => obtain rfl := hN.2 hn
  all_goals
    go_enter Try.func31, Try.ntmps31
    go_wp2
    refine Code.seen (fun W => W.heap[w.heap.size]? = some (.cells #[.int .i64 5, .int .i64 _, B b, v, .string s] 41 (0, 0)) ∧ RLeft w W gr dv d e k) ⟨heap_alloc_new _ _, (RLeft.refl H.out).below ((Below.refl _ _).alloc (Nat.le_refl _) _)⟩ fun W1 H1 => ?_
    have hc : W1.cell? ⟨w.heap.size, 4, none⟩ = some (.string s) := by rw [blk_cell H1.out.1]; rfl
    go_region_held3 (fun W => W.cell? ⟨w.heap.size, 4, none⟩ = some (.string s))
      (first | assumption | exact hc | exact fr_cell hL.2 hc (by show w.heap.size ≠ gr; omega))
      (first | (go_at_call 50; refine (HX.out _ (H1.out.2.1.below ((Below.refl _ _).drew))).mono ?_; rintro r w' ⟨rfl, hL⟩))
    all_goals
      go_wp2
      go_ret
      exact ⟨rfl, (H1.out.2.below ((Below.refl _ _).drew)).trans hL⟩
set_option maxRecDepth 100000 in
set_option maxHeartbeats 1000000 in
theorem read_0 (K : Int) (h1 : K ≠ 1) (h2 : K ≠ 2) (h3 : K ≠ 3) (h4 : K ≠ 4) (h5 : K ≠ 5) (hN : (n < 0 → -(n + 1) = (N : Int)) ∧ (0 ≤ n → n = (N : Int))) (n0 : -9223372036854775808 ≤ n) (h : RAt w gr e dv d k) :
    Calls Try.prog 31 #[.pointer (some ⟨gr, 0, none⟩), .agg #[.int .i64 K, .int .i64 n, B b, v, .string s]] w fun r w' => r = .returned (.bool true) ∧ RLeft w w' gr dv d e k := by
  have H := hid h
  have g1 : (K == 1) = false := by rw [beq_eq_false_iff_ne]; exact h1
  have g2 : (K == 2) = false := by rw [beq_eq_false_iff_ne]; exact h2
  have g3 : (K == 3) = false := by rw [beq_eq_false_iff_ne]; exact h3
  have g4 : (K == 4) = false := by rw [beq_eq_false_iff_ne]; exact h4
  have g5 : (K == 5) = false := by rw [beq_eq_false_iff_ne]; exact h5
  clear h h1 h2 h3 h4 h5
  rcases Int.lt_or_le n 0 with hn | hn
  case' inl => have e1 := hN.1 hn
  case' inr => obtain rfl := hN.2 hn
  all_goals
    go_enter Try.func31, Try.ntmps31
    go_wp2
    go_ret
    exact ⟨rfl, (RLeft.refl H.out).below ((Below.refl _ _).alloc (Nat.le_refl _) _)⟩
end
theorem enc_drop {d R : List UInt8} {k : Nat} {x : List UInt8} (h : d.drop k = x ++ R) : d.drop (k + x.length) = R := by
  rw [← List.drop_drop, h, List.drop_left']
  rfl
theorem drop_get {d R : List UInt8} {k : Nat} {b : UInt8} (h : d.drop k = b :: R) : k < d.length ∧ d.getD k 0 = b := by
  have h1 : (d.drop k)[0]? = some b := by rw [h]; rfl
  rw [List.getElem?_drop] at h1
  have h2 : k < d.length := by
    rcases Nat.lt_or_ge k d.length with h | h
    · exact h
    · rw [List.getElem?_eq_none (by omega)] at h1; cases h1
  exact ⟨h2, by simpa [h2] using h1⟩
theorem num_form0 (n : Nat) (hn : n ≤ 9223372036854775807) (R : List UInt8) : Pk.num (n : Int) 0 0 (Pk.form n ++ R) = (n, (Pk.form n).length, 0) := by
  have := Pk.num_form (n : Int) R n 0 0 (by have := Pk.form_nine n hn; omega) (fun h => absurd h (by omega)) (by simp)
  simpa using this
theorem b_ne {e : Int} {E : Int} (h : e = E) (h2 : E ≠ 0) : e ≠ 0 := by rw [h]; exact h2
section
variable {gr k : Nat} {dv v : Value} {d : List UInt8} {w : World}
/-- what was written is read -/
theorem read_ok (o : POp) (n0 : -9223372036854775808 ≤ o.n) (n1 : o.n ≤ 9223372036854775807) (R : List UInt8) (hd : d.drop k = o.enc ++ R) (h : RAt w gr 0 dv d k) (hv : ∀ w1, Fr (fun b => b = gr) w w1 → SlB w1 v o.l) (hsz : o.s.toList.length ≤ 1048576) (hlz : o.l.length ≤ 1048576) :
    Calls Try.prog 31 #[.pointer (some ⟨gr, 0, none⟩), .agg (o.vals v).toArray] w fun r w' => r = .returned (.bool true) ∧ RLeft w w' gr dv d 0 (k + o.enc.length) := by
  have hN := o.num_eq
  have hN9 : o.num ≤ 9223372036854775807 := by
    rcases Int.lt_or_le o.n 0 with h | h
    · have := hN.1 h; omega
    · have := hN.2 h; omega
  have hbit : ((o.b.toNat : Int) % 2 == 1) = o.bit := rfl
  obtain ⟨K, n, b, L, s⟩ := o
  simp only at n0 n1 hN hv hsz hlz hbit
  unfold POp.vals
  unfold POp.enc at hd ⊢
  simp only at hd ⊢
  by_cases h1 : K = 1
  · subst h1
    rw [if_pos rfl] at hd ⊢
    have hn := num_form0 _ hN9 R
    rw [← hd] at hn
    refine (read_1 (POp.num ⟨1, n, b, L, s⟩) hN n0 h (fun W hW => ?_)).mono (fun r w' h => ⟨?_, h.2⟩)
    · have := rUint_ok gr dv d k ((POp.num ⟨1, n, b, L, s⟩ : Nat) : Int) W hW
      rw [hn] at this
      exact this
    · rw [h.1]; simp
  by_cases h2 : K = 2
  · subst h2
    rw [if_neg h1, if_pos rfl] at hd ⊢
    obtain ⟨hk, hb⟩ := drop_get hd
    refine (read_2 b hN n0 h (fun W hW => ?_)).mono (fun r w' h => ⟨?_, h.2⟩)
    · have := rByte_ok gr dv d k W hW hk
      rw [hb] at this
      exact this
    · rw [h.1]; simp
  by_cases h3 : K = 3
  · subst h3
    rw [if_neg h1, if_neg h2, if_pos rfl] at hd ⊢
    obtain ⟨hk, hb⟩ := drop_get hd
    refine (read_3 (POp.bit ⟨3, n, b, L, s⟩) (POp.bit ⟨3, n, b, L, s⟩) hbit hN n0 h (fun W hW => ?_)).mono (fun r w' h => ⟨?_, h.2⟩)
    · have := rBool_ok gr dv d k W hW hk (by rw [hb]; split <;> decide)
      rw [hb] at this
      have e : ((if POp.bit ⟨3, n, b, L, s⟩ = true then (1 : UInt8) else 0) == 1) = POp.bit ⟨3, n, b, L, s⟩ := by
        cases POp.bit ⟨3, n, b, L, s⟩ <;> rfl
      rw [e] at this
      exact this
    · rw [h.1]; simp
  by_cases h4 : K = 4
  · subst h4
    rw [if_neg h1, if_neg h2, if_neg h3, if_pos rfl] at hd ⊢
    have hn := num_form0 L.length (by omega) (L ++ R)
    have hd2 := hd
    rw [List.append_assoc] at hd
    rw [← hd] at hn
    have hlen : k + (Pk.form L.length).length + L.length ≤ d.length := by
      have := congrArg List.length hd
      simp only [List.length_drop, List.length_append] at this
      have := Pk.form_pos L.length
      omega
    have hu : (d.drop (k + (Pk.form L.length).length)).take L.length = L := by
      rw [enc_drop hd, List.take_left']; rfl
    refine (read_4 (e' := 0) (k' := k + (Pk.form L.length).length + L.length) L hv hN n0 h (fun W hW => ?_)).mono (fun r w' h => ⟨?_, ?_⟩)
    · refine (rBytes_ok gr dv d k (L.length : Int) W hW L.length _ hn hlen).mono ?_
      rintro r w' ⟨A, c, rfl, ho, hL⟩
      rw [hu] at ho
      exact ⟨_, rfl, ho.sl, hL⟩
    · rw [h.1]; simp
    · rw [List.length_append, ← Nat.add_assoc]; exact h.2
  by_cases h5 : K = 5
  · subst h5
    rw [if_neg h1, if_neg h2, if_neg h3, if_neg h4, if_pos rfl] at hd ⊢
    have hsz2 : s.toList.length = s.size := by rw [toList_eq, Array.length_toList]; rfl
    have hn := num_form0 s.toList.length (by omega) (s.toList ++ R)
    rw [List.append_assoc] at hd
    rw [← hd] at hn
    have hlen : k + (Pk.form s.toList.length).length + s.toList.length ≤ d.length := by
      have := congrArg List.length hd
      simp only [List.length_drop, List.length_append] at this
      have := Pk.form_pos s.toList.length
      omega
    have hu : (d.drop (k + (Pk.form s.toList.length).length)).take s.toList.length = s.toList := by
      rw [enc_drop hd, List.take_left']; rfl
    refine (read_5 (e' := 0) (k' := k + (Pk.form s.toList.length).length + s.toList.length) s.toList hN n0 h (fun W hW => ?_)).mono (fun r w' h => ⟨?_, ?_⟩)
    · refine rText_of gr _ W s.toList _ ?_
      rw [← hsz2]
      refine (rBytes_ok gr dv d k (s.toList.length : Int) W hW s.toList.length _ hn hlen).mono ?_
      rintro r w' ⟨A, c, rfl, ho, hL⟩
      rw [hu] at ho
      exact ⟨_, rfl, ho.sl, hL⟩
    · rw [h.1, str_toList]; simp
    · rw [List.length_append, ← Nat.add_assoc]; exact h.2
  rw [if_neg h1, if_neg h2, if_neg h3, if_neg h4, if_neg h5]
  exact read_0 K h1 h2 h3 h4 h5 hN n0 h
/-- a reader that has stopped -/
theorem read_stop (e : Int) (he : e ≠ 0) (o : POp) (n0 : -9223372036854775808 ≤ o.n) (h : RAt w gr e dv d k) (hv : ∀ w1, Fr (fun b => b = gr) w w1 → SlB w1 v o.l) :
    Calls Try.prog 31 #[.pointer (some ⟨gr, 0, none⟩), .agg (o.vals v).toArray] w fun r w' => (∃ q, r = .returned (.bool q)) ∧ RLeft w w' gr dv d e k := by
  have hN := o.num_eq
  obtain ⟨K, n, b, L, s⟩ := o
  simp only at n0 hN hv
  unfold POp.vals
  by_cases h1 : K = 1
  · subst h1
    exact (read_1 0 hN n0 h (fun W hW => (rUint_no gr e dv d k _ W he hW).mono fun r w' h => by obtain ⟨rfl, rfl⟩ := h; exact ⟨rfl, RLeft.refl hW⟩)).mono fun r w' h => ⟨⟨_, h.1⟩, h.2⟩
  by_cases h2 : K = 2
  · subst h2
    exact (read_2 0 hN n0 h (fun W hW => (rByte_no gr e dv d k W he hW).mono fun r w' h => by obtain ⟨rfl, rfl⟩ := h; exact ⟨rfl, RLeft.refl hW⟩)).mono fun r w' h => ⟨⟨_, h.1⟩, h.2⟩
  by_cases h3 : K = 3
  · subst h3
    exact (read_3 false _ rfl hN n0 h (fun W hW => (rBool_no gr e dv d k W he hW).mono fun r w' h => by obtain ⟨rfl, rfl⟩ := h; exact ⟨rfl, RLeft.refl hW⟩)).mono fun r w' h => ⟨⟨_, h.1⟩, h.2⟩
  by_cases h4 : K = 4
  · subst h4
    exact (read_4 [] hv hN n0 h (fun W hW => (rBytes_no gr e dv d k _ W he hW).mono fun r w' h => by obtain ⟨rfl, rfl⟩ := h; exact ⟨_, rfl, Sl.nil _ _, RLeft.refl hW⟩)).mono fun r w' h => ⟨⟨_, h.1⟩, h.2⟩
  by_cases h5 : K = 5
  · subst h5
    exact (read_5 [] hN n0 h (fun W hW => rText_of gr _ W [] (fun w' => RLeft W w' gr dv d e k) ((rBytes_no gr e dv d k _ W he hW).mono fun r w' h => by obtain ⟨rfl, rfl⟩ := h; exact ⟨_, rfl, Sl.nil _ _, RLeft.refl hW⟩))).mono fun r w' h => ⟨⟨_, h.1⟩, h.2⟩
  exact (read_0 K h1 h2 h3 h4 h5 hN n0 h).mono fun r w' h => ⟨⟨_, h.1⟩, h.2⟩
theorem bytes_short {L : List UInt8} (hl : L.length ≤ 1048576) (hd : d.drop k = (Pk.form L.length ++ L).dropLast) (hk : k ≤ d.length) :
    (Pk.num (L.length : Int) 0 0 (d.drop k)).2.2 = 30 ∨ ((Pk.num (L.length : Int) 0 0 (d.drop k)).2.2 = 0 ∧ (30 : Int) = 30 ∧ (d.length : Int) - k - (Pk.num (L.length : Int) 0 0 (d.drop k)).2.1 < (Pk.num (L.length : Int) 0 0 (d.drop k)).1) := by
  by_cases hL : L = []
  · subst hL
    left
    rw [hd, List.append_nil, Pk.num_short _ _ 0 0 (by have := Pk.form_nine 0 (by omega); simpa using this)]
  · right
    have hlen := congrArg List.length hd
    rw [List.dropLast_append_of_ne_nil hL] at hd
    rw [hd, num_form0 L.length (by omega) L.dropLast]
    refine ⟨rfl, rfl, ?_⟩
    simp only [List.length_drop, List.length_dropLast, List.length_append] at hlen
    have : 0 < L.length := List.length_pos_iff.2 hL
    simp only
    omega
theorem drop_nil {d : List UInt8} {k : Nat} (h : d.drop k = []) : d.length ≤ k := by
  have := congrArg List.length h
  simp at this; omega
/-- one byte less -/
theorem read_short (o : POp) (n0 : -9223372036854775808 ≤ o.n) (n1 : o.n ≤ 9223372036854775807) (hne : o.enc ≠ []) (hd : d.drop k = o.enc.dropLast) (h : RAt w gr 0 dv d k) (hv : ∀ w1, Fr (fun b => b = gr) w w1 → SlB w1 v o.l) (hsz : o.s.toList.length ≤ 1048576) (hlz : o.l.length ≤ 1048576) :
    Calls Try.prog 31 #[.pointer (some ⟨gr, 0, none⟩), .agg (o.vals v).toArray] w fun r w' => (∃ q, r = .returned (.bool q)) ∧ RLeft w w' gr dv d 30 k := by
  have hN := o.num_eq
  have hN9 : o.num ≤ 9223372036854775807 := by
    rcases Int.lt_or_le o.n 0 with h | h
    · have := hN.1 h; omega
    · have := hN.2 h; omega
  have hk := h.le
  obtain ⟨K, n, b, L, s⟩ := o
  simp only at n0 n1 hN hv hsz hlz
  unfold POp.vals
  unfold POp.enc at hd hne
  simp only at hd hne ⊢
  by_cases h1 : K = 1
  · subst h1
    rw [if_pos rfl] at hd
    have hn := Pk.num_short ((POp.num ⟨1, n, b, L, s⟩ : Nat) : Int) _ 0 0 (by have := Pk.form_nine _ hN9; omega : 0 + (Pk.form (POp.num ⟨1, n, b, L, s⟩)).length ≤ 9)
    rw [← hd] at hn
    refine (read_1 0 hN n0 h (fun W hW => ?_)).mono (fun r w' h => ⟨⟨_, h.1⟩, h.2⟩)
    have := rUint_ok gr dv d k ((POp.num ⟨1, n, b, L, s⟩ : Nat) : Int) W hW
    rw [hn] at this
    exact this
  by_cases h2 : K = 2
  · subst h2
    rw [if_neg h1, if_pos rfl] at hd
    have hk := drop_nil hd
    exact (read_2 0 hN n0 h (fun W hW => rByte_end gr dv d k W hW hk)).mono (fun r w' h => ⟨⟨_, h.1⟩, h.2⟩)
  by_cases h3 : K = 3
  · subst h3
    rw [if_neg h1, if_neg h2, if_pos rfl] at hd
    have hk := drop_nil hd
    exact (read_3 false _ rfl hN n0 h (fun W hW => rBool_end gr dv d k W hW hk)).mono (fun r w' h => ⟨⟨_, h.1⟩, h.2⟩)
  by_cases h4 : K = 4
  · subst h4
    rw [if_neg h1, if_neg h2, if_neg h3, if_pos rfl] at hd
    exact (read_4 [] hv hN n0 h (fun W hW => (rBytes_err gr dv d k _ W hW 30 (by decide) (bytes_short hlz hd hk)).mono fun r w' h => by obtain ⟨rfl, h⟩ := h; exact ⟨_, rfl, Sl.nil _ _, h⟩)).mono fun r w' h => ⟨⟨_, h.1⟩, h.2⟩
  by_cases h5 : K = 5
  · subst h5
    rw [if_neg h1, if_neg h2, if_neg h3, if_neg h4, if_pos rfl] at hd
    have hsz2 : s.toList.length = s.size := by rw [toList_eq, Array.length_toList]; rfl
    refine (read_5 [] hN n0 h (fun W hW => rText_of gr _ W [] (fun w' => RLeft W w' gr dv d 30 k) ?_)).mono fun r w' h => ⟨⟨_, h.1⟩, h.2⟩
    rw [← hsz2]
    exact (rBytes_err gr dv d k _ W hW 30 (by decide) (bytes_short hsz hd hk)).mono fun r w' h => by obtain ⟨rfl, h⟩ := h; exact ⟨_, rfl, Sl.nil _ _, h⟩
  rw [if_neg h1, if_neg h2, if_neg h3, if_neg h4, if_neg h5] at hne
  exact absurd rfl hne
end
end Go.Proofs.Ytamhlfhblgmhoaa
