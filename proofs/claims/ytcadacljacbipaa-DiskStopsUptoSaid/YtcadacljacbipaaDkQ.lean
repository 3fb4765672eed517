/- The choices of a crash. -/
import Derived.Test.YtcadacljacbipaaDkP
namespace Go.Proofs.Ytcadacljacbipaa
open Go.RowKit
/-- a list of ints -/
structure SlZ (w : World) (v : Value) (l : List Int) : Prop where
  sl : Sl w v l.length fun i => .int .i64 (l.getD i 0)
  r : ∀ n ∈ l, -9223372036854775808 ≤ n ∧ n ≤ 9223372036854775807
theorem SlZ.fr {X : Nat → Prop} {w w1 : World} {v : Value} {l : List Int} (h : SlZ w v l) (hf : Fr X w w1) (hx : 0 < l.length → ∀ k, v.ownBlock = some k → ¬ X k) : SlZ w1 v l := by
  obtain ⟨⟨A, c, rfl, h1, h2, h3⟩, hr⟩ := h
  refine ⟨⟨A, c, rfl, h1, h2, fun h0 => ?_⟩, hr⟩
  obtain ⟨b, off, rfl, hc⟩ := h3 h0
  refine ⟨b, off, rfl, fun i hi => ?_⟩
  have hb := World.block_lt_of_cell? w _ (hc i hi)
  rw [World.cell?_of_block (w := w) (w' := w1) (a := ⟨b, off + i, none⟩) (hf.block b hb (hx h0 b rfl)), hc i hi]
theorem SlZ.tail {w : World} {b off n c : Nat} {x : Int} {l : List Int} (h : SlZ w (.slice (some ⟨b, off, none⟩) n c) (x :: l)) : SlZ w (.slice (if c = 1 then some ⟨b, off, none⟩ else some ⟨b, off + 1, none⟩) (n - 1) (c - 1)) l := by
  obtain ⟨⟨A, c', e, h1, h2, h3⟩, hr⟩ := h
  injection e with e1 e2 e3
  subst e1 e2 e3
  refine ⟨⟨_, _, rfl, ?_, fun e => ?_, fun h0 => ?_⟩, fun n hn => hr n (List.mem_cons_of_mem _ hn)⟩
  · simp at h1 ⊢; omega
  · split at e <;> cases e
  · obtain ⟨b', off', e, hc⟩ := h3 (by simp)
    injection e with e
    injection e with e4 e5
    subst e4 e5
    simp only [List.length_cons] at h1
    refine ⟨b, off + 1, by rw [if_neg (by omega)], fun i hi => ?_⟩
    have := hc (i + 1) (by simp; omega)
    rw [show off + 1 + i = off + (i + 1) by omega, this]
    simp
theorem SlZ.form {w : World} {v : Value} {l : List Int} (h : SlZ w v l) : ∃ A c, v = .slice A l.length c := by obtain ⟨⟨A, c, rfl, _⟩, _⟩ := h; exact ⟨A, c, rfl⟩
theorem cmod_eq (x : Int) (n : Nat) (h : 0 < n) : x.tmod n % n = (cmod x n : Int) := by
  have h0 : (0 : Int) < (n : Int) := by omega
  have h1 := Int.emod_nonneg x (show (n : Int) ≠ 0 by omega)
  unfold cmod
  rw [Int.toNat_of_nonneg h1]
  have e : x.tmod n = x - n * x.tdiv n := Int.tmod_def x n
  rw [e, Int.sub_eq_add_neg, ← Int.mul_neg, Int.add_mul_emod_self_left]
set_option maxRecDepth 100000 in
set_option maxHeartbeats 1000000 in
theorem choose_any (w : World) (c : Nat) (v : Value) (cs : List Int) (n : Nat) (hn : 0 < n) (hn2 : n ≤ 1125899906842624) (hc : w.heap[c]? = some (.cells #[v] 24 (0, 0))) (hv : SlZ w v cs) (hne : 0 < cs.length → v.ownBlock ≠ some c) :
    Calls Try.prog 37 #[.int .i64 (n : Int), .pointer (some ⟨c, 0, none⟩)] w fun e w' => e = .returned (.int .i64 (pick1 cs n : Int)) ∧ ∃ v', w'.heap[c]? = some (.cells #[v'] 24 (0, 0)) ∧ SlZ w' v' cs.tail ∧ (∀ k, v'.ownBlock = some k → v.ownBlock = some k) ∧ Fr (fun k => k = c) w w' ∧ w'.heap.size = w.heap.size := by
  have cc : w.cell? ⟨c, 0, none⟩ = some v := by rw [blk_cell hc]; rfl
  have cf : w.frozen? ⟨c, 0, none⟩ = false := blk_frozen hc _
  cases cs with
  | nil =>
    obtain ⟨A, cp, rfl⟩ := hv.form
    have HC0 := hid hc
    have HV0 := hid hv
    have HE := hid (show pick1 [] n = 0 from rfl)
    clear hc hv hne
    go_enter Try.func37, Try.ntmps37
    go_wp2
    go_ret
    exact ⟨by rw [HE.out]; rfl, _, HC0.out, HV0.out, fun _ h => h, Fr.refl _ _, rfl⟩
  | cons x l =>
    have hv0 := hv
    obtain ⟨⟨A, cp, rfl, h1, h2, h3⟩, hr⟩ := hv
    obtain ⟨b, off, rfl, hcell⟩ := h3 (by simp)
    have hx : w.cell? ⟨b, off, none⟩ = some (.int .i64 x) := by have := hcell 0 (by simp); simpa using this
    obtain ⟨x0, x1⟩ := hr x (List.mem_cons_self ..)
    have hbc : b ≠ c := fun e => hne (by simp) (by rw [e]; rfl)
    have HT := hid hv0.tail
    have HM := hid (cmod_eq x n hn)
    have t1 := Int.tmod_lt_of_pos x (show (0 : Int) < (n : Int) by omega)
    have t2 := Int.lt_tmod_of_pos x (show (0 : Int) < (n : Int) by omega)
    have hn0 : (1 : Int) ≤ (n : Int) := by omega
    have HC := hid hc
    simp only [List.length_cons] at h1
    have hcp : (1 : Int) ≤ (cp : Int) := by omega
    clear hv0 hc hr h2 h3 hcell hne
    by_cases h1c : cp = 1
    · subst h1c
      go_enter Try.func37, Try.ntmps37
      go_wp2
      go_ret
      refine ⟨?_, _, blk_set HC.out _ _, ?_, fun k hk => hk, Fr.set_ _ _, by simp⟩
      · show Ending.returned (.int .i64 (x.tmod n % n)) = _
        rw [HM.out]; rfl
      · have := HT.out
        rw [if_pos trivial] at this
        obtain rfl : l = [] := List.length_eq_zero_iff.1 (by omega)
        exact this.fr (Fr.set_ _ _) (fun h => absurd h (by simp))
    · go_enter Try.func37, Try.ntmps37
      go_wp2
      go_ret
      refine ⟨?_, _, blk_set HC.out _ _, ?_, fun k hk => hk, Fr.set_ _ _, by simp⟩
      · show Ending.returned (.int .i64 ((x.tmod n + n) % n)) = _
        rw [Int.add_emod_right, HM.out]; rfl
      · have := HT.out
        rw [if_neg h1c] at this
        exact this.fr (Fr.set_ _ _) (fun _ k hk e => hbc (by injection hk with hk; have hk : b = k := hk; omega))
end Go.Proofs.Ytcadacljacbipaa
