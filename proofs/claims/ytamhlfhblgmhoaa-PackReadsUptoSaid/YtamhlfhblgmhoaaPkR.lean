/- The walks of package pack: what a reader's calls do. -/
import Derived.Test.YtamhlfhblgmhoaaPkW2
import Derived.Test.YtamhlfhblgmhoaaPkN
import Derived.OwnWalk
namespace Go.Proofs.Ytamhlfhblgmhoaa
open Go.RowKit
/-- a reader: its first error, the bytes, how many were taken -/
structure RAt (w : World) (g : Nat) (e : Int) (dv : Value) (d : List UInt8) (k : Nat) : Prop where
  at_ : w.heap[g]? = some (.cells #[.int .i64 e, dv, .int .i64 k] 76 (0, 0))
  own : OwnB w 0 dv d
  ne : dv.ownBlock ≠ some g
  le : k ≤ d.length
  small : d.length ≤ 140737488355328
theorem RAt.c0 {w : World} {g : Nat} {e : Int} {v : Value} {d : List UInt8} {k : Nat} (h : RAt w g e v d k) : w.cell? ⟨g, 0, none⟩ = some (.int .i64 e) := by rw [blk_cell h.at_]; rfl
theorem RAt.c1 {w : World} {g : Nat} {e : Int} {v : Value} {d : List UInt8} {k : Nat} (h : RAt w g e v d k) : w.cell? ⟨g, 1, none⟩ = some v := by rw [blk_cell h.at_]; rfl
theorem RAt.c2 {w : World} {g : Nat} {e : Int} {v : Value} {d : List UInt8} {k : Nat} (h : RAt w g e v d k) : w.cell? ⟨g, 2, none⟩ = some (.int .i64 k) := by rw [blk_cell h.at_]; rfl
theorem RAt.fz {w : World} {g : Nat} {e : Int} {v : Value} {d : List UInt8} {k : Nat} (h : RAt w g e v d k) (i : Nat) : w.frozen? ⟨g, i, none⟩ = false := blk_frozen h.at_ i
theorem RAt.fr {X : Nat → Prop} {w w' : World} {g : Nat} {e : Int} {v : Value} {d : List UInt8} {k : Nat} (h : RAt w g e v d k) (hf : Fr X w w') (hg : ¬ X g) (hv : ∀ b, v.ownBlock = some b → ¬ X b) : RAt w' g e v d k :=
  ⟨blk_fr hf h.at_ hg, h.own.fr hf hv, h.ne, h.le, h.small⟩
theorem RAt.below {w w' : World} {g : Nat} {e : Int} {v : Value} {d : List UInt8} {k : Nat} (h : RAt w g e v d k) (hb : Below w.heap.size w w') : RAt w' g e v d k :=
  h.fr (Fr.of_below hb) (fun h => h) (fun _ _ h => h)
theorem RAt.drewN {w : World} {g : Nat} {e : Int} {v : Value} {d : List UInt8} {k : Nat} (h : RAt w g e v d k) (n : Nat) : RAt (w.drewN n) g e v d k := h.below (below_drewN (Below.refl _ _) n)
theorem own_drop {w : World} {g cap : Nat} {d : List UInt8} (h : OwnB w 0 (.slice (some ⟨g, 0, none⟩) d.length cap) d) (k : Nat) (hk : k ≤ d.length) (c : Nat) (hc : d.length - k ≤ c) : SlB w (.slice (some ⟨g, k, none⟩) (d.length - k) c) (d.drop k) := by
  refine ⟨_, _, by rw [List.length_drop], by rw [List.length_drop]; exact hc, (fun h => by cases h), fun h0 => ⟨g, k, rfl, fun i hi => ?_⟩⟩
  rw [List.length_drop] at hi
  rw [(h.at_ (k + i) (by omega)).1]
  simp
theorem own_none {w : World} {v : Value} {d : List UInt8} (h : OwnB w 0 v d) (hv : v = .slice none 0 0) : d = [] := by
  subst hv
  obtain ⟨A, c, e⟩ := h.form
  injection e with _ e2 _
  exact List.length_eq_zero_iff.1 e2.symm
theorem pk_and (c : UInt8) : bits .and .u8 (c.toNat : Int) 127 = ((c.toNat % 128 : Nat) : Int) := by
  rw [show (127 : Int) = ((127 : Nat) : Int) from rfl, u8_and_nat _ _ (by have := c.toNat_lt; omega) (by omega), show (127 : Nat) = 2 ^ 7 - 1 from rfl, Nat.and_two_pow_sub_one_eq_mod]
theorem pk_or (a p k : Nat) (c : Nat) (hp : p = c * 2 ^ k) (ha : a < 2 ^ k) (hs : a + p ≤ 9223372036854775807) : bits .or .i64 (a : Int) (p : Int) = ((a + p : Nat) : Int) := by
  have e : bits .or .i64 (a : Int) (p : Int) = ((a ||| p : Nat) : Int) := by
    simp only [bits]
    have h1 : (BitVec.ofInt IntKind.i64.bits (a : Int) ||| BitVec.ofInt IntKind.i64.bits (p : Int)) = BitVec.ofNat 64 (a ||| p) := by
      show (BitVec.ofInt 64 (a : Int) ||| BitVec.ofInt 64 (p : Int)) = _
      rw [BitVec.ofInt_natCast, BitVec.ofInt_natCast, BitVec.ofNat_or]
    rw [h1]
    have h2 : a ||| p < 9223372036854775808 := by rw [hp, Pk.or_shift a c k ha, ← hp]; omega
    show IntKind.i64.wrap (((BitVec.ofNat 64 (a ||| p)).toNat : Nat) : Int) = _
    rw [BitVec.toNat_ofNat, IntKind.wrap_i64]; omega
  rw [e, hp, Pk.or_shift a c k ha]
theorem num_step (max : Int) (i acc : Nat) (l : List UInt8) (h9 : i < 9) (hi : i < l.length) (p : Nat) (hp : p = (l.getD i 0).toNat % 128 * 2 ^ (7 * i)) : Pk.num max i acc (l.drop i) =
    if (l.getD i 0).toNat < 128 then (if (l.getD i 0).toNat = 0 ∧ 0 < i then (0, 0, 31) else if max < ((acc + p : Nat) : Int) then (0, 0, 33) else (acc + p, i + 1, 0)) else Pk.num max (i + 1) (acc + p) (l.drop (i + 1)) := by
  rw [List.drop_eq_getElem_cons hi, Pk.num, if_neg (by omega)]
  have e : l.getD i 0 = l[i] := by simp [hi]
  rw [e] at hp ⊢
  rw [hp]
theorem pk_bound (i : Nat) (c : Nat) (h9 : i < 9) (hc : c < 128) (acc : Nat) (ha : acc < 2 ^ (7 * i)) : acc + c * 2 ^ (7 * i) < 2 ^ (7 * (i + 1)) ∧ acc + c * 2 ^ (7 * i) ≤ 9223372036854775807 := by
  have h1 := Pk.pow_step i
  have h2 : c * 2 ^ (7 * i) ≤ 127 * 2 ^ (7 * i) := Nat.mul_le_mul_right _ (by omega)
  have h3 : 2 ^ (7 * (i + 1)) ≤ 2 ^ 63 := Nat.pow_le_pow_right (by decide) (by omega)
  omega
set_option maxRecDepth 100000 in
set_option maxHeartbeats 2000000 in
theorem number_any (g : Nat) (e : Int) (v : Value) (d : List UInt8) (k : Nat) (max : Int) (w : World) (h : RAt w g e v d k) :
    Calls Try.prog 53 #[.pointer (some ⟨g, 0, none⟩), .int .i64 max] w fun r w' =>
      r = .returned (.tuple #[.int .i64 (Pk.num max 0 0 (d.drop k)).1, .int .i64 (Pk.num max 0 0 (d.drop k)).2.1, .int .i64 (Pk.num max 0 0 (d.drop k)).2.2]) ∧ ∃ m, w' = w.drewN m := by
  have H := hid h
  have c1 := fun n => (h.drewN n).c1
  have c2 := fun n => (h.drewN n).c2
  have hk := h.le
  have hs := h.small
  have hform : v = .slice none 0 0 ∨ ∃ b cap, v = .slice (some ⟨b, 0, none⟩) d.length cap ∧ d.length ≤ cap := by
    obtain ⟨_, hv | ⟨b, cap, cur, hv, _, _, hcap, hmax, _⟩⟩ := h.own
    · exact .inl hv.1
    · exact .inr ⟨b, cap, hv, hcap⟩
  obtain ⟨L, hL⟩ : ∃ L, d.drop k = L := ⟨_, rfl⟩
  rw [hL]
  have HLd := hid hL
  have hLl : L.length = d.length - k := by rw [← hL, List.length_drop]
  clear h hL
  have HLL := hid hLl
  have hLs : L.length ≤ 140737488355328 := by omega
  clear hLl
  rcases hform with hv | ⟨b, cap, hv, hcap⟩
  case' inl =>
    have hd := own_none H.out.own hv
    have hz : L = [] := by rw [← HLd.out, hd]; simp
    have hk0 : k = 0 := by rw [hd] at hk; simpa using hk
    subst hv
    subst hk0
    go_enter Try.func53, Try.ntmps53
    go_wp2
    go_quiet (fail)
    go_wp2
    have HSL : Hid (SlB (w.drewN nq) (.slice none 0 0) L) := hid (by rw [hz]; exact Sl.nil _ _)
    obtain ⟨A, c, hAc⟩ := HSL.out.form
    rw [hAc] at HSL ⊢
    clear hz hd
  case' inr =>
    subst hv
    by_cases hkc : k = cap
    case' pos =>
      have hz : L = [] := List.length_eq_zero_iff.1 (by rw [HLL.out]; omega)
      go_enter Try.func53, Try.ntmps53
      go_wp2
      go_quiet (fail)
      go_wp2
      have HSL : Hid (SlB (w.drewN nq) (.slice (some ⟨b, 0, none⟩) 0 0) L) := hid (by rw [hz]; exact ⟨_, _, rfl, Nat.le_refl _, (fun h => by cases h), fun h => absurd h (by simp)⟩)
      obtain ⟨A, c, hAc⟩ := HSL.out.form
      rw [hAc] at HSL ⊢
      clear hz hkc hcap
    case' neg =>
      go_enter Try.func53, Try.ntmps53
      go_wp2
      go_quiet (fail)
      go_wp2
      have HSL : Hid (SlB (w.drewN nq) (.slice (some ⟨b, k, none⟩) (d.length - k) (cap - k)) L) := hid (by
        rw [← HLd.out]
        exact own_drop (H.out.drewN nq).own k hk _ (by omega))
      obtain ⟨A, c, hAc⟩ := HSL.out.form
      rw [hAc] at HSL ⊢
      clear hkc hcap
  all_goals
    clear hk hs hAc HLd HLL c1 c2
    have HC := hid HSL.out.cells
    go_loopw [8, 20] (fun x i wr => ∃ (j acc : Nat), j ≤ 9 ∧ i = .int .i64 j ∧ x = .int .i64 acc ∧ acc < 2 ^ (7 * j) ∧ Pk.num max 0 0 L = Pk.num max j acc (L.drop j) ∧ j ≤ L.length ∧ w.drewN nq = wr) (fun _ i _ => 9 - (intOf i).toNat)
    case atStart => exact ⟨0, 0, by omega, rfl, rfl, by simp, by simp, by omega, rfl⟩
    case round =>
      obtain ⟨j, acc, hj, rfl, rfl, hacc, hn, hjl, rfl⟩ := hrel
      have HN := hid hn
      have HACC := hid hacc
      clear hn hacc
      by_cases hlt : j < 9
      · by_cases hin : j < L.length
        · obtain ⟨b0, off, e1, hcell⟩ := HC.out (by omega)
          subst e1
          replace hcell := hcell j hin
          obtain ⟨p, hp⟩ : ∃ p, p = (L.getD j 0).toNat % 128 * 2 ^ (7 * j) := ⟨_, rfl⟩
          have hst := num_step max j acc L hlt hin p hp
          generalize L.getD j 0 = cb at *
          obtain ⟨q, hq⟩ : ∃ q, q = cb.toNat % 128 := ⟨_, rfl⟩
          obtain ⟨b1, b2⟩ := pk_bound j q hlt (by omega) acc HACC.out
          rw [← hq] at hp
          rw [← hp] at b1 b2
          have HB1 := hid b1
          have hor := pk_or acc p (7 * j) q hp HACC.out b2
          have hand := pk_and cb
          rw [← hq] at hand
          have hsh : (q : Int) * 2 ^ (7 * j) = (p : Int) := by rw [hp]; push_cast; rfl
          have HST := hid hst
          have hq1 : q < 128 := by omega
          have hcb := cb.toNat_lt
          clear hst hp hq b1
          by_cases c128 : cb.toNat < 128
          · by_cases c0 : cb.toNat = 0
            · by_cases j0 : 0 < j
              · have HR : Hid (Pk.num max 0 0 L = (0, 0, 31)) := hid (by rw [HN.out, HST.out, if_pos c128, if_pos ⟨c0, j0⟩])
                have cz : ((cb.toNat : Int) == 0) = true := by rw [beq_iff_eq]; omega
                clear HST HN c0
                go_wp2
                go_ret3
                exact ⟨by rw [HR.out]; simp, nq, rfl⟩
              · have cz : ((cb.toNat : Int) == 0) = true := by rw [beq_iff_eq]; omega
                clear c0
                by_cases hm : max < ((acc + p : Nat) : Int)
                · have HR : Hid (Pk.num max 0 0 L = (0, 0, 33)) := hid (by rw [HN.out, HST.out, if_pos c128, if_neg (by omega), if_pos hm])
                  have hm2 : max < (acc : Int) + (p : Int) := by omega
                  clear HST HN hm
                  go_wp2
                  go_ret3
                  exact ⟨by rw [HR.out]; simp, nq, rfl⟩
                · have HR : Hid (Pk.num max 0 0 L = (acc + p, j + 1, 0)) := hid (by rw [HN.out, HST.out, if_pos c128, if_neg (by omega), if_neg hm])
                  have hm2 : ¬ max < (acc : Int) + (p : Int) := by omega
                  clear HST HN hm
                  go_wp2
                  go_ret3
                  exact ⟨by rw [HR.out]; simp, nq, rfl⟩
            · have cz : ((cb.toNat : Int) == 0) = false := by rw [beq_eq_false_iff_ne]; omega
              by_cases hm : max < ((acc + p : Nat) : Int)
              · have HR : Hid (Pk.num max 0 0 L = (0, 0, 33)) := hid (by rw [HN.out, HST.out, if_pos c128, if_neg (by omega), if_pos hm])
                have hm2 : max < (acc : Int) + (p : Int) := by omega
                clear HST HN hm
                go_wp2
                go_ret3
                exact ⟨by rw [HR.out]; simp, nq, rfl⟩
              · have HR : Hid (Pk.num max 0 0 L = (acc + p, j + 1, 0)) := hid (by rw [HN.out, HST.out, if_pos c128, if_neg (by omega), if_neg hm])
                have hm2 : ¬ max < (acc : Int) + (p : Int) := by omega
                clear HST HN hm
                go_wp2
                go_ret3
                exact ⟨by rw [HR.out]; simp, nq, rfl⟩
          · have HNN : Hid (Pk.num max 0 0 L = Pk.num max (j + 1) (acc + p) (L.drop (j + 1))) := hid (by rw [HN.out, HST.out, if_neg c128])
            clear HST HN
            go_wp2
            go_roundw
            case rel => exact ⟨j + 1, acc + p, by omega, by go_num, by go_num, HB1.out, HNN.out, by omega, (by trivial)⟩
            case measure => simp [intOf]; omega
        · have hr : Pk.num max 0 0 L = (0, 0, 30) := by
            rw [HN.out, List.drop_eq_nil_of_le (by omega), Pk.num, if_neg (by omega)]
          have HR := hid hr
          clear hr
          go_wp2
          go_ret3
          exact ⟨by rw [HR.out]; rfl, nq, rfl⟩
      · obtain rfl : j = 9 := by omega
        have hr : Pk.num max 0 0 L = (0, 0, 31) := by
          rw [HN.out]
          cases L.drop 9 <;> simp [Pk.num]
        have HR := hid hr
        clear hr
        go_wp2
        go_ret3
        exact ⟨by rw [HR.out]; rfl, nq, rfl⟩
end Go.Proofs.Ytamhlfhblgmhoaa
