/- The document's number from the front: plain words and walk. -/
import Derived.Test.YtamhlfhblgmhoaaPkT
import Derived.Test.YtamhlfhblgmhoaaPkX
namespace Go.Proofs.Ytamhlfhblgmhoaa
open Go.RowKit
namespace Pk
def horn : List UInt8 → Nat
  | [] => 0
  | c :: r => c.toNat % 128 + 128 * horn r
theorem horn_lt (l : List UInt8) : horn l < 2 ^ (7 * l.length) := by
  induction l with
  | nil => simp [horn]
  | cons c r ih => rw [List.length_cons, pow_step]; simp only [horn]; omega
theorem num_stop (max : Int) (c : UInt8) (hc : c.toNat < 128) (rest : List UInt8) (pre : List UInt8) : ∀ (i acc : Nat), (∀ q, q < pre.length → 128 ≤ (pre.getD q 0).toNat) → i + pre.length < 9 →
    num max i acc (pre ++ c :: rest) = if c.toNat = 0 ∧ 0 < i + pre.length then (0, 0, 31) else if max < ((acc + horn (pre ++ [c]) * 2 ^ (7 * i) : Nat) : Int) then (0, 0, 33) else (acc + horn (pre ++ [c]) * 2 ^ (7 * i), i + pre.length + 1, 0) := by
  induction pre with
  | nil =>
    intro i acc _ h9
    simp only [List.nil_append, num, List.length_nil, Nat.add_zero, horn, Nat.mul_zero] at *
    rw [if_neg (by omega), if_pos hc]
  | cons a pre ih =>
    intro i acc hp h9
    have ha := hp 0 (by simp)
    simp only [List.getD_cons_zero] at ha
    simp only [List.cons_append, num, List.length_cons] at *
    rw [if_neg (by omega), if_neg (by omega), ih (i + 1) _ (fun q hq => by have := hp (q + 1) (by omega); simpa using this) (by omega)]
    have e : acc + a.toNat % 128 * 2 ^ (7 * i) + horn (pre ++ [c]) * 2 ^ (7 * (i + 1)) = acc + horn (a :: (pre ++ [c])) * 2 ^ (7 * i) := by
      simp only [horn]
      rw [pow_step, Nat.add_mul, Nat.mul_assoc, Nat.mul_left_comm, Nat.add_assoc]
    rw [e, show i + 1 + pre.length = i + (pre.length + 1) by omega]
theorem num_nine' (max : Int) (rest : List UInt8) (pre : List UInt8) : ∀ (i acc : Nat), (∀ q, q < pre.length → 128 ≤ (pre.getD q 0).toNat) → i + pre.length = 9 → num max i acc (pre ++ rest) = (0, 0, 31) := by
  induction pre with
  | nil =>
    intro i acc _ h9
    simp only [List.length_nil, Nat.add_zero] at h9
    cases rest <;> simp only [List.nil_append, num] <;> rw [if_pos (by omega)]
  | cons a pre ih =>
    intro i acc hp h9
    have ha := hp 0 (by simp)
    simp only [List.getD_cons_zero] at ha
    simp only [List.cons_append, num, List.length_cons] at *
    rw [if_neg (by omega), if_neg (by omega), ih (i + 1) _ (fun q hq => by have := hp (q + 1) (by omega); simpa using this) (by omega)]
theorem num_few (max : Int) (pre : List UInt8) : ∀ (i acc : Nat), (∀ q, q < pre.length → 128 ≤ (pre.getD q 0).toNat) → i + pre.length < 9 → num max i acc pre = (0, 0, 30) := by
  induction pre with
  | nil =>
    intro i acc _ h9
    simp only [List.length_nil, Nat.add_zero] at h9
    simp only [num]; rw [if_neg (by omega)]
  | cons a pre ih =>
    intro i acc hp h9
    have ha := hp 0 (by simp)
    simp only [List.getD_cons_zero] at ha
    simp only [num, List.length_cons] at *
    rw [if_neg (by omega), if_neg (by omega), ih (i + 1) _ (fun q hq => by have := hp (q + 1) (by omega); simpa using this) (by omega)]
/-- the first small byte, or none among the first nine -/
theorem scan (l : List UInt8) : ∀ n, (∃ p, p < n ∧ p < l.length ∧ (l.getD p 0).toNat < 128 ∧ ∀ q, q < p → 128 ≤ (l.getD q 0).toNat) ∨ (∀ q, q < n → q < l.length → 128 ≤ (l.getD q 0).toNat) := by
  intro n
  induction n with
  | zero => exact .inr fun q hq => absurd hq (by omega)
  | succ n ih =>
    rcases ih with ⟨p, h1, h2⟩ | h
    · exact .inl ⟨p, by omega, h2⟩
    · by_cases hn : n < l.length
      · rcases Nat.lt_or_ge (l.getD n 0).toNat 128 with h3 | h3
        · exact .inl ⟨n, by omega, hn, h3, fun q hq => h q hq (by omega)⟩
        · refine .inr fun q hq hl => ?_
          rcases Nat.lt_or_ge q n with h4 | h4
          · exact h q h4 hl
          · obtain rfl : q = n := by omega
            exact h3
      · exact .inr fun q hq hl => h q (by omega) hl
theorem num_at (max : Int) (l : List UInt8) (p : Nat) (h9 : p < 9) (hp : p < l.length) (hc : (l.getD p 0).toNat < 128) (hq : ∀ q, q < p → 128 ≤ (l.getD q 0).toNat) :
    num max 0 0 l = if (l.getD p 0).toNat = 0 ∧ 0 < p then (0, 0, 31) else if max < ((horn (l.take (p + 1)) : Nat) : Int) then (0, 0, 33) else (horn (l.take (p + 1)), p + 1, 0) := by
  have e1 : l = l.take p ++ l.getD p 0 :: l.drop (p + 1) := by
    have : l.getD p 0 = l[p] := by simp [hp]
    rw [this, ← List.drop_eq_getElem_cons hp, List.take_append_drop]
  have e2 : l.take (p + 1) = l.take p ++ [l.getD p 0] := by
    have : l.getD p 0 = l[p] := by simp [hp]
    rw [this, List.take_succ_eq_append_getElem hp]
  have hl : (l.take p).length = p := by rw [List.length_take]; omega
  have := num_stop max (l.getD p 0) hc (l.drop (p + 1)) (l.take p) 0 0 (fun q hq' => by
    rw [hl] at hq'
    have h := hq q hq'
    have e : (l.take p).getD q 0 = l.getD q 0 := by simp [hq']
    rw [e]; exact h) (by omega)
  rw [← e1, hl, ← e2] at this
  simpa using this
theorem num_long (max : Int) (l : List UInt8) (hl : 9 ≤ l.length) (hq : ∀ q, q < 9 → q < l.length → 128 ≤ (l.getD q 0).toNat) : num max 0 0 l = (0, 0, 31) := by
  have h9 : (l.take 9).length = 9 := by rw [List.length_take]; omega
  have := num_nine' max (l.drop 9) (l.take 9) 0 0 (fun q hq' => by
    rw [h9] at hq'
    have h := hq q hq' (by omega)
    have e : (l.take 9).getD q 0 = l.getD q 0 := by simp [hq']
    rw [e]; exact h) (by omega)
  rwa [List.take_append_drop] at this
theorem horn_step (l : List UInt8) (q : Nat) (h : q < l.length) : horn (l.drop q) = horn (l.drop (q + 1)) * 128 + (l.getD q 0).toNat % 128 := by
  rw [List.drop_eq_getElem_cons h]
  have : l.getD q 0 = l[q] := by simp [h]
  rw [this]; simp only [horn]; omega
end Pk
def nres (x : Nat × Nat × Int) : Ending := .returned (.tuple #[.int .i64 x.1, .int .i64 x.2.1, .int .i64 x.2.2])
def zsz (p j : Nat) : Int := if j = p + 1 then ((p + 1 : Nat) : Int) else 0
theorem zsz_lo (p j : Nat) (h : j ≤ p) : zsz p j = 0 := if_neg (by omega)
theorem zsz_hi (p : Nat) : zsz p (p + 1) = ((p + 1 : Nat) : Int) := if_pos rfl
set_option maxRecDepth 100000 in
set_option maxHeartbeats 4000000 in
theorem vnum_none (v : Value) (l : List UInt8) (max : Int) (w : World) (h : SlB w v l) (hq : ∀ q, q < 9 → q < l.length → 128 ≤ (l.getD q 0).toNat) (hl : l.length ≤ 140737488355328) :
    Calls Try.prog 63 #[v, .int .i64 max] w fun r w' => r = nres (Pk.num max 0 0 l) ∧ w' = w := by
  have H := hid h
  have HQ := hid hq
  obtain ⟨A, c, rfl⟩ := h.form
  have hcl : l.length ≤ c := by obtain ⟨A', c', e, h, _⟩ := h; injection e with e1 e2 e3; omega
  clear h hq
  have e1 : Hid (9 ≤ l.length → Pk.num max 0 0 l = (0, 0, 31)) := hid fun h => Pk.num_long max l h HQ.out
  have e2 : Hid (l.length < 9 → Pk.num max 0 0 l = (0, 0, 30)) := hid fun h => Pk.num_few max l 0 0 (fun q hq => HQ.out q (by omega) hq) (by omega)
  go_enter Try.func63, Try.ntmps63
  go_wp2
  go_loop [7, 8] (fun z i => ∃ j : Nat, j ≤ 9 ∧ j ≤ l.length ∧ i = .int .i64 j ∧ z = .int .i64 0) (fun _ i => 9 - (intOf i).toNat)
  case atStart => exact ⟨0, by omega, by omega, rfl, rfl⟩
  case round =>
    obtain ⟨j, hj9, hjl, rfl, rfl⟩ := hrel
    by_cases h1 : j < l.length
    · by_cases h2 : j < 9
      · obtain ⟨b, off, rfl, hc⟩ := H.out.cells (by omega)
        replace hc := hc j h1
        have hb := HQ.out j h2 h1
        generalize l.getD j 0 = x at *
        go_wp2
        go_round
        case rel => exact ⟨j + 1, by omega, by omega, by go_num, rfl⟩
        case measure => simp [intOf]; omega
      · have h9 : 9 ≤ l.length := by omega
        go_wp2
        go_ret3
        exact ⟨by rw [e1.out h9]; rfl, rfl⟩
    · rcases Nat.lt_or_ge l.length 9 with h9 | h9
      · go_wp2
        go_ret3
        exact ⟨by rw [e2.out h9]; rfl, rfl⟩
      · go_wp2
        go_ret3
        exact ⟨by rw [e1.out h9]; rfl, rfl⟩
set_option maxRecDepth 100000 in
set_option maxHeartbeats 4000000 in
theorem vnum_some (v : Value) (l : List UInt8) (max : Int) (w : World) (h : SlB w v l) (p : Nat) (hp9 : p < 9) (hpl : p < l.length) (hcp : (l.getD p 0).toNat < 128) (hq : ∀ q, q < p → 128 ≤ (l.getD q 0).toNat) (hl : l.length ≤ 140737488355328) :
    Calls Try.prog 63 #[v, .int .i64 max] w fun r w' => r = nres (Pk.num max 0 0 l) ∧ w' = w := by
  have HN := hid (Pk.num_at max l p hp9 hpl hcp hq)
  have HQ := hid hq
  have HC := hid hcp
  obtain ⟨b, off, c, rfl, hcells, hcl⟩ : ∃ b off c, v = .slice (some ⟨b, off, none⟩) l.length c ∧ (∀ i, i < l.length → w.cell? ⟨b, off + i, none⟩ = some (B (l.getD i 0))) ∧ l.length ≤ c := by
    obtain ⟨A, c, rfl, h1, h2, h3⟩ := h
    obtain ⟨b, off, rfl, hc⟩ := h3 (by omega)
    exact ⟨b, off, c, rfl, hc, h1⟩
  have HX := hid hcells
  have hcp1 := hcells p hpl
  clear h hq hcells hcp
  go_enter Try.func63, Try.ntmps63
  go_wp2
  go_loop [7, 8] (fun z i => ∃ j : Nat, j ≤ p + 1 ∧ i = .int .i64 j ∧ z = .int .i64 (zsz p j)) (fun _ i => p + 1 - (intOf i).toNat)
  case atStart => exact ⟨0, by omega, rfl, by rw [zsz_lo p 0 (by omega)]⟩
  case round =>
    obtain ⟨j, hj, rfl, rfl⟩ := hrel
    rcases Nat.lt_trichotomy j p with hjp | hjp | hjp
    · have hc := HX.out j (by omega)
      have hb := HQ.out j hjp
      have hz := zsz_lo p j (by omega)
      have hz1 := hid (zsz_lo p (j + 1) (by omega))
      generalize l.getD j 0 = x at *
      generalize zsz p j = z at *
      subst hz
      go_wp2
      go_round
      case rel => exact ⟨j + 1, by omega, by go_num, by rw [hz1.out]⟩
      case measure => simp [intOf] <;> omega
    · subst hjp
      have hb := HC.out
      have hz := zsz_lo j j (by omega)
      have hz1 := hid (zsz_hi j)
      generalize l.getD j 0 = x at *
      generalize zsz j j = z at *
      subst hz
      go_wp2
      go_round
      case rel => exact ⟨j + 1, by omega, by go_num, by rw [hz1.out]; go_num⟩
      case measure => simp [intOf] <;> omega
    · obtain rfl : j = p + 1 := by omega
      rw [zsz_hi p]
      have hx := HC.out
      obtain ⟨x, hxe⟩ : ∃ x, l.getD p 0 = x := ⟨_, rfl⟩
      have HXE := hid hxe
      rw [hxe] at hcp1 hx HN
      clear hxe
      obtain ⟨L, hL⟩ : ∃ L, l.take (p + 1) = L := ⟨_, rfl⟩
      rw [hL] at HN
      have HLL : Hid (L.length = p + 1) := hid (by rw [← hL, List.length_take]; omega)
      have HLE : Hid (∀ q, q ≤ p → L.getD q 0 = l.getD q 0) := hid fun q hq => by rw [← hL]; simp [show q < p + 1 by omega]
      clear hL
      have hne : ((p : Int) + 1 == 0) = false := by rw [beq_eq_false_iff_ne]; omega
      have g3 : (0 : Int) ≤ (p : Int) := by omega
      rcases Nat.lt_or_ge (p + 1) l.length with g1 | g1 <;> rcases Nat.lt_or_ge (p + 1) 9 with g2 | g2
      all_goals
        by_cases hz : x.toNat = 0 ∧ 0 < p
        · obtain ⟨hz1, hz2⟩ := hz
          have hzb : ((x.toNat : Int) == 0) = true := by rw [beq_iff_eq]; omega
          rw [if_pos ⟨hz1, hz2⟩] at HN
          clear hz1
          go_wp2
          go_ret3
          exact ⟨by rw [HN.out]; simp [nres], rfl⟩
        · rw [if_neg hz] at HN
          obtain ⟨M, hM⟩ : ∃ M, Pk.horn L = M := ⟨_, rfl⟩
          have HM := hid hM
          rw [hM] at HN
          have hM9 : M ≤ 9223372036854775807 := by
            have h1 := Pk.horn_lt L
            have h2 := HLL.out
            have h3 : 2 ^ (7 * L.length) ≤ 2 ^ 63 := Nat.pow_le_pow_right (by decide) (by omega)
            omega
          clear hM
          have hzc : p = 0 ∨ (0 < p ∧ ((x.toNat : Int) == 0) = false) := by
            rcases Nat.eq_zero_or_pos p with h | h
            · exact .inl h
            · refine .inr ⟨h, ?_⟩
              rw [beq_eq_false_iff_ne]
              intro h2
              exact hz ⟨by omega, h⟩
          clear hz
          have key : ∀ (Q : Prop), Q → Q := fun _ h => h
          rcases hzc with hp0 | ⟨hp0, hzb⟩
          case' inl => (have hp1 : (p : Int) < 1 := (by omega); replace hp0 := hid hp0)
          all_goals (try (exfalso; omega))
          all_goals
            go_wp2
            go_loop [9, 10] (fun m i => ∃ q : Nat, q ≤ p + 1 ∧ i = .int .i64 ((q : Int) - 1) ∧ m = .int .i64 (Pk.horn (L.drop q))) (fun _ i => (intOf i + 1).toNat)
            case atStart => exact ⟨p + 1, by omega, by go_num, by rw [List.drop_eq_nil_of_le (by have := HLL.out; omega)]; rfl⟩
            case round =>
              obtain ⟨q, hq, rfl, rfl⟩ := hrel
              rcases Nat.eq_zero_or_pos q with h0 | h0
              · subst h0
                rw [List.drop_zero, HM.out]
                by_cases hmx : max < (M : Int)
                · rw [if_pos hmx] at HN
                  go_wp2
                  go_ret3
                  exact ⟨by rw [HN.out]; simp [nres], rfl⟩
                · rw [if_neg hmx] at HN
                  go_wp2
                  go_ret3
                  exact ⟨by rw [HN.out]; simp [nres], rfl⟩
              · obtain ⟨q', rfl⟩ : ∃ q', q = q' + 1 := ⟨q - 1, by omega⟩
                have hc := HX.out q' (by omega)
                have hst := hid (Pk.horn_step L q' (by have := HLL.out; omega))
                rw [HLE.out q' (by omega)] at hst
                have hbd : Pk.horn (L.drop (q' + 1)) ≤ 72057594037927935 := by
                  have h1 := Pk.horn_lt (L.drop (q' + 1))
                  have h2 := HLL.out
                  have h3 : 2 ^ (7 * (L.drop (q' + 1)).length) ≤ 2 ^ 56 := Nat.pow_le_pow_right (by decide) (by rw [List.length_drop]; omega)
                  omega
                have hqq : ((q' + 1 : Nat) : Int) - 1 = (q' : Int) := by omega
                rw [hqq]
                generalize Pk.horn (L.drop (q' + 1)) = hn at *
                generalize l.getD q' 0 = y at *
                have hy := y.toNat_lt
                clear hqq
                go_wp2
                go_round
                case rel => exact ⟨q', by omega, by go_num, by rw [hst.out]; go_num⟩
                case measure => simp [intOf] <;> omega
theorem vnumber_any (v : Value) (l : List UInt8) (max : Int) (w : World) (h : SlB w v l) (hl : l.length ≤ 140737488355328) :
    Calls Try.prog 63 #[v, .int .i64 max] w fun r w' => r = nres (Pk.num max 0 0 l) ∧ w' = w := by
  rcases Pk.scan l 9 with ⟨p, h1, h2, h3, h4⟩ | h4
  · exact vnum_some v l max w h p h1 h2 h3 h4 hl
  · exact vnum_none v l max w h h4 hl
end Go.Proofs.Ytamhlfhblgmhoaa
