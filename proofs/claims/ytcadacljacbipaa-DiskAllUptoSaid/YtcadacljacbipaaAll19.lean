/- The choices of a crash, by their place; modulo; the disk that a crash leaves, as it is made. -/
import Derived.Test.YtcadacljacbipaaAll12
import Derived.Test.YtcadacljacbipaaAll10
namespace Go.Proofs.Ytcadacljacbipaa
open Go.RowKit
theorem pick1_at (cs : List Int) (a n : Nat) : pick1 (cs.drop a) n = cmod (cs.getD a 0) n := by
  by_cases h : a < cs.length
  · rw [List.drop_eq_getElem_cons h, List.getD_eq_getElem?_getD, List.getElem?_eq_getElem h]; rfl
  · rw [List.drop_of_length_le (by omega), List.getD_eq_getElem?_getD, List.getElem?_eq_none (by omega)]
    show 0 = cmod 0 n
    unfold cmod; simp
theorem getD_over (cs : List Int) (a : Nat) (h : ¬ a < cs.length) : cs.getD a 0 = 0 := by
  rw [List.getD_eq_getElem?_getD, List.getElem?_eq_none (by omega)]; rfl
/-- so many whole acts, and what comes of it -/
theorem crash_none (s : Dslot) (cs : List Int) (a q : Nat) (hq : pick1 (cs.drop a) (s.acts.length + 1) = q) (h : ∀ d, s.acts[q]? ≠ some (.app d)) : s.crash (cs.drop a) = (doAll (s.acts.take q) s.lasts, cs.drop (a + 1)) := by
  unfold Dslot.crash
  rw [hq, ← List.drop_drop]
  cases e : s.acts[q]? with
  | none => simp [List.tail_drop]
  | some x =>
    cases x with
    | app d => exact absurd e (h d)
    | wipe => simp [List.tail_drop]
theorem crash_some (s : Dslot) (cs : List Int) (a q : Nat) (d : List UInt8) (hq : pick1 (cs.drop a) (s.acts.length + 1) = q) (h : s.acts[q]? = some (.app d)) : s.crash (cs.drop a) = (doAll (s.acts.take q) s.lasts ++ d.take (pick1 (cs.drop (a + 1)) d.length), cs.drop (a + 1 + 1)) := by
  unfold Dslot.crash
  rw [hq]
  simp only [h]
  simp [List.tail_drop]
set_option maxHeartbeats 1000000 in
theorem rMod_any (k : Int) (n : Nat) (_ : -9223372036854775808 ≤ k) (_ : k ≤ 9223372036854775807) (hn : 0 < n) (hn2 : n ≤ 1125899906842624) (w : World) :
    Calls Try.prog 62 #[.int .i64 k, .int .i64 (n : Int)] w fun e w' => e = .returned (.int .i64 (cmod k n : Int)) ∧ w' = w := by
  have t1 := Int.tmod_lt_of_pos k (show (0 : Int) < (n : Int) by omega)
  have t2 := Int.lt_tmod_of_pos k (show (0 : Int) < (n : Int) by omega)
  have hn0 : (1 : Int) ≤ (n : Int) := by omega
  have e : (cmod k n : Int) = k % n := by
    unfold cmod; rw [Int.toNat_of_nonneg (Int.emod_nonneg _ (by omega))]
  have d : k.tmod n = k % n - (if 0 ≤ k ∨ (n : Int) ∣ k then 0 else ((n : Int)).natAbs) := Int.tmod_eq_emod
  have e1 := Int.emod_nonneg k (show (n : Int) ≠ 0 by omega)
  have e2 := Int.emod_lt_of_pos k (show (0 : Int) < (n : Int) by omega)
  rcases Int.lt_or_le (k.tmod n) 0 with hneg | hneg
  · have HR : Hid (k.tmod n + n = (cmod k n : Int)) := hid (by
      rw [e]
      split at d <;> omega)
    clear e d e1 e2
    go_enter Try.func62, Try.ntmps62
    go_wp2
    go_ret
    exact ⟨congrArg (fun n => Ending.returned (.int .i64 n)) HR.out, rfl⟩
  · have HR : Hid (k.tmod n = (cmod k n : Int)) := hid (by
      rw [e]
      split at d <;> omega)
    clear e d e1 e2
    go_enter Try.func62, Try.ntmps62
    go_wp2
    go_ret
    exact ⟨congrArg (fun n => Ending.returned (.int .i64 n)) HR.out, rfl⟩
/-- a disk of the document's that is being made: its slots are x and y, and Q x y -/
structure RMk (w1 wr : World) (out c : Nat) (Q : List UInt8 → List UInt8 → Prop) : Prop where
  below : Below out w1 wr
  lt : out < wr.heap.size
  ex : ∃ l0 l1 x y, wr.heap[out]? = some (.cells (refCells l0 l1 (.slice none 0 0) (.slice none 0 0) (Dk.load x y c)) 83 (0, 0)) ∧ OwnB wr (out + 1) l0 x ∧ OwnB wr (out + 1) l1 y ∧ Q x y
theorem RMk.start {w w1 : World} {c : Nat} {Q : List UInt8 → List UInt8 → Prop} (h : w1 = w.alloc (.cells (refCells (.slice none 0 0) (.slice none 0 0) (.slice none 0 0) (.slice none 0 0) (Dk.load [] [] c)) 83 (0, 0))) (hq : Q [] []) : RMk w w1 w.heap.size c Q := by
  subst h
  exact ⟨(Below.refl _ _).alloc (Nat.le_refl _) _, by simp, _, _, [], [], heap_alloc_new _ _, OwnB.nil _ _, OwnB.nil _ _, hq⟩
theorem RMk.cell {w1 wr : World} {out c : Nat} {Q : List UInt8 → List UInt8 → Prop} (h : RMk w1 wr out c Q) (k : Nat) : wr.frozen? ⟨out, k, none⟩ = false := by
  obtain ⟨_, _, l0, l1, x, y, g1, _⟩ := h
  exact blk_frozen g1 _
theorem RMk.has {w1 wr : World} {out c : Nat} {Q : List UInt8 → List UInt8 → Prop} (h : RMk w1 wr out c Q) (k : Nat) (hk : k < 2) : ∃ u, wr.cell? ⟨out, k, none⟩ = some u := by
  obtain ⟨_, _, l0, l1, x, y, g1, _⟩ := h
  obtain rfl | rfl : k = 0 ∨ k = 1 := by omega
  · exact ⟨l0, by rw [blk_cell g1]; rfl⟩
  · exact ⟨l1, by rw [blk_cell g1]; rfl⟩
def LdQ (a b : List UInt8) (k : Nat) (x y : List UInt8) : Prop := (1 ≤ k → x = a) ∧ (2 ≤ k → y = b)
theorem LdQ.next {a b x y l : List UInt8} {k : Nat} (h : LdQ a b k x y) (hl : l = if k = 0 then a else b) : (k = 0 → LdQ a b (k + 1) l y) ∧ (k = 1 → LdQ a b (k + 1) x l) := by
  refine ⟨?_, ?_⟩
  · rintro rfl
    exact ⟨fun _ => hl, fun h => absurd h (by decide)⟩
  · rintro rfl
    exact ⟨fun _ => h.1 (Nat.le_refl _), fun _ => hl⟩
theorem RMk.step {w1 wr W : World} {out c k : Nat} {Q Q' : List UInt8 → List UInt8 → Prop} {v : Value} {b : List UInt8} (h : RMk w1 wr out c Q) (hk : k < 2) (hb : Below wr.heap.size wr W) (ho : OwnB W (out + 1) v b) (hq : ∀ x y, Q x y → (k = 0 → Q' b y) ∧ (k = 1 → Q' x b)) : RMk w1 (W.setCell ⟨out, k, none⟩ v) out c Q' := by
  obtain ⟨h1, h2, l0, l1, x, y, g1, g2, g3, g4⟩ := h
  have hg : W.heap[out]? = some (.cells (refCells l0 l1 (.slice none 0 0) (.slice none 0 0) (Dk.load x y c)) 83 (0, 0)) := (hb.block out h2).trans g1
  have hs := blk_set hg k v
  have f2 : OwnB (W.setCell ⟨out, k, none⟩ v) (out + 1) l0 x := (g2.below hb).fr (Fr.set_ k v) fun j hj e => by have := (World.ownsRow.lt (g2.below hb) j hj).1; omega
  have f3 : OwnB (W.setCell ⟨out, k, none⟩ v) (out + 1) l1 y := (g3.below hb).fr (Fr.set_ k v) fun j hj e => by have := (World.ownsRow.lt (g3.below hb) j hj).1; omega
  have fo : OwnB (W.setCell ⟨out, k, none⟩ v) (out + 1) v b := ho.fr (Fr.set_ k v) fun j hj e => by have := (World.ownsRow.lt ho j hj).1; omega
  have hbl : Below out w1 (W.setCell ⟨out, k, none⟩ v) := (h1.trans (hb.mono (Nat.le_of_lt h2))).setCell (Nat.le_refl _) _
  have hsz := hb.size
  obtain rfl | rfl : k = 0 ∨ k = 1 := by omega
  · exact ⟨hbl, by simp; omega, v, l1, b, y, hs, fo, f3, (hq x y g4).1 rfl⟩
  · exact ⟨hbl, by simp; omega, l0, v, x, b, hs, f2, fo, (hq x y g4).2 rfl⟩
theorem RMk.done {w1 wr : World} {out c : Nat} {Q : List UInt8 → List UInt8 → Prop} {E : Dk} (h : RMk w1 wr out c Q) (hout : out = w1.heap.size) (hcur : c < 2) (he : ∀ x y, Q x y → Dk.load x y c = E) : Below w1.heap.size w1 wr ∧ RAt wr (fun k => Nw w1 wr k) out E := by
  subst hout
  obtain ⟨h1, h2, l0, l1, x, y, g1, g2, g3, g4⟩ := h
  have e := he x y g4
  subst e
  refine ⟨h1, fun k => Nw w1 wr k ∧ k ≠ w1.heap.size, l0, l1, .slice none 0 0, .slice none 0 0, ?_⟩
  exact
    { at_ := g1
      k0 := ⟨g2.sl, fun _ j hj => by have := World.ownsRow.lt g2 j hj; exact ⟨⟨by omega, this.2⟩, by omega⟩⟩
      k1 := ⟨g3.sl, fun _ j hj => by have := World.ownsRow.lt g3 j hj; exact ⟨⟨by omega, this.2⟩, by omega⟩⟩
      m0 := LsAt.nil _ _
      m1 := LsAt.nil _ _
      cur := hcur
      sd := ⟨Nat.le_refl _, h2⟩
      id := fun h => h.2 rfl
      is := fun _ h => h.1
      lt := fun k hk => hk.2
      r0 := fun k hk => by simp [Value.ownBlock] at hk
      r1 := fun k hk => by simp [Value.ownBlock] at hk
      rr := fun k hk => by simp [Value.ownBlock] at hk }
theorem RAt.wide {w : World} {S S' : Nat → Prop} {d : Nat} {D : Dk} (h : RAt w S d D) (hs : ∀ k, S k → S' k) (hl : ∀ k, S' k → k < w.heap.size := by intro k hk; exact hk.2) : RAt w S' d D :=
  h.fr (Fr.refl (fun _ => False) _) (fun _ _ h => h) hs hl
theorem rLoad_bad (va vb : Value) (n : Int) (w : World) (h : ¬ (n = 0 ∨ n = 1)) :
    Calls Try.prog 45 #[.agg #[va, vb], .int .i64 n] w fun e w' => e = .returned (.tuple #[.pointer none, .int .i64 61]) ∧ Below w.heap.size w w' := by
  have q0 : (n != 0) = true := by rw [bne_iff_ne]; omega
  have q1 : (n != 1) = true := by rw [bne_iff_ne]; omega
  clear h
  go_enter Try.func45, Try.ntmps45
  go_wp2
  go_ret2
  exact ⟨rfl, (Below.refl _ _).alloc (Nat.le_refl _) _⟩
set_option maxRecDepth 100000 in
set_option maxHeartbeats 4000000 in
theorem rLoad_any (va vb : Value) (a b : List UInt8) (n : Nat) (w : World) (ha : SlB w va a) (hb : SlB w vb b) (hn : n < 2) (hla : a.length ≤ 140737488355328) (hlb : b.length ≤ 140737488355328) :
    Calls Try.prog 45 #[.agg #[va, vb], .int .i64 n] w fun e w' => ∃ d, e = .returned (.tuple #[.pointer (some ⟨d, 0, none⟩), .int .i64 0]) ∧ Below w.heap.size w w' ∧ RAt w' (fun k => Nw w w' k) d (Dk.load a b n) := by
  have HA := hid ha
  have HB := hid hb
  clear ha hb
  have HN := hid hn
  rcases (show n = 0 ∨ n = 1 by omega) with h0 | h0
  case' inl => have q0 : ((n : Int) != 0) = false := by rw [h0]; rfl
  case' inr =>
    have q0 : ((n : Int) != 0) = true := by rw [h0]; rfl
    have q1 : ((n : Int) != 1) = false := by rw [h0]; rfl
  all_goals
    clear h0 hn
    go_enter Try.func45, Try.ntmps45
    go_upto_region 1 with (fail)
    refine Code.seen (fun W => Below w.heap.size w W ∧ W.heap[w.heap.size]? = some (.cells #[va, vb] 32 (0, 0)) ∧ w.heap.size < W.heap.size) ⟨(Below.refl _ _).alloc (Nat.le_refl _) _, heap_alloc_new _ _, by simp⟩ fun w1 H1 => ?_
    go_upto_region 4 with (fail)
    refine Code.seen (fun W => RMk w1 W w1.heap.size n (LdQ a b 0)) (RMk.start rfl ⟨fun h => absurd h (by decide), fun h => absurd h (by decide)⟩) fun w2 H2 => ?_
    have HOut : Hid (w.heap.size < w1.heap.size) := hid H1.out.2.2
    go_wp2
    go_loopw [7] (fun i wr => ∃ k : Nat, k ≤ 2 ∧ i = .int .i64 k ∧ RMk w1 wr w1.heap.size n (LdQ a b k)) (fun i _ => 2 - (intOf i).toNat)
    case atStart => exact ⟨0, by decide, rfl, H2.out⟩
    case round =>
      clear H2
      obtain ⟨k, hk, rfl, hm⟩ := hrel
      have HM := hid hm
      clear hm
      by_cases hlt : k < 2
      · have hbw := HM.out.below.trans (Below.refl w1.heap.size wr)
        have hblk := blk_keep hbw H1.out.2.1 H1.out.2.2
        obtain ⟨vk, lk, x0, hs, hlk, hll⟩ : ∃ vk lk, wr.cell? ⟨w.heap.size, k, none⟩ = some vk ∧ SlB wr vk lk ∧ lk = (if k = 0 then a else b) ∧ lk.length ≤ 140737488355328 := by
          have hB := below_then H1.out.1 hbw
          obtain rfl | rfl : k = 0 ∨ k = 1 := by omega
          · exact ⟨va, a, by rw [blk_cell hblk]; rfl, HA.out.below hB, rfl, hla⟩
          · exact ⟨vb, b, by rw [blk_cell hblk]; rfl, HB.out.below hB, rfl, hlb⟩
        obtain ⟨u, c0⟩ := HM.out.has k hlt
        have f0 := HM.out.cell k
        have HS := hid hs
        have HLK := hid hlk
        have hxl := World.block_lt_of_cell? wr _ x0
        have hol := HM.out.lt
        have j0 : (0 : Int) ≤ (k : Int) := by omega
        have j1 : (k : Int) < 2 := by omega
        clear hs hlk hblk hbw
        go_wp2
        go_region_held3 (fun W => W.cell? ⟨w.heap.size, k, none⟩ = some vk)
          (first | assumption | exact (hb3.cell (p := ⟨w.heap.size, k, none⟩) hxl).trans x0 | (rw [World.cell?_setCell_other _ _ _ _ (by intro e; injection e with e1; exact Nat.ne_of_lt HOut.out e1.symm)]; exact (hb3.cell (p := ⟨w.heap.size, k, none⟩) hxl).trans x0))
          ((go_at_call 63; (with_reducible refine (laid_app vk (.slice none 0 0) lk [] _ (HS.out.below (drew_below wr)) (OwnB.nil wr.drew 0).sl (by simpa using hll)).mono ?_); rintro e w3 ⟨v3, rfl, ho3, hb3⟩; rw [List.append_nil] at ho3; obtain ⟨A3, c3, rfl⟩ := ho3.form; have HO3 := hid ho3; have g0 : w3.cell? ⟨w1.heap.size, k, none⟩ = some u := (hb3.cell (p := ⟨w1.heap.size, k, none⟩) hol).trans c0; have e0 : w3.frozen? ⟨w1.heap.size, k, none⟩ = false := (hb3.frozen (p := ⟨w1.heap.size, k, none⟩) hol).trans f0))
        all_goals
          have R := hid (HM.out.step hlt (below_then (drew_below wr) hb3) (own_base HO3.out (by have := (drew_below wr).size; omega)) (fun x y hq => hq.next HLK.out))
          clear hb3 g0 e0 x0 c0 f0
          go_wp2
          go_roundw
          case rel => exact ⟨k + 1, by omega, by go_num, R.out⟩
          case measure => simp [intOf]; omega
      · have HM2 : Hid (RMk w1 wr w1.heap.size n (LdQ a b 2)) := hid (by have := HM.out; rwa [show k = 2 by omega] at this)
        have R := hid (HM2.out.done (E := Dk.load a b n) rfl HN.out (fun x y h => by rw [h.1 (by decide), h.2 (by decide)]))
        go_wp2
        go_ret2
        exact ⟨_, rfl, below_then H1.out.1 R.out.1, RAt.wide R.out.2 (fun k hk => ⟨by have := hk.1; have := HOut.out; omega, hk.2⟩)⟩
end Go.Proofs.Ytcadacljacbipaa
