/- What the walk of SumAll needs: the list of wide copies; Turn and Join of any number. -/
import Derived.Test.YthadfebboagabaaDoorSumRJ
import Derived.Test.YthadfebboagabaaDoorOwn
namespace Go.Proofs.YthadfebboagabaaDoor
open Go.RowKit
theorem infoBB : (Tryd.prog.info? 33).map (fun i => (i.zero, i.size, i.bytes)) = some (some (.slice none 0 0), 1, 24) := by kernel_rfl
theorem lit_one (w : World) (u : Value) (t : TypeId) : Sl (w.alloc (.cells #[u] t)) (.slice (some ⟨w.heap.size, 0, none⟩) 1 1) 1 (fun _ => u) := by
  refine ⟨_, _, rfl, Nat.le_refl _, (fun h => by cases h), fun _ => ⟨w.heap.size, 0, rfl, fun i hi => ?_⟩⟩
  obtain rfl : i = 0 := by omega
  rw [cell_of_row _ _ _ _ _ _ (heap_alloc_new _ _)]; rfl
theorem Wide.block {w : World} {base : Nat} {v : Value} {l : List UInt8} (h : Wide w base v l) : ∃ k, v.ownBlock = some k ∧ base ≤ k ∧ k < w.heap.size := by
  obtain ⟨g, cap, rfl, _, ho⟩ := h
  exact ⟨g, rfl, World.ownsRow.lt ho g rfl⟩
theorem Wide.moved {w w1 : World} {base : Nat} {v : Value} {l : List UInt8} (h : Wide w base v l) (hm : ∀ k, v.ownBlock = some k → w1.heap[k]? = w.heap[k]?) : Wide w1 base v l := by
  obtain ⟨g, cap, rfl, hc, ho⟩ := h
  exact ⟨g, cap, rfl, hc, own_block ho fun k hk => hm k hk⟩
theorem Wide.below {w w1 : World} {base : Nat} {v : Value} {l : List UInt8} (h : Wide w base v l) (hb : Below w.heap.size w w1) : Wide w1 base v l :=
  h.moved fun k hk => by obtain ⟨k', h1, _, h2⟩ := h.block; rw [h1] at hk; cases hk; exact hb.block _ h2
theorem Wide.one {w : World} {base : Nat} {v : Value} {l : List UInt8} (h : Wide w base v l) : v.oneCell' = true := by
  obtain ⟨g, cap, rfl, _⟩ := h; rfl
theorem Wide.lower {w : World} {base b2 : Nat} {v : Value} {l : List UInt8} (h : Wide w base v l) (hb : b2 ≤ base) : Wide w b2 v l := by
  obtain ⟨g, cap, rfl, hc, ho⟩ := h
  exact ⟨g, cap, rfl, hc, own_base ho hb⟩
/-- a list of wide copies, in blocks of the call's own, none of them the list's -/
structure Given (W : World) (base : Nat) (gv : Value) (vs : List Value) (ps : List (List UInt8)) : Prop where
  own : W.ownsRow base 33 1 gv vs.length vs
  len : vs.length = ps.length
  each : ∀ (i : Nat) (v : Value) (l : List UInt8), vs[i]? = some v → ps[i]? = some l → Wide W base v l ∧ v.ownBlock ≠ gv.ownBlock
theorem Given.nil (W : World) (base : Nat) : Given W base (.slice none 0 0) [] [] := ⟨World.ownsRow_nil _ _ _ _, rfl, fun i v l h => by simp at h⟩
theorem Given.below {W W' : World} {base : Nat} {gv : Value} {vs : List Value} {ps : List (List UInt8)} (h : Given W base gv vs ps) (hb : Below W.heap.size W W') : Given W' base gv vs ps :=
  ⟨own_block h.own fun k hk => hb.block k (World.ownsRow.lt h.own k hk).2, h.len, fun i v l h1 h2 => ⟨(h.each i v l h1 h2).1.below hb, (h.each i v l h1 h2).2⟩⟩
theorem Given.push {W W' : World} {base : Nat} {gv gv' u : Value} {vs : List Value} {ps : List (List UInt8)} {l : List UInt8} (h : Given W base gv vs ps) (hu : Wide W base u l) (hne : u.ownBlock ≠ gv.ownBlock)
    (ho : W'.ownsRow base 33 1 gv' (vs.length + 1) (vs ++ [u])) (hg : W.grownBy W' gv.ownBlock) (hp : ∀ k, gv'.ownBlock = some k → gv.ownBlock = some k ∨ W.heap.size ≤ k) : Given W' base gv' (vs ++ [u]) (ps ++ [l]) := by
  have key : ∀ (v : Value) (l : List UInt8), Wide W base v l → v.ownBlock ≠ gv.ownBlock → Wide W' base v l ∧ v.ownBlock ≠ gv'.ownBlock := by
    intro v l hw hn
    obtain ⟨k, h1, _, h2⟩ := hw.block
    refine ⟨hw.moved fun k' hk' => hg.block k' (by rw [h1] at hk'; cases hk'; exact h2) (fun e => hn (hk'.trans e)), fun e => ?_⟩
    rcases hp k (by rw [← e, h1]) with e2 | e2
    · exact hn (h1.trans e2.symm)
    · omega
  refine ⟨by simpa using ho, by simp [h.len], fun i v l' h1 h2 => ?_⟩
  rcases Nat.lt_trichotomy i vs.length with hi | hi | hi
  · rw [List.getElem?_append_left hi] at h1
    rw [List.getElem?_append_left (by rw [← h.len]; exact hi)] at h2
    exact key v l' (h.each i v l' h1 h2).1 (h.each i v l' h1 h2).2
  · subst hi
    simp at h1
    rw [h.len] at h2
    simp at h2
    subst h1 h2
    exact key _ _ hu hne
  · rw [List.getElem?_eq_none (by simp; omega)] at h1; cases h1
theorem list_range {α : Type} (d : α) (l : List α) : l = (List.range l.length).map fun i => l.getD i d := by
  apply List.ext_getElem
  · simp
  · intro i h1 h2; simp [h1]
theorem Given.sl {W : World} {base : Nat} {gv : Value} {vs : List Value} {ps : List (List UInt8)} (h : Given W base gv vs ps) : Sl W gv ps.length (fun i => vs.getD i undef) := by
  have := h.own
  rw [list_range undef vs] at this
  simp only [List.length_map, List.length_range] at this
  rw [← h.len]
  exact own_sl this
theorem Given.at_ {W : World} {base : Nat} {gv : Value} {vs : List Value} {ps : List (List UInt8)} (h : Given W base gv vs ps) (i : Nat) (hi : i < ps.length) : Wide W base (vs.getD i undef) (ps.getD i []) := by
  have hi' : i < vs.length := by rw [h.len]; exact hi
  have := (h.each i vs[i] ps[i] (List.getElem?_eq_getElem hi') (List.getElem?_eq_getElem hi)).1
  simpa [hi, hi'] using this
theorem Given.bb {W : World} {base : Nat} {gv : Value} {vs : List Value} {ps : List (List UInt8)} (h : Given W base gv vs ps) : SlBB W gv ps :=
  ⟨_, h.sl, fun i hi => (h.at_ i hi).sl⟩
theorem Turn_z (v : Value) (l : List UInt8) (n : Int) (p : BitVec 32) (n1 : n ≤ 9223372036854775807) (w : World) (h : SlB w v l) (hl : l.length ≤ 140737488355328) :
    Calls Tryd.prog 20 #[v, .int .i64 n, W32 p] w fun e w' => ∃ A c, e = .returned (.tuple #[.slice A (turnZ n p l).length c, .int .i64 (errZ n)]) ∧ OwnB w' w.heap.size (.slice A (turnZ n p l).length c) (turnZ n p l) ∧ Below w.heap.size w w' := by
  rcases Int.lt_or_le n 0 with hn | hn
  · refine (Turn_neg v n p hn w (by obtain ⟨A, c, e⟩ := h.form; exact ⟨_, _, _, e⟩)).mono ?_
    rintro e w' ⟨rfl, rfl⟩
    refine ⟨none, 0, by simp [turnZ, errZ, hn], by simp [turnZ, hn]; exact OwnB.nil _ _, Below.refl _ _⟩
  · obtain ⟨k, rfl⟩ := Int.eq_ofNat_of_zero_le hn
    refine (Turn_any v l k p (by omega) w h hl).mono ?_
    rintro e w' ⟨u, rfl, ho, hb⟩
    have e1 : turnZ (k : Int) p l = Crc.turn k p l := by unfold turnZ; rw [if_neg (by omega)]; simp
    have e2 : errZ (k : Int) = 0 := by unfold errZ; rw [if_neg (by omega)]
    rw [e1, e2]
    obtain ⟨A, c, rfl⟩ := ho.form
    exact ⟨A, c, rfl, ho, hb⟩
theorem refTurn_neg (v : Value) (bit : Int) (p : BitVec 32) (hb : bit < 0) (w : World) :
    Calls Tryd.prog 22 #[v, .int .i64 bit, W32 p] w fun e w' => e = .returned (.tuple #[.slice none 0 0, .int .i64 1]) ∧ w' = w := by
  go_enter Tryd.func22, Tryd.ntmps22
  go_wp2
  go_ret2
  exact ⟨rfl, rfl⟩
theorem refTurn_z (v : Value) (l : List UInt8) (n : Int) (p : BitVec 32) (n1 : n ≤ 9223372036854775807) (w : World) (h : SlB w v l) (hl : l.length ≤ 140737488355328) :
    Calls Tryd.prog 22 #[v, .int .i64 n, W32 p] w fun e w' => ∃ A c, e = .returned (.tuple #[.slice A (turnZ n p l).length c, .int .i64 (errZ n)]) ∧ OwnB w' w.heap.size (.slice A (turnZ n p l).length c) (turnZ n p l) ∧ Below w.heap.size w w' := by
  rcases Int.lt_or_le n 0 with hn | hn
  · refine (refTurn_neg v n p hn w).mono ?_
    rintro e w' ⟨rfl, rfl⟩
    refine ⟨none, 0, by simp [turnZ, errZ, hn], by simp [turnZ, hn]; exact OwnB.nil _ _, Below.refl _ _⟩
  · obtain ⟨k, rfl⟩ := Int.eq_ofNat_of_zero_le hn
    refine (refTurn_any v l k p (by omega) w h hl).mono ?_
    rintro e w' ⟨u, rfl, ho, hb⟩
    have e1 : turnZ (k : Int) p l = Crc.turn k p l := by unfold turnZ; rw [if_neg (by omega)]; simp
    have e2 : errZ (k : Int) = 0 := by unfold errZ; rw [if_neg (by omega)]
    rw [e1, e2]
    obtain ⟨A, c, rfl⟩ := ho.form
    exact ⟨A, c, rfl, ho, hb⟩
theorem turnZ_length (n : Int) (p : BitVec 32) (l : List UInt8) : (turnZ n p l).length ≤ l.length := by
  unfold turnZ; split
  · simp
  · rw [Crc.turn_length]; omega
def joinZ (n : Int) (a b : BitVec 32) : BitVec 32 := if n < 0 then 0#32 else Crc.rounds Crc.Z n.toNat a ^^^ b
theorem Join_z (a b : BitVec 32) (n : Int) (n1 : n ≤ 9223372036854775807) (w : World) (hT : TabAt w) :
    Calls Tryd.prog 9 #[W32 a, W32 b, .int .i64 n] w fun e w' => e = .returned (.tuple #[W32 (joinZ n a b), .int .i64 (errZ n)]) ∧ Below w.heap.size w w' := by
  rcases Int.lt_or_le n 0 with hn | hn
  · refine (Join_neg a b n hn w).mono ?_
    rintro e w' ⟨rfl, hb⟩
    exact ⟨by simp [joinZ, errZ, hn], hb⟩
  · obtain ⟨k, rfl⟩ := Int.eq_ofNat_of_zero_le hn
    refine (Join_any a b k (by omega) w hT).mono ?_
    rintro e w' ⟨rfl, hb⟩
    have e1 : joinZ (k : Int) a b = Crc.rounds Crc.Z k a ^^^ b := by unfold joinZ; rw [if_neg (by omega)]; simp
    have e2 : errZ (k : Int) = 0 := by unfold errZ; rw [if_neg (by omega)]
    rw [e1, e2]
    exact ⟨rfl, hb⟩
theorem refJoin_z (a b : BitVec 32) (n : Int) (n1 : n ≤ 9223372036854775807) (w : World) :
    Calls Tryd.prog 21 #[W32 a, W32 b, .int .i64 n] w fun e w' => e = .returned (.tuple #[W32 (joinZ n a b), .int .i64 (errZ n)]) ∧ Below w.heap.size w w' := by
  rcases Int.lt_or_le n 0 with hn | hn
  · refine (refJoin_neg a b n hn w).mono ?_
    rintro e w' ⟨rfl, hb⟩
    exact ⟨by simp [joinZ, errZ, hn], hb⟩
  · obtain ⟨k, rfl⟩ := Int.eq_ofNat_of_zero_le hn
    refine (refJoin_any a b k (by omega) w).mono ?_
    rintro e w' ⟨rfl, hb⟩
    have e1 : joinZ (k : Int) a b = Crc.rounds Crc.Z k a ^^^ b := by unfold joinZ; rw [if_neg (by omega)]; simp
    have e2 : errZ (k : Int) = 0 := by unfold errZ; rw [if_neg (by omega)]
    rw [e1, e2]
    exact ⟨rfl, hb⟩
end Go.Proofs.YthadfebboagabaaDoor
