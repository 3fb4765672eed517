/- The helpers of the code laws: parts that a law owns; some, same. -/
import Derived.Test.YtkklonldplekcaaLwC
import Derived.Test.YtkklonldplekcaaCdG
namespace Go.Proofs.Ytkklonldplekcaa
open Go.RowKit
/-- parts, cell by cell -/
def pc (l : List (Nat × Value)) : List Value := l.flatMap fun p => [.int .i64 (p.1 : Int), p.2]
theorem pc_snoc (l : List (Nat × Value)) (q : Nat) (u : Value) : pc (l ++ [(q, u)]) = pc l ++ [.int .i64 (q : Int), u] := by simp [pc]
theorem pc_get : ∀ (l : List (Nat × Value)) (i : Nat) (p : Nat × Value), l[i]? = some p → (pc l)[i * 2]? = some (.int .i64 (p.1 : Int)) ∧ (pc l)[i * 2 + 1]? = some p.2
  | [], i, p, h => by simp at h
  | a :: l, 0, p, h => by simp at h; subst h; exact ⟨rfl, rfl⟩
  | a :: l, i + 1, p, h => by
    have := pc_get l i p (by simpa using h)
    have e : pc (a :: l) = .int .i64 (a.1 : Int) :: a.2 :: pc l := rfl
    rw [e, show (i + 1) * 2 = i * 2 + 1 + 1 by omega]
    exact ⟨by rw [List.getElem?_cons_succ, List.getElem?_cons_succ]; exact this.1, by rw [List.getElem?_cons_succ, List.getElem?_cons_succ]; exact this.2⟩
/-- parts of the law's own: their list, and each one's bytes -/
def partsT (v : Value) (l : List (Nat × Value)) (M : List (List UInt8)) : List Thing := ownT 74 2 v M.length (pc l) :: rowsT (l.map (·.2)) M
theorem infoP : (Try.prog.info? 74).map (fun i => (i.zero, i.size, i.bytes)) = some (some (.agg #[.int .i64 0, .slice none 0 0]), 2, 32) := by kernel_rfl
/-- as they are read -/
def psOf (l : List (Nat × Value)) (M : List (List UInt8)) : List (Int × List UInt8) := (List.range M.length).map fun i => (((l.getD i (0, .slice none 0 0)).1 : Int), M.getD i [])
theorem psOf_length (l : List (Nat × Value)) (M : List (List UInt8)) : (psOf l M).length = M.length := by simp [psOf]
theorem psOf_get (l : List (Nat × Value)) (M : List (List UInt8)) (i : Nat) (hi : i < M.length) : prt (psOf l M) i = (((l.getD i (0, .slice none 0 0)).1 : Int), M.getD i []) := by simp [prt, psOf, hi]
section
variable {B : Nat} {w0 w w' : World} {ts : List Thing} {v : Value} {l : List (Nat × Value)} {M : List (List UInt8)}
theorem parts_at (hl : l.length = M.length) {i : Nat} (hi : i < M.length) : (partsT v l M)[i + 1]? = some (rowT (l.getD i (0, .slice none 0 0)).2 (M.getD i [])) :=
  rowsT_at _ _ i _ _ (by rw [List.getElem?_map, List.getD_eq_getElem?_getD, List.getElem?_eq_getElem (show i < l.length by omega)]; rfl) (by rw [List.getD_eq_getElem?_getD, List.getElem?_eq_getElem hi]; rfl)
theorem Fam.partOwn (h : Fam B w0 w (partsT v l M ++ ts)) : w.ownsRow 0 74 2 v M.length (pc l) := (h.own (i := 0) rfl).1
theorem Fam.partRow (h : Fam B w0 w (partsT v l M ++ ts)) (hl : l.length = M.length) (i : Nat) (hi : i < M.length) : OwnB w 0 (l.getD i (0, .slice none 0 0)).2 (M.getD i []) := h.rowAt (i := i + 1) (get_app (parts_at hl hi))
/-- the parts, as Decode reads them -/
theorem Fam.slP (h : Fam B w0 w (partsT v l M ++ ts)) (hl : l.length = M.length) : SlP w v (psOf l M) := by
  have ho := h.partOwn
  obtain ⟨A, c, rfl, hA⟩ : ∃ A c, v = .slice A M.length c ∧ (M.length ≤ c ∧ (A = none → c = 0) ∧ (0 < M.length → ∃ g, A = some ⟨g, 0, none⟩)) := by
    obtain ⟨_, ⟨rfl, e⟩ | ⟨g, cap, cur, rfl, _, _, hc, _⟩⟩ := ho
    · exact ⟨none, 0, by rw [e], by omega, fun _ => rfl, fun h => by omega⟩
    · exact ⟨some ⟨g, 0, none⟩, cap, rfl, hc, (fun e => by cases e), fun _ => ⟨g, rfl⟩⟩
  refine ⟨A, c, fun i => [.int .i64 ((l.getD i (0, .slice none 0 0)).1 : Int), (l.getD i (0, .slice none 0 0)).2], by rw [psOf_length], by rw [psOf_length]; exact hA.1, hA.2.1, fun i a hi => ?_, fun h0 => ?_⟩
  · have hil : i < M.length := by have := (List.getElem?_eq_some_iff.1 hi).1; rw [psOf_length] at this; exact this
    have e := prt_get (ps := psOf l M) (i := i) (by rw [psOf_length]; exact hil)
    rw [hi, psOf_get l M i hil] at e
    injection e with e
    subst e
    exact ⟨rfl, _, rfl, (h.partRow hl i hil).sl⟩
  · rw [psOf_length] at h0
    obtain ⟨g, rfl⟩ := hA.2.2 h0
    refine ⟨g, 0, rfl, fun i hi j hj => ?_⟩
    rw [psOf_length] at hi
    rw [Nat.zero_add, World.ownsRow.cellAt ho (i * 2 + j) (by omega)]
    have := pc_get l i _ (show l[i]? = some (l.getD i (0, .slice none 0 0)) by rw [List.getD_eq_getElem?_getD, List.getElem?_eq_getElem (show i < l.length by omega)]; rfl)
    match j, hj with
    | 0, _ => exact this.1
    | 1, _ => exact this.2
end
/-- the rows with the first numbers of an order -/
def someR (M : List (List UInt8)) (f : Nat → Nat) (k : Nat) : List (List UInt8) := (List.range k).map fun i => M.getD (f i) []
theorem someR_snoc (M : List (List UInt8)) (f : Nat → Nat) (k : Nat) : someR M f (k + 1) = someR M f k ++ [M.getD (f k) []] := by simp [someR, List.range_succ]
theorem someR_length (M : List (List UInt8)) (f : Nat → Nat) (k : Nat) : (someR M f k).length = k := by simp [someR]
theorem someR_get (M : List (List UInt8)) (f : Nat → Nat) (k i : Nat) (hi : i < k) : (someR M f k).getD i [] = M.getD (f i) [] := by simp [someR, hi]
theorem some_grow {B : Nat} {w0 w w' : World} {M : List (List UInt8)} {f : Nat → Nat} {j q g cap : Nat} {A : Option Addr} {c : Nat} {l : List (Nat × Value)} {u : Value} {L : List UInt8} (hl : l.length = j) (h : Fam B w0 w (partsT (.slice A j c) l (someR M f j) ++ [rowT u L])) (ho : w'.ownsRow 0 74 2 (.slice (some ⟨g, 0, none⟩) (j + 1) cap) (j + 1) (pc l ++ [.int .i64 (q : Int), u])) (hg : w.grownBy w' (Value.slice A j c).ownBlock) (hat : (Value.slice A j c).ownBlock = some g ∨ g = w.heap.size) : Fam B w0 w' (ownT 74 2 (.slice (some ⟨g, 0, none⟩) (j + 1) cap) (j + 1) (pc (l ++ [(q, u)])) :: rowsT ((l ++ [(q, u)]).map (·.2)) (someR M f j ++ [L])) := by
  have h1 := h.grow (i := 0) (e := 74) (s := 2) (n := (someR M f j).length) (v := .slice A j c) (xs := pc l) rfl ho hg (fun k hk => by
    simp only [Value.ownBlock, Option.some.injEq] at hk
    subst hk
    rcases hat with e | e
    · exact .inl e
    · exact .inr (by omega))
  rw [pc_snoc, List.map_append, List.map_singleton, rowsT_snoc _ _ _ _ (by rw [List.length_map, someR_length]; exact hl)]
  exact h1
theorem some_fst {l : List (Nat × Value)} {j q : Nat} {f : Nat → Nat} (hl : l.length = j) (hf : ∀ i, i < j → (l.getD i (0, .slice none 0 0)).1 = f i) (hq : f j = q) (u : Value) : ∀ i, i < j + 1 → ((l ++ [(q, u)]).getD i (0, .slice none 0 0)).1 = f i := by
  intro i hi
  by_cases e : i < j
  · rw [List.getD_eq_getElem?_getD, List.getElem?_append_left (by omega), ← List.getD_eq_getElem?_getD]; exact hf i e
  · obtain rfl : i = j := by omega
    rw [List.getD_eq_getElem?_getD, List.getElem?_append_right (by omega), hl, Nat.sub_self]; exact hq.symm
/-- what some answers -/
def SomeE (M : List (List UInt8)) (f : Nat → Nat) (k : Nat) (w : World) (e : Ending) (w' : World) : Prop := ∃ v l, e = .returned v ∧ l.length = k ∧ (∀ i, i < k → (l.getD i (0, .slice none 0 0)).1 = f i) ∧ Fam w.heap.size w w' (partsT v l (someR M f k))
set_option maxRecDepth 100000 in
set_option maxHeartbeats 8000000 in
theorem some_any (w : World) (v : Value) (M : List (List UInt8)) (hv : SlBB w v M) (n g c : Nat) (f : Nat → Nat) (hM : M.length = n) (hord : Ord n f) (hg : ∀ i, i < n → w.cell? ⟨g, i, none⟩ = some (.int .i64 ((f i : Nat) : Int))) (hs : ∀ i, i < n → (M.getD i []).length ≤ 100000) (hn2 : n ≤ 1000) (k : Nat) (hk : k ≤ n) :
    Calls Try.prog 47 #[v, .slice (some ⟨g, 0, none⟩) n c, .int .i64 k] w (SomeE M f k w) := by
  obtain ⟨Av, cv, e1⟩ := hv.form
  rw [hM] at e1
  subst e1
  have HV := hid hv
  have HM := hid hM
  have HORD := hid hord
  have HG := hid hg
  have HS := hid hs
  have HF0 : Hid (Fam w.heap.size w w (partsT (.slice none 0 0) [] (someR M f 0))) := hid (by
    have := Fam.add (Fam.start w) (t := ownT 74 2 (.slice none 0 0) 0 []) (Below.refl _ _) ⟨World.ownsRow_nil _ _ _ _, fun k hk => by cases hk⟩
    exact this)
  clear hv hM hord hg hs
  go_enter Try.func47, Try.ntmps47
  go_wp2
  go_loopw [7, 8] (fun v x wr => ∃ (j : Nat) (l : List (Nat × Value)), j ≤ k ∧ x = .int .i64 j ∧ l.length = j ∧ (∀ i, i < j → (l.getD i (0, .slice none 0 0)).1 = f i) ∧ Fam w.heap.size w wr (partsT v l (someR M f j))) (fun _ x _ => k - (intOf x).toNat)
  case atStart => exact ⟨0, [], Nat.zero_le _, rfl, rfl, fun i hi => by omega, HF0.out⟩
  case round =>
    clear HF0
    obtain ⟨j, l, hj, rfl, hl, hlf, hf⟩ := hrel
    have HL := hid hl
    have HLF := hid hlf
    have HF := hid hf
    have how : wr.ownsRow 0 74 2 _ (someR M f j).length (pc l) := (hf.own (i := 0) rfl).1
    rw [someR_length] at how
    obtain ⟨Aw, cw, rfl⟩ := own_form how
    clear hl hlf hf how
    by_cases hlt : j < k
    · have hjn : j < n := by omega
      have hfj := HORD.out.1 j hjn
      obtain ⟨R, o, v0, rfl, r0, s0⟩ := (HV.out.below HF.out.base).at_ (f j) (by rw [HM.out]; exact hfj)
      obtain ⟨q, hq⟩ : ∃ q, f j = q := ⟨_, rfl⟩
      obtain ⟨L, hL⟩ : ∃ L, M.getD (f j) [] = L := ⟨_, rfl⟩
      have hLs := HS.out (f j) hfj
      rw [hL] at s0 hLs
      obtain ⟨A0, q0, rfl⟩ := s0.form
      have x0 : wr.cell? ⟨g, j, none⟩ = some (.int .i64 (q : Int)) := (HF.out.base.cell (World.block_lt_of_cell? w _ (HG.out j hjn))).trans (by rw [HG.out j hjn, hq])
      rw [hq] at r0 hfj
      have HQ := hid hq
      have HLL := hid hL
      have HSL := hid s0
      have HLS := hid hLs
      have x1 : ∀ ob, (wr.alloc ob).cell? ⟨g, j, none⟩ = some (.int .i64 (q : Int)) := fun ob => (((Below.refl wr.heap.size wr).alloc (Nat.le_refl _) ob).cell (World.block_lt_of_cell? wr _ x0)).trans x0
      have r1 : ∀ ob, (wr.alloc ob).cell? ⟨R, o + q, none⟩ = some (.slice A0 L.length q0) := fun ob => (((Below.refl wr.heap.size wr).alloc (Nat.le_refl _) ob).cell (World.block_lt_of_cell? wr _ r0)).trans r0
      have i0 : (0 : Int) ≤ (j : Int) := by omega
      have i1 : (j : Int) < (n : Int) := by omega
      have i2 : (j : Int) < (k : Int) := by omega
      have i3 : (0 : Int) ≤ (q : Int) := by omega
      have i4 : (q : Int) < (n : Int) := by omega
      have HLIT : Hid (OwnB (wr.alloc (.cells #[] 5 (0, 0))).drew wr.heap.size (.slice (some ⟨wr.heap.size, 0, none⟩) 0 0) []) := hid (by
        rcases litB wr [] with h | h
        · exact h.drew
        · simp at h)
      have HBA := hid (show Below wr.heap.size wr (wr.alloc (.cells #[] 5 (0, 0))).drew from ((Below.refl wr.heap.size wr).alloc (Nat.le_refl _) _).drew)
      have HSA := hid (HSL.out.below HBA.out)
      obtain ⟨iP, hi, hz0, hz1, hz2⟩ := info_parts infoP
      have hLb : ([] : List UInt8).length + L.length ≤ 140737488355328 := by have := HLS.out; simp; omega
      have hjb : j + 1 ≤ maxLen := by unfold maxLen; omega
      have hjc : (j + 1) * 32 ≤ 140737488355328 := by omega
      clear hq hL s0 hLs
      go_wp2
      go_region_law (first
        | (refine step_appB (by rfl) (.tmp 19) (.tmp 26) (by rfl) wr.heap.size (.slice (some ⟨wr.heap.size, 0, none⟩) 0 0) (.slice A0 L.length q0) [] L (by rfl) (by rfl) HLIT.out HSA.out hLb HBA.out.size ?_; intro v5 w5 ho5 hg5; rw [List.nil_append] at ho5; obtain ⟨A5, c5, rfl⟩ := ho5.form; have HB5 := hid (OwnB.grown HBA.out HLIT.out (Nat.le_refl _) HBA.out.size hg5); have HF5 := hid (HF.out.add (t := rowT (.slice A5 L.length c5) L) HB5.out ⟨own_base ho5 (Nat.zero_le _), fun k hk => World.ownsRow.lt ho5 k hk⟩); have HF6 := hid (HF5.out.below ((Below.refl w5.heap.size w5).alloc (Nat.le_refl _) (.cells #[.int .i64 (q : Int), .slice A5 L.length c5] 74 (0, 0)))); have HO6 := hid (HF6.out.partOwn); rw [someR_length] at HO6; have x5 : w5.cell? ⟨g, j, none⟩ = some (.int .i64 (q : Int)) := (HB5.out.cell (World.block_lt_of_cell? wr _ x0)).trans x0; clear ho5 hg5)
        | (refine step_append_lies _ (by rfl) (.tmp 14) (.tmp 29) 71 (by rfl) 0 74 iP _ 2 32 Try.underlying71 hi hz0 hz1 hz2 rfl (by omega) (.slice Aw j cw) j (pc l) (by rfl) HO6.out ⟨w5.heap.size, 0, none⟩ 1 1 [.int .i64 (q : Int), .slice A5 L.length c5] (by rfl) (by rfl) (World.news_of_block (cs := #[.int .i64 (q : Int), .slice A5 L.length c5]) (t := 74) (fr := (0, 0)) (heap_alloc_new w5 _)) (by simp [Value.oneCell']) (by omega) hjb hjc (Nat.zero_le _) (w5.heap.size + 1) (by simp) ?_; intro g9 cap9 w9 ho9 hg9 hat9 hlt9; have H9 := hid (some_grow HL.out HF6.out ho9 hg9 (by simpa using hat9)); clear ho9 hg9 hat9 hlt9))
      all_goals
        have R1 : Hid (Fam w.heap.size w w9 (partsT (.slice (some ⟨g9, 0, none⟩) (j + 1) cap9) (l ++ [(q, .slice A5 L.length c5)]) (someR M f (j + 1)))) := hid (by
          unfold partsT
          rw [someR_length, someR_snoc, HLL.out]
          exact H9.out)
        have R2' := hid (some_fst HL.out HLF.out HQ.out (.slice A5 L.length c5))
        clear x0 r0 x1 r1 x5
        go_wp2
        go_roundw
        case rel => exact ⟨j + 1, _, by omega, by go_num, by rw [List.length_append, HL.out]; rfl, R2'.out, R1.out⟩
        case measure => simp [intOf]; omega
    · obtain rfl : k = j := by omega
      have i2 : ¬ (k : Int) < (k : Int) := by omega
      go_wp2
      go_ret
      exact ⟨_, l, rfl, HL.out, HLF.out, HF.out⟩
end Go.Proofs.Ytkklonldplekcaa
