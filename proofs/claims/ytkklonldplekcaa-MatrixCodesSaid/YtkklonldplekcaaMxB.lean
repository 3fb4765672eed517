/- The walks of package matrix: blank. -/
import Derived.Test.YtkklonldplekcaaMxA
import Derived.Deep.RegionHeld3
import Derived.StillTailTactics
namespace Go.Proofs.Ytkklonldplekcaa
open Go.RowKit
/-- so many rows of zeros are made, the others are none yet -/
def half (rows cols k : Nat) : List (List UInt8) := List.replicate k (List.replicate cols 0) ++ List.replicate (rows - k) []
theorem half_length {rows cols k : Nat} (hk : k ≤ rows) : (half rows cols k).length = rows := by simp [half]; omega
theorem half_set {rows cols k : Nat} (hk : k < rows) : (half rows cols k).set k (List.replicate cols 0) = half rows cols (k + 1) := by
  apply List.ext_getElem
  · simp [half]; omega
  · intro i h1 h2
    rw [List.getElem_set]
    simp only [half, List.getElem_append, List.length_replicate, List.getElem_replicate]
    split
    · split
      · rfl
      · omega
    · split
      · split
        · rfl
        · omega
      · split
        · omega
        · rfl
/-- a new row's value is put in its place -/
theorem Fam.gridPut {B : Nat} {w0 w : World} {ts : List Thing} {R c n : Nat} {vs : List Value} {M : List (List UInt8)} {v : Value} {l : List UInt8} (h : Fam B w0 w (ts ++ gridT (.slice (some ⟨R, 0, none⟩) n c) vs M ++ [rowT v l])) (hn : n = M.length) (hl : vs.length = M.length) (i : Nat) (hi : i < M.length) : Fam B w0 (w.setCell ⟨R, i, none⟩ v) (ts ++ gridT (.slice (some ⟨R, 0, none⟩) n c) (vs.set i v) (M.set i l)) := by
  subst hn
  have h1 := h.move (i := ts.length + (i + 1)) (by rw [List.length_append]; show _ < ts.length + ((rowsT vs M).length + 1); rw [rowsT_length vs M hl]; omega)
  rw [set_at] at h1
  have e : (gridT (.slice (some ⟨R, 0, none⟩) M.length c) vs M).set (i + 1) (rowT v l) = ownT 22 1 (.slice (some ⟨R, 0, none⟩) M.length c) M.length vs :: rowsT (vs.set i v) (M.set i l) := by
    unfold gridT
    rw [List.set_cons_succ, rowsT_put vs M i v l hl]
  rw [e] at h1
  obtain ⟨S, hS, _, kk⟩ := h1.call (i := ts.length + 0) (by rw [get_at]; rfl)
  have h2 := kk (ownT 22 1 (.slice (some ⟨R, 0, none⟩) M.length c) M.length (vs.set i v)) (w.setCell ⟨R, i, none⟩ v) ⟨(hS.1.stored i v).1, fun j hj => .inl (hS.2 j hj)⟩ ((Fr.set_ (g := R) i v).mono fun j _ e => hS.2 j (by rw [e]; rfl))
  rw [set_at] at h2
  unfold gridT
  rw [List.length_set]
  exact h2
theorem Fam.swap2 {B : Nat} {w0 w : World} {ts : List Thing} {a b : Thing} (h : Fam B w0 w ((ts ++ [a]) ++ [b])) : Fam B w0 w ((ts ++ [b]) ++ [a]) := by
  rw [List.append_assoc] at h ⊢
  refine h.pick _ (fun i => if i = ts.length then ts.length + 1 else if i = ts.length + 1 then ts.length else i) (fun i t ht => ?_) (fun i j _ _ e => ?_)
  · by_cases hi : i < ts.length
    · rw [if_neg (by omega), if_neg (by omega)]
      rw [List.getElem?_append_left hi] at ht ⊢
      exact ht
    · obtain ⟨k, rfl⟩ : ∃ k, i = ts.length + k := ⟨i - ts.length, by omega⟩
      rw [get_at] at ht
      have hk := (List.getElem?_eq_some_iff.1 ht).1
      simp only [List.cons_append, List.nil_append, List.length_cons, List.length_nil] at hk
      obtain rfl | rfl : k = 0 ∨ k = 1 := by omega
      · rw [if_pos (by omega), get_at]; exact ht
      · rw [if_neg (by omega), if_pos (by omega), show (ts ++ ([a] ++ [b]))[ts.length]? = (ts ++ ([a] ++ [b]))[ts.length + 0]? from rfl, get_at]; exact ht
  · split at e <;> split at e <;> (try split at e) <;> (try split at e) <;> omega
/-- things that say nothing of any block -/
theorem Fam.nils {B : Nat} {w0 w : World} {ts : List Thing} (h : Fam B w0 w ts) : ∀ n, Fam B w0 w (ts ++ rowsT (List.replicate n (.slice none 0 0)) (List.replicate n []))
  | 0 => by simpa [rowsT] using h
  | n + 1 => by
    have h1 := Fam.add (Fam.nils h n) (t := rowT (.slice none 0 0) []) (Below.refl w.heap.size w) ⟨OwnB.nil w 0, fun k hk => by cases hk⟩
    rw [List.append_assoc, ← rowsT_snoc _ _ _ _ (by simp), ← List.replicate_succ', ← List.replicate_succ'] at h1
    exact h1
theorem Fam.grid0 {B : Nat} {w0 w : World} {ts : List Thing} {Rv : Value} {b : Thing} {rows cols : Nat} (h : Fam B w0 w ((ts ++ [ownT 22 1 Rv rows (List.replicate rows (.slice none 0 0))]) ++ [b])) : Fam B w0 w ((ts ++ [b]) ++ gridT Rv (List.replicate rows (.slice none 0 0)) (half rows cols 0)) := by
  have h1 := Fam.nils h.swap2 rows
  unfold gridT
  rw [half_length (Nat.zero_le _)]
  rw [List.append_assoc] at h1
  simpa [half] using h1
/-- a matrix's own block is not that of its list of rows -/
theorem Fam.apart {B : Nat} {w0 w : World} {ts : List Thing} {R c n m : Nat} {a b : Value} {vs : List Value} {M : List (List UInt8)} (h : Fam B w0 w ((ts ++ [blkT m (.cells #[a, b] 104 (0, 0))]) ++ gridT (.slice (some ⟨R, 0, none⟩) n c) vs M)) : R ≠ m := by
  have ho := (h.own (i := (ts ++ [blkT m (.cells #[a, b] 104 (0, 0))]).length + 0) (by rw [get_at]; rfl)).1
  have hb := h.back.blkL 0 rfl
  rintro rfl
  obtain ⟨_, ⟨e, _⟩ | ⟨g, cap, cur, e, _, hg, _⟩⟩ := ho
  · cases e
  · injection e with e1
    injection e1 with e1
    injection e1 with e1
    rw [← e1, hb] at hg
    injection hg with hg
    injection hg with _ e2
    exact absurd e2 (by decide)
set_option maxRecDepth 100000 in
set_option maxHeartbeats 8000000 in
theorem blank_any (B : Nat) (w0 w : World) (ts : List Thing) (h : Fam B w0 w ts) (fp : Option Addr) (rows cols : Nat) (hr : rows ≤ 1024) (hc : cols ≤ 1024) :
    Calls Try.prog 67 #[.pointer fp, .int .i64 rows, .int .i64 cols] w fun e w' => ∃ m R vs, e = .returned (.pointer (some ⟨m, 0, none⟩)) ∧ vs.length = rows ∧ Fam B w0 w' ((ts ++ [blkT m (.cells #[.pointer fp, .slice (some ⟨R, 0, none⟩) rows rows] 104 (0, 0))]) ++ gridT (.slice (some ⟨R, 0, none⟩) rows rows) vs (List.replicate rows (List.replicate cols 0))) := by
  have H := hid h
  obtain ⟨w1, hmk, ho1, hb1⟩ := make_rows w rows (by omega)
  have HO1 := hid ho1
  have HB1 := hid hb1
  clear h ho1 hb1
  go_enter Try.func67, Try.ntmps67
  go_upto_region 2 with (fail)
  obtain ⟨R, hR⟩ : ∃ R, w.heap.size = R := ⟨_, rfl⟩
  obtain ⟨m, hm⟩ : ∃ m, w1.heap.size = m := ⟨_, rfl⟩
  refine Code.seen (fun W => Fam B w0 W ((ts ++ [blkT m (.cells #[.pointer fp, .slice (some ⟨R, 0, none⟩) rows rows] 104 (0, 0))]) ++ gridT (.slice (some ⟨R, 0, none⟩) rows rows) (List.replicate rows (.slice none 0 0)) (half rows cols 0))) ?_ fun w2 H2 => ?_
  · have h1 := H.out.add (t := ownT 22 1 (.slice (some ⟨w.heap.size, 0, none⟩) rows rows) rows (List.replicate rows (.slice none 0 0))) HB1.out ⟨own_base HO1.out (Nat.zero_le _), fun j hj => World.ownsRow.lt HO1.out j hj⟩
    have h2 := h1.new (.cells #[.pointer fp, .slice (some ⟨w.heap.size, 0, none⟩) rows rows] 104 (0, 0))
    rw [← hR, ← hm]
    exact Fam.grid0 h2
  rw [hR, hm]
  clear hmk hR hm
  have hmc : ∀ W : World, Fam B w0 W ((ts ++ [blkT m (.cells #[.pointer fp, .slice (some ⟨R, 0, none⟩) rows rows] 104 (0, 0))]) ++ gridT (.slice (some ⟨R, 0, none⟩) rows rows) (List.replicate rows (.slice none 0 0)) (half rows cols 0)) → True := fun _ _ => trivial
  clear hmc
  have y1 : w2.cell? ⟨m, 1, none⟩ = some (.slice (some ⟨R, 0, none⟩) rows rows) := by rw [blk_cell (H2.out.back.blkL 0 rfl)]; rfl
  go_wp2
  clear y1
  go_loopw [8, 19] (fun _ i wr => ∃ (k : Nat) (vs : List Value), k ≤ rows ∧ i = .int .i64 k ∧ vs.length = rows ∧ Fam B w0 wr ((ts ++ [blkT m (.cells #[.pointer fp, .slice (some ⟨R, 0, none⟩) rows rows] 104 (0, 0))]) ++ gridT (.slice (some ⟨R, 0, none⟩) rows rows) vs (half rows cols k))) (fun _ i _ => rows - (intOf i).toNat)
  case atStart => exact ⟨0, _, Nat.zero_le _, rfl, by simp, H2.out⟩
  case round =>
    clear H2
    obtain ⟨k, vs, hk, rfl, hvl, hf⟩ := hrel
    have HF := hid hf
    have HVL := hid hvl
    clear hf hvl
    by_cases hlt : k < rows
    · have y1 : wr.cell? ⟨m, 1, none⟩ = some (.slice (some ⟨R, 0, none⟩) rows rows) := by rw [blk_cell (HF.out.back.blkL 0 rfl)]; rfl
      have hhl := half_length (rows := rows) (cols := cols) hk
      obtain ⟨w3, hmk, ho3, hb3⟩ := make_bytes wr.drew cols (by omega)
      have HO3 := hid ho3
      have HB3 := hid (below_then ((Below.refl _ _).drew : Below wr.heap.size wr wr.drew) hb3)
      have y3 : w3.cell? ⟨m, 1, none⟩ = some (.slice (some ⟨R, 0, none⟩) rows rows) := (HB3.out.cell (World.block_lt_of_cell? wr _ y1)).trans y1
      have HF3 := hid ((HF.out.below (Below.refl wr.heap.size wr).drew).add (t := rowT (.slice (some ⟨wr.heap.size, 0, none⟩) cols cols) (List.replicate cols 0)) hb3 ⟨own_base HO3.out (Nat.zero_le _), fun j hj => World.ownsRow.lt HO3.out j hj⟩)
      have hgv := (HF3.out.back).gridVal (by rw [hhl]) (by rw [hhl]; exact HVL.out) k (by rw [hhl]; exact hlt)
      obtain ⟨z0, f0⟩ := hgv
      generalize vs.getD k (.slice none 0 0) = vk at z0
      have i0 : (0 : Int) ≤ (k : Int) := by omega
      have i1 : (k : Int) < (rows : Int) := by omega
      clear ho3 hb3 hhl
      go_wp2
      have hne := HF.out.apart
      go_region_held3 (fun W => W.cell? ⟨m, 1, none⟩ = some (.slice (some ⟨R, 0, none⟩) rows rows))
        (first | exact y1 | exact y3 | (rw [World.cell?_setCell_other _ _ _ _ (by intro e; injection e with e1; exact hne e1)]; exact y3))
        (fail)
      all_goals
        have R1 := hid (HF3.out.gridPut (by rw [half_length hk]) (by rw [half_length hk]; exact HVL.out) k (by rw [half_length hk]; exact hlt))
        rw [half_set hlt] at R1
        clear y1 y3 z0 f0
        go_wp2
        go_roundw
        case rel => exact ⟨k + 1, _, by omega, by go_num, by rw [List.length_set]; exact HVL.out, R1.out⟩
        case measure => simp [intOf]; omega
    · have HE : Hid (Fam B w0 wr ((ts ++ [blkT m (.cells #[.pointer fp, .slice (some ⟨R, 0, none⟩) rows rows] 104 (0, 0))]) ++ gridT (.slice (some ⟨R, 0, none⟩) rows rows) vs (List.replicate rows (List.replicate cols 0)))) := hid (by have := HF.out; rw [show k = rows by omega] at this; unfold half at this; rw [Nat.sub_self, List.replicate_zero, List.append_nil] at this; exact this)
      go_wp2
      go_ret
      exact ⟨m, R, vs, rfl, HVL.out, HE.out⟩
end Go.Proofs.Ytkklonldplekcaa
