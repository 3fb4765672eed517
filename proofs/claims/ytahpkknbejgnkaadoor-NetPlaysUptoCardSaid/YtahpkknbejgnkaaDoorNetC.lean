/- The builtin copy of elements of any number of cells. -/
import Derived.Test.YtahpkknbejgnkaaDoorNetU
import Derived.Laws.CopyRow
namespace Go.Proofs.YtahpkknbejgnkaaDoor
open Go.RowKit
theorem run_copy_any (w : World) (dT sT ty elem : TypeId) (size : Nat) (g o dLen dCap : Nat) (a : Addr) (sLen sCap n : Nat) (cur : Array Value) (t : TypeId) (cs : List Value)
    (hu : Tryd.prog.underlying dT = some (.slice elem)) (hs : (Tryd.prog.info? elem).map (·.size) = some size)
    (hg : w.heap[g]? = some (.cells cur t (0, 0))) (hn : n = Nat.min sLen dLen) (hc : cs.length = n * size)
    (hsrc : ∀ j v, cs[j]? = some v → w.cell? (a.add j) = some v) (hfit : o + cs.length ≤ cur.size) (h1 : ∀ v ∈ cs, v.oneCell' = true) :
    (Builtin.copy_ #[dT, sT] ty #[.slice (some ⟨g, o, none⟩) dLen dCap, .slice (some a) sLen sCap]).run Tryd.prog w =
      .ok (goInt n) (w.setRow g (cur.toList.take o ++ cs ++ cur.toList.drop (o + cs.length)).toArray) := by
  have hl := run_loadCells_list (P := Tryd.prog) w a cs hsrc
  have hst := run_storeCells_at Tryd.prog g o t cs 0 cur w hg (by simpa using hfit) h1
  rw [hc] at hl
  cases hq : Tryd.prog.info? elem with
  | none => simp [hq] at hs
  | some i =>
    have hi : i.size = size := by simpa [hq] using hs
    simp [Builtin.copy_, run_underlying hu, Builtin.lenOf, Builtin.firstCells, sizeOf, typeInfo, hq, hi, ← hn, hl, hst]
theorem pktCells_take : ∀ (vs : List Value) (P : List Pkt) (i : Nat), vs.length = P.length → pktCells (vs.take i) (P.take i) = (pktCells vs P).take (i * 6)
  | [], [], i, _ => by simp [pktCells]
  | v :: vs, p :: P, 0, _ => by simp [pktCells]
  | v :: vs, p :: P, i + 1, h => by
    have hl : (p.cells v).length = 6 := rfl
    rw [List.take_succ_cons, List.take_succ_cons, pktCells, pktCells, pktCells_take vs P i (by simpa using h), show (i + 1) * 6 = (p.cells v).length + i * 6 by rw [hl]; omega, List.take_length_add_append]
theorem pktCells_drop : ∀ (vs : List Value) (P : List Pkt) (i : Nat), vs.length = P.length → pktCells (vs.drop i) (P.drop i) = (pktCells vs P).drop (i * 6)
  | [], [], i, _ => by simp [pktCells]
  | v :: vs, p :: P, 0, _ => by simp
  | v :: vs, p :: P, i + 1, h => by
    have hl : (p.cells v).length = 6 := rfl
    rw [List.drop_succ_cons, List.drop_succ_cons, pktCells, pktCells_drop vs P i (by simpa using h), show (i + 1) * 6 = (p.cells v).length + i * 6 by rw [hl]; omega, List.drop_length_add_append]
/-- the cells of those that are left -/
theorem pktCells_erase (vs : List Value) (P : List Pkt) (i : Nat) (h : vs.length = P.length) : pktCells (vs.eraseIdx i) (P.eraseIdx i) = (pktCells vs P).take (i * 6) ++ (pktCells vs P).drop ((i + 1) * 6) := by
  rw [List.eraseIdx_eq_take_drop_succ, List.eraseIdx_eq_take_drop_succ, pktCells_append _ _ _ _ (by simp [h]), pktCells_take _ _ _ h, pktCells_drop _ _ _ h]
theorem cells_one (p : Pkt) (v : Value) (hv : v.oneCell' = true) : ∀ u ∈ p.cells v, u.oneCell' = true := by
  intro u hu
  simp only [Pkt.cells, List.mem_cons, List.not_mem_nil, or_false] at hu
  rcases hu with rfl | rfl | rfl | rfl | rfl | rfl <;> first | rfl | exact hv
theorem row_whole {w : World} {base e s g n : Nat} {xs : List Value} (h : w.ownsRow base e s (.slice (some ⟨g, 0, none⟩) n n) n xs) : w.heap[g]? = some (.cells xs.toArray e (0, 0)) ∧ xs.length = n * s := by
  obtain ⟨hl, ⟨h, _⟩ | ⟨g', cap, cur, h, hb, hg, h1, h2, h3, h4⟩⟩ := h
  · cases h
  · injection h with e1 e2 e3
    injection e1 with e1
    injection e1 with e1
    subst e1 e3
    refine ⟨?_, hl⟩
    rw [hg, ← h4, List.take_of_length_le (by simp [h3])]
theorem make_pkts (w : World) (n : Nat) (hn : n ≤ 1099511627776) : ∃ (w' : World) (xs : List Value), (Instr.makeSlice 25 (.int .i64 (n : Int)) (.int .i64 (n : Int))).run Tryd.prog w = .ok (.slice (some ⟨w.heap.size, 0, none⟩) n n) w' ∧
    w'.heap[w.heap.size]? = some (.cells xs.toArray 32 (0, 0)) ∧ xs.length = n * 6 ∧ Below w.heap.size w w' := by
  obtain ⟨i, hi, hz0, hz1, hz2⟩ := info_parts infoK
  obtain ⟨w', h1, h2, h3⟩ := run_make_full (P := Tryd.prog) w w.heap.size 25 32 i _ 6 Tryd.underlying25 hi hz0 hz1 .i64 .i64 n (by rw [hz2]; omega) (by unfold maxLen; omega) (Nat.le_refl _)
  obtain ⟨h4, h5⟩ := row_whole h2
  exact ⟨w', _, h1, h4, h5, (Below.refl _ _).grown h3 (Nat.le_refl _) (fun k hk => by cases hk)⟩
end Go.Proofs.YtahpkknbejgnkaaDoor
