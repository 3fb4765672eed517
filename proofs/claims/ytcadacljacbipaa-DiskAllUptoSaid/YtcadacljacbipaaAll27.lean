/- Rows of ints of the law's own; the pair row behind a region's append. -/
import Derived.Test.YtcadacljacbipaaAll25
namespace Go.Proofs.Ytcadacljacbipaa
open Go.RowKit
def OwnZ (w : World) (base : Nat) (v : Value) (l : List Int) : Prop := w.ownsRow base 3 1 v l.length (l.map (Value.int .i64))
theorem infoZ : (Try.prog.info? 3).map (fun i => (i.zero, i.size, i.bytes)) = some (some (.int .i64 0), 1, 8) := by kernel_rfl
theorem map_rangeZ (l : List Int) : l.map (Value.int .i64) = (List.range l.length).map fun i => Value.int .i64 (l.getD i 0) := by
  apply List.ext_getElem
  · simp
  · intro i h1 h2
    simp at h1
    simp [h1]
theorem OwnZ.nil (w : World) (base : Nat) : OwnZ w base (.slice none 0 0) [] := World.ownsRow_nil _ _ _ _
theorem OwnZ.alloc {w : World} {base : Nat} {v : Value} {l : List Int} (h : OwnZ w base v l) (o : Obj) : OwnZ (w.alloc o) base v l := World.ownsRow.alloc h o
theorem OwnZ.grown {B base : Nat} {w0 w w' : World} {v : Value} {l : List Int} (h : Below B w0 w) (ho : OwnZ w base v l) (hB : B ≤ base) (hs : B ≤ w.heap.size) (hg : w.grownBy w' v.ownBlock) : Below B w0 w' :=
  h.grown hg hs fun k hk => Nat.le_trans hB (World.ownsRow.lt ho k hk).1
theorem wpList_appZ {w : World} {ops : Array Oper} {rest : List Oper} {o : Oper} {a : Act} {Q : Exit → Act → World → Prop} (hgd : o.guard = none) (s x : Operand)
    (ho : o.op = .call { callee := .builtin .append, args := #[s, x], argTypes := #[24, 24] })
    (base : Nat) (v u : Value) (l k : List Int) (hs : a.eval s = v) (hx : a.eval x = u) (hown : OwnZ w base v l) (hu : SlZ w u k) (hlen : l.length + k.length ≤ 1099511627776) (hbase : base ≤ w.heap.size)
    (h : ∀ v' w', OwnZ w' base v' (l ++ k) → w.grownBy w' v.ownBlock → wpList Try.prog ops Q rest (a.put o.dst v') w') : wpList Try.prog ops Q (o :: rest) a w :=
  wpList_app hgd s x ho Try.underlying24 infoZ rfl base v u l.length k.length (l.map (Value.int .i64)) _ hs hx hown hu.sl (fun _ _ => rfl) (by omega) (by unfold maxLen; omega) hbase
    fun v' w' g1 g2 => h v' w' (by unfold OwnZ; rw [List.length_append, List.map_append]; rw [← map_rangeZ] at g1; exact g1) g2
theorem OwnZ.some_ {w : World} {base : Nat} {v : Value} {l : List Int} (h : OwnZ w base v l) (hl : 0 < l.length) : ∃ g cap, v = .slice (some ⟨g, 0, none⟩) l.length cap ∧ l.length ≤ cap := by
  obtain ⟨_, ⟨_, h0⟩ | ⟨g, cap, cur, rfl, hg, _, hn, hm, _⟩⟩ := h
  · omega
  · exact ⟨g, cap, rfl, hn⟩
/-- a row's beginning, as it is read -/
theorem own_zpre {w : World} {base g n m cap k : Nat} {l : List Int} (h : w.ownsRow base 3 1 (.slice (some ⟨g, 0, none⟩) n cap) m (l.map (Value.int .i64))) (hnm : n = m) (hk : k ≤ l.length) (hc : k ≤ cap) (hr : ∀ x ∈ l.take k, -9223372036854775808 ≤ x ∧ x ≤ 9223372036854775807) : SlZ w (.slice (some ⟨g, 0, none⟩) k cap) (l.take k) := by
  subst hnm
  have hl : (l.take k).length = k := by rw [List.length_take]; omega
  have hlen := h.1
  rw [List.length_map] at hlen
  refine ⟨⟨_, cap, by rw [hl], by rw [hl]; exact hc, (fun h => by cases h), fun _ => ⟨g, 0, rfl, fun i hi => ?_⟩⟩, hr⟩
  have hi2 : i < k := by omega
  rw [Nat.zero_add, World.ownsRow.cellAt h i (by omega), List.getElem?_map]
  show _ = some (Value.int .i64 ((l.take k).getD i 0))
  rw [List.getD_eq_getElem?_getD, List.getElem?_take_of_lt hi2, List.getElem?_eq_getElem (show i < l.length by omega)]
  rfl
theorem own_zat {w : World} {base g n m cap : Nat} {l : List Int} (h : w.ownsRow base 3 1 (.slice (some ⟨g, 0, none⟩) n cap) m (l.map (Value.int .i64))) (hnm : n = m) (i : Nat) (hi : i < l.length) : w.cell? ⟨g, i, none⟩ = some (.int .i64 (l.getD i 0)) ∧ w.frozen? ⟨g, i, none⟩ = false := by
  subst hnm
  have hlen := h.1
  rw [List.length_map] at hlen
  refine ⟨?_, World.ownsRow.frozenAt h i⟩
  rw [World.ownsRow.cellAt h i (by omega), List.getElem?_map, List.getD_eq_getElem?_getD, List.getElem?_eq_getElem hi]
  rfl
theorem Fam.ownAtL {B : Nat} {w0 w : World} {ts L : List Thing} {e : TypeId} {s n : Nat} {v : Value} {xs : List Value} (h : Fam B w0 w (ts ++ L)) (k : Nat) (hk : L[k]? = some (ownT e s v n xs)) : w.ownsRow 0 e s v n xs :=
  (h.own (i := ts.length + k) (by rw [get_at]; exact hk)).1
/-- a cell of a row is turned -/
theorem Fam.ownSetL {B : Nat} {w0 w : World} {ts L : List Thing} {e : TypeId} {s n g c : Nat} {xs : List Value} (h : Fam B w0 w (ts ++ L)) (k : Nat) (hk : L[k]? = some (ownT e s (.slice (some ⟨g, 0, none⟩) n c) n xs)) (i : Nat) (u : Value) : Fam B w0 (w.setCell ⟨g, i, none⟩ u) (ts ++ L.set k (ownT e s (.slice (some ⟨g, 0, none⟩) n c) n (xs.set i u))) := by
  obtain ⟨S, hS, _, kk⟩ := h.call (i := ts.length + k) (by rw [get_at]; exact hk)
  have := kk (ownT e s (.slice (some ⟨g, 0, none⟩) n c) n (xs.set i u)) _ ⟨(hS.1.stored i u).1, fun j hj => .inl (hS.2 j hj)⟩ ((Fr.set_ (g := g) i u).mono fun j _ e => hS.2 j (by rw [e]; rfl))
  rw [set_at] at this
  exact this
/-- the same at a step of a region that draws its order -/
theorem step_appPr {w : World} {ops : Array Oper} {o : Oper} {a : Act} {K : Act → World → Prop} {Q : Exit → Act → World → Prop} {E : Prop} (hgd : o.guard = none) (s x : Operand)
    (ho : o.op = .call { callee := .builtin .append, args := #[s, x], argTypes := #[60, 60] })
    (v : Value) (ps : List Pr) (pr : Pr) (b : Nat) (t : TypeId) (hs : a.eval s = v) (hx : a.eval x = .slice (some ⟨b, 0, none⟩) 1 1) (hown : w.ownsRow 0 59 2 v ps.length (pairCells ps))
    (hb : w.heap[b]? = some (.cells #[.pointer (some ⟨pr.p, 0, none⟩), .pointer (some ⟨pr.r, 0, none⟩)] t (0, 0))) (hl : ps.length ≤ 1099511627776)
    (h : ∀ g cap w', w'.ownsRow 0 59 2 (.slice (some ⟨g, 0, none⟩) (ps.length + 1) cap) (ps.length + 1) (pairCells (ps ++ [pr])) → w.grownBy w' v.ownBlock → (∀ k, (Value.slice (some ⟨g, 0, none⟩) (ps.length + 1) cap).ownBlock = some k → v.ownBlock = some k ∨ w.heap.size ≤ k) → K (a.put o.dst (.slice (some ⟨g, 0, none⟩) (ps.length + 1) cap)) w') :
    if Region.wanted o (yielded ops a.tmps) = true then Oper.wp Try.prog o a w K Q else E := by
  obtain ⟨i, hi, hz0, hz1, hz2⟩ := info_parts infoPr
  refine step_append_lies w hgd s x 60 ho 0 59 i _ 2 16 Try.underlying60 hi hz0 hz1 hz2 rfl (by omega) v ps.length (pairCells ps) hs hown ⟨b, 0, none⟩ 1 1 [.pointer (some ⟨pr.p, 0, none⟩), .pointer (some ⟨pr.r, 0, none⟩)] hx rfl (World.news_of_block (cs := #[.pointer (some ⟨pr.p, 0, none⟩), .pointer (some ⟨pr.r, 0, none⟩)]) (t := t) (fr := (0, 0)) hb) (by simp [Value.oneCell']) (by omega) (by unfold maxLen; omega) (by omega) (Nat.zero_le _) w.heap.size rfl ?_
  intro g cap w' hown' hg hat _
  refine h g cap w' (by rw [pairCells_snoc]; exact hown') hg fun k hk => ?_
  simp only [Value.ownBlock, Option.some.injEq] at hk
  subst hk
  exact hat.imp id (fun e => by omega)
end Go.Proofs.Ytcadacljacbipaa
