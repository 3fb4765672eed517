/- Words of this session: what a slice reads as; facts hidden from the walk. -/
import Derived.WalkKit
import Derived.WalkSpells
import Derived.WalkLawsBesides
import Derived.Deep.QuietTactic
import Derived.BigQuiet
import Derived.Deep.DeepCutAuto
import Derived.Deep.CutBlock
import Derived.Test.YtcadacljacbipaaRows
import Derived.Laws.AppendOwnNone
import Derived.Deep.RegionLaw
import Derived.Laws.OwnMore
namespace Go.Proofs.Ytcadacljacbipaa
open Go.RowKit

theorem hid {p : Prop} (h : p) : Hid p := h
theorem int_of {k : IntKind} {a b : Int} (h : a = b) : Value.int k a = Value.int k b := by rw [h]

theorem blk_lt {w : World} {g : Nat} {o : Obj} (h : w.heap[g]? = some o) : g < w.heap.size := (Array.getElem?_eq_some_iff.1 h).1
theorem blk_cell {w : World} {g : Nat} {t : TypeId} {cs : Array Value} (h : w.heap[g]? = some (.cells cs t (0, 0))) (i : Nat) : w.cell? ⟨g, i, none⟩ = cs[i]? := cell_of_row w g i cs t (0, 0) h
theorem blk_frozen {w : World} {g : Nat} {t : TypeId} {cs : Array Value} (h : w.heap[g]? = some (.cells cs t (0, 0))) (i : Nat) : w.frozen? ⟨g, i, none⟩ = false := frozen_of_row w g i cs t h
theorem blk_set {w : World} {g : Nat} {t : TypeId} {cs : Array Value} (h : w.heap[g]? = some (.cells cs t (0, 0))) (i : Nat) (v : Value) : (w.setCell ⟨g, i, none⟩ v).heap[g]? = some (.cells (cs.setIfInBounds i v) t (0, 0)) := heap_setCell_same w g i cs t v h
theorem blk_keep {B : Nat} {w w' : World} (hb : Below B w w') {g : Nat} {o : Obj} (h : w.heap[g]? = some o) (hg : g < B) : w'.heap[g]? = some o := (hb.block g hg).trans h
theorem below_alloc {B : Nat} {w w1 : World} (h : Below B w w1) (hB : B ≤ w1.heap.size) (o : Obj) : Below B w (w1.alloc o) := h.alloc hB o
theorem below_set {B : Nat} {w w1 : World} (h : Below B w w1) {g : Nat} (hg : B ≤ g) (i : Nat) (v : Value) : Below B w (w1.setCell ⟨g, i, none⟩ v) := h.setCell hg v
theorem below_row {B g : Nat} {w0 w : World} (hb : Below B w0 w) (hBg : B ≤ g) (cs : Array Value) : Below B w0 (w.setRow g cs) :=
  hb.trans ⟨rfl, rfl, rfl, by simp, fun k hk => setRow_other _ _ _ _ (by omega)⟩
theorem below_then {w w1 w2 : World} (h : Below w.heap.size w w1) (k : Below w1.heap.size w1 w2) : Below w.heap.size w w2 := h.trans (k.mono h.size)
theorem below_drewN {B : Nat} {w w1 : World} (h : Below B w w1) (n : Nat) : Below B w (w1.drewN n) := ⟨h.os, h.tape, h.output, h.size, h.block⟩
theorem Calls.seen {P : Program} {f : FuncId} {args : Array Value} {w : World} {R : Ending → World → Prop} (Φ : World → Prop) (h : Φ w) (k : ∀ w1, Hid (Φ w1) → Calls P f args w1 R) : Calls P f args w R := k w h
theorem Code.seen {P : Program} {c : Code} {Q : Exit → Act → World → Prop} {a : Act} {w : World} (Φ : World → Prop) (h : Φ w) (k : ∀ w1, Hid (Φ w1) → c.wp P Q a w1) : c.wp P Q a w := k w h
/-- n one-cell elements -/
def arr (n : Nat) (f : Nat → Value) : Array Value := ((List.range n).map f).toArray
theorem arr_size (n : Nat) (f : Nat → Value) : (arr n f).size = n := by simp [arr]
theorem arr_get (n : Nat) (f : Nat → Value) (i : Nat) (h : i < n) : (arr n f)[i]? = some (f i) := by simp [arr, h]
theorem arr_one (n : Nat) (f : Nat → Value) (h : ∀ i, (f i).oneCell' = true) : (arr n f).all (·.oneCell') = true := by
  simp [arr, h]
theorem arr_congr {n : Nat} {f f' : Nat → Value} (h : ∀ i, i < n → f i = f' i) : arr n f = arr n f' := by
  unfold arr; congr 1; exact List.map_congr_left fun i hi => h i (List.mem_range.1 hi)
theorem arr_set (n : Nat) (f : Nat → Value) (i : Nat) (v : Value) : (arr n f).setIfInBounds i v = arr n (fun j => if j = i then v else f j) := by
  apply Array.ext
  · simp [arr]
  · intro j h1 h2
    simp [arr] at *
    by_cases h : j = i
    · subst h; simp
    · simp [h, Ne.symm h]

/-- a slice of n one-cell elements; cell i holds f i -/
def Sl (w : World) (v : Value) (n : Nat) (f : Nat → Value) : Prop :=
  ∃ A c, v = .slice A n c ∧ n ≤ c ∧ (A = none → c = 0) ∧ (0 < n → ∃ b off, A = some ⟨b, off, none⟩ ∧ ∀ i, i < n → w.cell? ⟨b, off + i, none⟩ = some (f i))

theorem Sl.below {w w1 : World} {v : Value} {n : Nat} {f : Nat → Value} (h : Sl w v n f) (hb : Below w.heap.size w w1) : Sl w1 v n f := by
  obtain ⟨A, c, hv, hc, hn, hA⟩ := h
  refine ⟨A, c, hv, hc, hn, fun hn => ?_⟩
  obtain ⟨b, off, e, h⟩ := hA hn
  exact ⟨b, off, e, fun i hi => (hb.cell (World.block_lt_of_cell? w _ (h i hi))).trans (h i hi)⟩
theorem Sl.congr {w : World} {v : Value} {n : Nat} {f g : Nat → Value} (h : Sl w v n f) (hfg : ∀ i, i < n → f i = g i) : Sl w v n g := by
  obtain ⟨A, c, hv, hc, hn, hA⟩ := h
  refine ⟨A, c, hv, hc, hn, fun hn => ?_⟩
  obtain ⟨b, off, e, h⟩ := hA hn
  exact ⟨b, off, e, fun i hi => by rw [h i hi, hfg i hi]⟩
theorem Sl.nil (w : World) (f : Nat → Value) : Sl w (.slice none 0 0) 0 f := ⟨none, 0, rfl, Nat.le_refl _, fun _ => rfl, fun h => absurd h (by omega)⟩

abbrev B (b : UInt8) : Value := .int .u8 (b.toNat : Int)
abbrev W32 (x : BitVec 32) : Value := .int .u32 (x.toNat : Int)
abbrev I64 (n : Int) : Value := .int .i64 n

def SlB (w : World) (v : Value) (l : List UInt8) : Prop := Sl w v l.length fun i => B (l.getD i 0)
def SlBB (w : World) (v : Value) (ll : List (List UInt8)) : Prop := ∃ f, Sl w v ll.length f ∧ ∀ i, i < ll.length → SlB w (f i) (ll.getD i [])
theorem SlB.below {w w1 : World} {v : Value} {l : List UInt8} (h : SlB w v l) (hb : Below w.heap.size w w1) : SlB w1 v l := Sl.below h hb
theorem SlBB.below {w w1 : World} {v : Value} {ll : List (List UInt8)} (h : SlBB w v ll) (hb : Below w.heap.size w w1) : SlBB w1 v ll := by
  obtain ⟨f, h1, h2⟩ := h
  exact ⟨f, h1.below hb, fun i hi => (h2 i hi).below hb⟩

theorem SlB.drewN {w : World} {v : Value} {l : List UInt8} (h : SlB w v l) (n : Nat) : SlB (w.drewN n) v l := h.below (below_drewN (Below.refl _ _) n)
theorem SlB.drew {w : World} {v : Value} {l : List UInt8} (h : SlB w v l) : SlB w.drew v l := h.below ((Below.refl _ _).drew)
theorem SlB.alloc {w : World} {v : Value} {l : List UInt8} (h : SlB w v l) (o : Obj) : SlB (w.alloc o) v l := h.below ((Below.refl _ _).alloc (Nat.le_refl _) o)
theorem SlBB.drew {w : World} {v : Value} {l : List (List UInt8)} (h : SlBB w v l) : SlBB w.drew v l := h.below ((Below.refl _ _).drew)
theorem SlB.cells {w : World} {A : Option Addr} {n c : Nat} {l : List UInt8} (h : SlB w (.slice A n c) l) (hl : 0 < l.length) : ∃ b off, A = some ⟨b, off, none⟩ ∧ ∀ i, i < l.length → w.cell? ⟨b, off + i, none⟩ = some (B (l.getD i 0)) := by
  obtain ⟨A', c', e, _, _, hA⟩ := h
  injection e with e1 e2 e3
  subst e1
  exact hA hl
end Go.Proofs.Ytcadacljacbipaa

/- Slices of bytes that a call owns: append, reading, writing, turning into a string. -/
namespace Go.Proofs.Ytcadacljacbipaa
open Go.RowKit

/-- a slice of bytes in a block of the call's own -/
def OwnB (w : World) (base : Nat) (v : Value) (l : List UInt8) : Prop := w.ownsRow base 5 1 v l.length (l.map B)
theorem infoB : (Try.prog.info? 5).map (fun i => (i.zero, i.size, i.bytes)) = some (some (.int .u8 0), 1, 1) := by kernel_rfl
/-- owned cells read -/
theorem own_sl {w : World} {base e n : Nat} {v : Value} {f : Nat → Value} (h : w.ownsRow base e 1 v n ((List.range n).map f)) : Sl w v n f := by
  obtain ⟨_, ⟨rfl, rfl⟩ | ⟨g, cap, cur, rfl, hb, hg, hn, hm, hs, hc⟩⟩ := h
  · exact Sl.nil _ _
  · refine ⟨_, cap, rfl, hn, (fun h => by cases h), fun _ => ⟨g, 0, rfl, fun i hi => ?_⟩⟩
    rw [Nat.zero_add, blk_cell hg, ← Array.getElem?_toList]
    have : (cur.toList.take (n * 1))[i]? = some (f i) := by rw [hc]; simp [hi]
    rw [List.getElem?_take_of_lt (by omega)] at this
    exact this
theorem map_range (l : List UInt8) : l.map B = (List.range l.length).map fun i => B (l.getD i 0) := by
  apply List.ext_getElem
  · simp
  · intro i h1 h2
    simp at h1
    simp [h1]
theorem OwnB.sl {w : World} {base : Nat} {v : Value} {l : List UInt8} (h : OwnB w base v l) : SlB w v l := by
  unfold OwnB at h
  rw [map_range] at h
  exact own_sl h
theorem OwnB.nil (w : World) (base : Nat) : OwnB w base (.slice none 0 0) [] := World.ownsRow_nil _ _ _ _
theorem OwnB.alloc {w : World} {base : Nat} {v : Value} {l : List UInt8} (h : OwnB w base v l) (o : Obj) : OwnB (w.alloc o) base v l := World.ownsRow.alloc h o
theorem own_block {w w1 : World} {base e s n : Nat} {v : Value} {xs : List Value} (h : w.ownsRow base e s v n xs) (hm : ∀ k, v.ownBlock = some k → w1.heap[k]? = w.heap[k]?) : w1.ownsRow base e s v n xs := by
  obtain ⟨h1, h2⟩ := h
  refine ⟨h1, ?_⟩
  rcases h2 with h2 | ⟨g, cap, cur, rfl, hb, hg, r⟩
  · exact Or.inl h2
  · exact Or.inr ⟨g, cap, cur, rfl, hb, (hm g rfl).trans hg, r⟩
theorem OwnB.below {w w1 : World} {base : Nat} {v : Value} {l : List UInt8} (h : OwnB w base v l) (hb : Below w.heap.size w w1) : OwnB w1 base v l :=
  own_block h fun k hk => hb.block k (World.ownsRow.lt h k hk).2
theorem OwnB.drew {w : World} {base : Nat} {v : Value} {l : List UInt8} (h : OwnB w base v l) : OwnB w.drew base v l := h.below ⟨rfl, rfl, rfl, Nat.le_refl _, fun _ _ => rfl⟩
theorem own_base {w : World} {base base' e s n : Nat} {v : Value} {xs : List Value} (h : w.ownsRow base e s v n xs) (hb : base' ≤ base) : w.ownsRow base' e s v n xs := by
  obtain ⟨h1, h2 | ⟨g, cap, cur, hv, hg, r⟩⟩ := h
  · exact ⟨h1, .inl h2⟩
  · exact ⟨h1, .inr ⟨g, cap, cur, hv, Nat.le_trans hb hg, r⟩⟩

/-- one-cell elements put behind an owned row: from any slice -/
theorem wpList_app {w : World} {ops : Array Oper} {rest : List Oper} {o : Oper} {a : Act} {Q : Exit → Act → World → Prop} {e t : TypeId} {z : Value} {bytes : Nat} (hgd : o.guard = none) (s x : Operand)
    (ho : o.op = .call { callee := .builtin .append, args := #[s, x], argTypes := #[t, t] })
    (ht : Try.prog.underlying t = some (.slice e)) (hinfo : (Try.prog.info? e).map (fun i => (i.zero, i.size, i.bytes)) = some (some z, 1, bytes)) (hz : z.cells.size = 1)
    (base : Nat) (v u : Value) (n m : Nat) (xs : List Value) (f : Nat → Value) (hs : a.eval s = v) (hx : a.eval x = u) (hown : w.ownsRow base e 1 v n xs) (hu : Sl w u m f) (h1 : ∀ i, i < m → (f i).oneCell' = true)
    (hbytes : (n + m) * bytes ≤ 140737488355328) (hlen : n + m ≤ maxLen) (hbase : base ≤ w.heap.size)
    (h : ∀ v' w', w'.ownsRow base e 1 v' (n + m) (xs ++ (List.range m).map f) → w.grownBy w' v.ownBlock → wpList Try.prog ops Q rest (a.put o.dst v') w') : wpList Try.prog ops Q (o :: rest) a w := by
  obtain ⟨i, hi, hz0, hz1, hz2⟩ := info_parts hinfo
  obtain ⟨A, c, rfl, hc, hnil, hA⟩ := hu
  cases A with
  | none =>
    have hc0 := hnil rfl
    obtain rfl : m = 0 := by omega
    subst hc0
    refine wpList_append_own_none hgd s x t ho base e i 1 ht hi v n xs hs hown hx (h v w ?_ ⟨rfl, rfl, rfl, Nat.le_refl _, fun _ _ _ => rfl⟩)
    simpa using hown
  | some ad =>
    refine wpList_append_own w hgd s x t ho base e i z 1 bytes ht hi hz0 hz1 hz2 hz (by decide) v n xs hs hown ad m c ((List.range m).map f) hx (by simp) (fun j u hj => ?_) (fun u hu => ?_) hlen hbytes hbase (fun v' w' g1 g2 _ => h v' w' g1 g2)
    · have hj' : j < m := by
        rcases Nat.lt_or_ge j m with h | h
        · exact h
        · rw [List.getElem?_eq_none (by simpa using h)] at hj; cases hj
      obtain ⟨b, off, e1, hcell⟩ := hA (by omega)
      injection e1 with e1
      subst e1
      have := hcell j hj'
      have e2 : (⟨b, off, none⟩ : Addr).add j = ⟨b, off + j, none⟩ := by
        unfold Addr.add; split <;> simp_all
      rw [e2, this]
      simp [hj'] at hj
      rw [hj]
    · obtain ⟨j, hj, rfl⟩ := List.mem_map.1 hu
      exact h1 j (List.mem_range.1 hj)
theorem wpList_appB {w : World} {ops : Array Oper} {rest : List Oper} {o : Oper} {a : Act} {Q : Exit → Act → World → Prop} (hgd : o.guard = none) (s x : Operand)
    (ho : o.op = .call { callee := .builtin .append, args := #[s, x], argTypes := #[22, 22] })
    (base : Nat) (v u : Value) (l k : List UInt8) (hs : a.eval s = v) (hx : a.eval x = u) (hown : OwnB w base v l) (hu : SlB w u k) (hlen : l.length + k.length ≤ 140737488355328) (hbase : base ≤ w.heap.size)
    (h : ∀ v' w', OwnB w' base v' (l ++ k) → w.grownBy w' v.ownBlock → wpList Try.prog ops Q rest (a.put o.dst v') w') : wpList Try.prog ops Q (o :: rest) a w :=
  wpList_app hgd s x ho Try.underlying22 infoB rfl base v u l.length k.length (l.map B) _ hs hx hown hu (fun _ _ => rfl) (by omega) (by unfold maxLen; omega) hbase
    fun v' w' g1 g2 => h v' w' (by unfold OwnB; rw [List.length_append, List.map_append]; rw [← map_range] at g1; exact g1) g2
/-- the same at a step of a region that draws its order: for 'go_region_law (refine step_app ..)' -/
theorem step_app {w : World} {ops : Array Oper} {o : Oper} {a : Act} {K : Act → World → Prop} {Q : Exit → Act → World → Prop} {E : Prop} {e t : TypeId} {z : Value} {bytes : Nat} (hgd : o.guard = none) (s x : Operand)
    (ho : o.op = .call { callee := .builtin .append, args := #[s, x], argTypes := #[t, t] })
    (ht : Try.prog.underlying t = some (.slice e)) (hinfo : (Try.prog.info? e).map (fun i => (i.zero, i.size, i.bytes)) = some (some z, 1, bytes)) (hz : z.cells.size = 1)
    (base : Nat) (v u : Value) (n m : Nat) (xs : List Value) (f : Nat → Value) (hs : a.eval s = v) (hx : a.eval x = u) (hown : w.ownsRow base e 1 v n xs) (hu : Sl w u m f) (h1 : ∀ i, i < m → (f i).oneCell' = true)
    (hbytes : (n + m) * bytes ≤ 140737488355328) (hlen : n + m ≤ maxLen) (hbase : base ≤ w.heap.size)
    (h : ∀ v' w', w'.ownsRow base e 1 v' (n + m) (xs ++ (List.range m).map f) → w.grownBy w' v.ownBlock → K (a.put o.dst v') w') :
    if Region.wanted o (yielded ops a.tmps) = true then Oper.wp Try.prog o a w K Q else E := by
  have hw : Region.wanted o (yielded ops a.tmps) = true := by simp [Region.wanted, hgd]
  rw [if_pos hw]
  obtain ⟨i, hi, hz0, hz1, hz2⟩ := info_parts hinfo
  obtain ⟨A, c, rfl, hc, hnil, hA⟩ := hu
  cases A with
  | none =>
    have hc0 := hnil rfl
    obtain rfl : m = 0 := by omega
    subst hc0
    have hrun := run_append_owned_none (P := Try.prog) (w := w) base t o.type e i 1 ht hi v n xs hown
    unfold Oper.wp
    simp [execOp, ho, resolve, invoke, builtin, hs, hx, hrun, Result.andThen]
    exact h v w (by simpa using hown) ⟨rfl, rfl, rfl, Nat.le_refl _, fun _ _ _ => rfl⟩
  | some ad =>
    obtain ⟨v', w', hrun, r1, r2, _⟩ := run_append_own (P := Try.prog) w base t o.type e i z 1 bytes ht hi hz0 hz1 hz2 hz (by decide) v n xs hown ad m c ((List.range m).map f) (by simp) (fun j u hj => by
      have hj' : j < m := by
        rcases Nat.lt_or_ge j m with h | h
        · exact h
        · rw [List.getElem?_eq_none (by simpa using h)] at hj; cases hj
      obtain ⟨b, off, e1, hcell⟩ := hA (by omega)
      injection e1 with e1
      subst e1
      have := hcell j hj'
      have e2 : (⟨b, off, none⟩ : Addr).add j = ⟨b, off + j, none⟩ := by
        unfold Addr.add; split <;> simp_all
      rw [e2, this]
      simp [hj'] at hj
      rw [hj]) (fun u hu => by
      obtain ⟨j, hj, rfl⟩ := List.mem_map.1 hu
      exact h1 j (List.mem_range.1 hj)) hlen hbytes hbase
    unfold Oper.wp
    simp [execOp, ho, resolve, invoke, builtin, hs, hx, hrun, Result.andThen]
    exact h v' w' r1 r2
theorem step_appB {w : World} {ops : Array Oper} {o : Oper} {a : Act} {K : Act → World → Prop} {Q : Exit → Act → World → Prop} {E : Prop} (hgd : o.guard = none) (s x : Operand)
    (ho : o.op = .call { callee := .builtin .append, args := #[s, x], argTypes := #[22, 22] })
    (base : Nat) (v u : Value) (l k : List UInt8) (hs : a.eval s = v) (hx : a.eval x = u) (hown : OwnB w base v l) (hu : SlB w u k) (hlen : l.length + k.length ≤ 140737488355328) (hbase : base ≤ w.heap.size)
    (h : ∀ v' w', OwnB w' base v' (l ++ k) → w.grownBy w' v.ownBlock → K (a.put o.dst v') w') : if Region.wanted o (yielded ops a.tmps) = true then Oper.wp Try.prog o a w K Q else E :=
  step_app hgd s x ho Try.underlying22 infoB rfl base v u l.length k.length (l.map B) _ hs hx hown hu (fun _ _ => rfl) (by omega) (by unfold maxLen; omega) hbase
    fun v' w' g1 g2 => h v' w' (by unfold OwnB; rw [List.length_append, List.map_append]; rw [← map_range] at g1; exact g1) g2
/-- a literal of bytes, in a block of its own -/
theorem litB (w : World) (l : List UInt8) : OwnB (w.alloc (.cells (l.map B).toArray 5)) w.heap.size (.slice (some ⟨w.heap.size, 0, none⟩) l.length l.length) l ∨ l.length > maxLen := by
  rcases Nat.lt_or_ge maxLen l.length with h | h
  · exact .inr h
  · refine .inl ⟨by simp, .inr ⟨w.heap.size, l.length, (l.map B).toArray, rfl, Nat.le_refl _, heap_alloc_new _ _, Nat.le_refl _, h, by simp, by simp [List.take_of_length_le]⟩⟩

theorem lit0 (w : World) : OwnB (w.alloc (.cells #[] 5)) w.heap.size (.slice (some ⟨w.heap.size, 0, none⟩) 0 0) [] := by
  rcases litB w [] with h | h
  · exact h
  · exact absurd h (by simp)
/-- bytes as a string -/
def str (l : List UInt8) : ByteArray := ⟨l.toArray⟩
theorem conv_str {w : World} {v : Value} {l : List UInt8} (h : SlB w v l) : (convert 22 9 v).run Try.prog w = .ok (.string (str l)) w := by
  obtain ⟨A, c, rfl, hc, hnil, hA⟩ := h
  cases A with
  | none =>
    have := hnil rfl
    have hl : l = [] := List.length_eq_zero_iff.1 (by omega)
    subst hl
    exact run_convert_bytes_nil w 22 5 Try.underlying22 Try.underlying5 _ _ _ Try.underlying9
  | some ad =>
    rcases Nat.eq_zero_or_pos l.length with h0 | h0
    · have hl : l = [] := List.length_eq_zero_iff.1 h0
      subst hl
      have := run_bytesToString (P := Try.prog) w ad 0 c [] (by simp [loadCells]; rfl)
      rw [run_convert_bytes_string w _ _ 5 _ _ _ Try.underlying22 Try.underlying5 Try.underlying9]
      exact this
    · obtain ⟨b, off, e1, hcell⟩ := hA h0
      injection e1 with e1
      subst e1
      have := run_convert_bytes_arg (P := Try.prog) w 22 5 Try.underlying22 Try.underlying5 b off l.length c (l.map fun b => (b.toNat : Int)) (by simp) (fun i hi => by rw [hcell i hi]; simp [hi]) _ Try.underlying9
      rw [this]
      congr 2
      unfold strOfNums str
      simp [Function.comp_def]
theorem str_inj {k l : List UInt8} (h : str k = str l) : k = l := by
  unfold str at h; injection h with h; exact Array.toList_inj.2 h |> fun h => by simpa using h
theorem OwnB.grown {B base : Nat} {w0 w w' : World} {v : Value} {l : List UInt8} (h : Below B w0 w) (ho : OwnB w base v l) (hB : B ≤ base) (hs : B ≤ w.heap.size) (hg : w.grownBy w' v.ownBlock) : Below B w0 w' :=
  h.grown hg hs fun k hk => Nat.le_trans hB (World.ownsRow.lt ho k hk).1
theorem OwnB.some_ {w : World} {base : Nat} {v : Value} {l : List UInt8} (h : OwnB w base v l) (hl : 0 < l.length) : ∃ g cap, v = .slice (some ⟨g, 0, none⟩) l.length cap ∧ base ≤ g ∧ l.length ≤ cap ∧ cap ≤ maxLen := by
  obtain ⟨_, ⟨_, h0⟩ | ⟨g, cap, cur, rfl, hg, _, hn, hm, _⟩⟩ := h
  · omega
  · exact ⟨g, cap, rfl, hg, hn, hm⟩
theorem lit_sl (w : World) (l : List UInt8) (_ : l.length ≤ 9223372036854775807) {fr : Nat × Nat} : SlB (w.alloc (.cells (l.map B).toArray 5 fr)) (.slice (some ⟨w.heap.size, 0, none⟩) l.length l.length) l := by
  refine ⟨_, _, rfl, Nat.le_refl _, (fun h => by cases h), fun _ => ⟨w.heap.size, 0, rfl, fun i hi => ?_⟩⟩
  rw [cell_of_row _ _ _ _ _ _ (heap_alloc_new _ _)]
  simp [hi]

/-- a copy with two marked bytes of spare room behind it -/
def Wide (w : World) (base : Nat) (v : Value) (l : List UInt8) : Prop :=
  ∃ g cap, v = .slice (some ⟨g, 0, none⟩) l.length cap ∧ l.length + 2 ≤ cap ∧ OwnB w base (.slice (some ⟨g, 0, none⟩) (l.length + 2) cap) (l ++ [0xc1, 0xc2])
theorem OwnB.at_ {w : World} {base : Nat} {g n cap : Nat} {l : List UInt8} (h : OwnB w base (.slice (some ⟨g, 0, none⟩) n cap) l) (i : Nat) (hi : i < l.length) : w.cell? ⟨g, i, none⟩ = some (B (l.getD i 0)) ∧ w.frozen? ⟨g, i, none⟩ = false := by
  have hn : n = l.length := by
    obtain ⟨_, ⟨h, _⟩ | ⟨g, cap, cur, h, _⟩⟩ := h
    · cases h
    · injection h
  subst hn
  refine ⟨?_, World.ownsRow.frozenAt h i⟩
  rw [World.ownsRow.cellAt h i (by omega)]
  simp [hi]
theorem Wide.sl {w : World} {base : Nat} {v : Value} {l : List UInt8} (h : Wide w base v l) : SlB w v l := by
  obtain ⟨g, cap, rfl, hc, ho⟩ := h
  refine ⟨_, cap, rfl, by omega, (fun h => by cases h), fun _ => ⟨g, 0, rfl, fun i hi => ?_⟩⟩
  have := (ho.at_ i (by simp; omega)).1
  rw [Nat.zero_add, this]
  simp [List.getElem?_append_left hi, hi]
theorem OwnB.set_ {w : World} {base : Nat} {g n cap : Nat} {l : List UInt8} (h : OwnB w base (.slice (some ⟨g, 0, none⟩) n cap) l) (i : Nat) (b : UInt8) : OwnB (w.setCell ⟨g, i, none⟩ (B b)) base (.slice (some ⟨g, 0, none⟩) n cap) (l.set i b) := by
  have hn : n = l.length := by
    obtain ⟨_, ⟨h, _⟩ | ⟨g, cap, cur, h, _⟩⟩ := h
    · cases h
    · injection h
  subst hn
  have := World.ownsRow.stored h i (B b)
  unfold OwnB
  rw [List.length_set, List.map_set]
  exact this.1
theorem OwnB.base_le {w : World} {base : Nat} {g n cap : Nat} {l : List UInt8} (h : OwnB w base (.slice (some ⟨g, 0, none⟩) n cap) l) : base ≤ g ∧ n = l.length := by
  obtain ⟨_, ⟨h, _⟩ | ⟨g, cap, cur, h, hb, _⟩⟩ := h
  · cases h
  · injection h with h1 h2; injection h1 with h1; injection h1 with h1; subst h1; exact ⟨hb, h2⟩
theorem loop_toList (bs : ByteArray) : ∀ (n i : Nat) (r : List UInt8), bs.size - i = n → ByteArray.toList.loop bs i r = r.reverse ++ bs.data.toList.drop i := by
  intro n
  induction n with
  | zero =>
    intro i r h
    unfold ByteArray.toList.loop
    have : ¬ i < bs.size := by omega
    rw [if_neg this, List.drop_eq_nil_of_le (by show bs.data.toList.length ≤ i; rw [Array.length_toList]; exact Nat.le_of_not_lt this)]
    simp
  | succ n ih =>
    intro i r h
    unfold ByteArray.toList.loop
    have hi : i < bs.size := by omega
    rw [if_pos hi, ih (i+1) _ (by omega)]
    have hi' : i < bs.data.toList.length := by rw [Array.length_toList]; exact hi
    rw [List.drop_eq_getElem_cons hi']
    simp only [List.reverse_cons, List.append_assoc, List.cons_append, List.nil_append]
    congr 2
    show bs.get! i = _
    have hs : i < bs.data.size := hi
    simp only [ByteArray.get!, Array.getElem_toList]
    exact getElem!_pos bs.data i hs

theorem toList_eq (bs : ByteArray) : bs.toList = bs.data.toList := by
  unfold ByteArray.toList
  rw [loop_toList bs _ 0 [] rfl]; simp
theorem str_toList (l : List UInt8) : (str l).toList = l := by rw [toList_eq]; simp [str]
theorem make_bytes (w : World) (n : Nat) (hn : n ≤ 281474976710656) : ∃ w', (Instr.makeSlice 22 (.int .i64 (n : Int)) (.int .i64 (n : Int))).run Try.prog w = .ok (.slice (some ⟨w.heap.size, 0, none⟩) n n) w' ∧
    OwnB w' w.heap.size (.slice (some ⟨w.heap.size, 0, none⟩) n n) (List.replicate n 0) ∧ Below w.heap.size w w' := by
  obtain ⟨i, hi, hz0, hz1, hz2⟩ := info_parts infoB
  obtain ⟨w', h1, h2, h3⟩ := run_make_full (P := Try.prog) w w.heap.size 22 5 i (.int .u8 0) 1 Try.underlying22 hi hz0 hz1 .i64 .i64 n (by rw [hz2]; omega) (by unfold maxLen; omega) (Nat.le_refl _)
  refine ⟨w', h1, ?_, (Below.refl _ _).grown h3 (Nat.le_refl _) (fun k hk => by cases hk)⟩
  unfold OwnB
  rw [List.length_replicate, List.map_replicate]
  rw [Nat.mul_one] at h2
  rw [show (Value.int .u8 0).cells = #[.int .u8 0] from rfl, toList_madeCells_one] at h2
  exact h2
theorem SlB.form {w : World} {v : Value} {l : List UInt8} (h : SlB w v l) : ∃ A c, v = .slice A l.length c := by obtain ⟨A, c, rfl, _⟩ := h; exact ⟨A, c, rfl⟩
theorem OwnB.form {w : World} {base : Nat} {v : Value} {l : List UInt8} (h : OwnB w base v l) : ∃ A c, v = .slice A l.length c := h.sl.form
theorem SlB.take_ {w : World} {A : Option Addr} {n c : Nat} {l : List UInt8} (h : SlB w (.slice A n c) l) (k : Nat) (hk : k ≤ l.length) (hc : k ≤ c) : SlB w (.slice A k c) (l.take k) := by
  obtain ⟨A', c', e, h1, h2, h3⟩ := h
  injection e with e1 e2 e3
  subst e1 e2 e3
  refine ⟨A, c, by rw [List.length_take, Nat.min_eq_left hk], by rw [List.length_take]; omega, h2, fun h0 => ?_⟩
  rw [List.length_take, Nat.min_eq_left hk] at h0
  obtain ⟨b, off, e, hc⟩ := h3 (by omega)
  refine ⟨b, off, e, fun i hi => ?_⟩
  rw [List.length_take, Nat.min_eq_left hk] at hi
  rw [hc i (by omega)]
  simp [List.getElem?_take_of_lt hi]
theorem add_zero_ (a : Option Addr) (s : Nat) : (a.map fun p => p.add (0 * s)) = a := by
  cases a with
  | none => rfl
  | some p => simp [Addr.add]
/-- x[:k], whatever x's place is -/
theorem wpList_hi {w : World} {ops : Array Oper} {rest : List Oper} {o : Oper} {a : Act} {Q : Exit → Act → World → Prop} (hg : o.guard = none) (t : TypeId) (x hi : Operand) (ho : o.op = .slice t x none (some hi) none)
    (ht : Try.prog.underlying t = some (.slice (Try.prog.elem t))) (s : Nat) (hs : (sizeOf (Try.prog.elem t)).run Try.prog w = .ok s w) (A : Option Addr) (n c : Nat) (k : Int) (hx : a.eval x = .slice A n c) (hh : a.eval hi = .int .i64 k) (h0 : 0 ≤ k) (hk : k ≤ c)
    (h : wpList Try.prog ops Q rest (a.put o.dst (.slice A k.toNat c)) w) : wpList Try.prog ops Q (o :: rest) a w :=
  wpList_plain hg fun _ hK => by
    unfold Oper.wp execOp
    simp only [ho, Option.map_none, Option.map_some, hx, hh, Sem.run_bind, run_sliceAt_slice _ _ _ _ _ _ ht, run_slice_h w t A n c ht .i64 k h0 hk, hs, Result.andThen_ok, sliced]
    rw [show (if c = 0 then A else A.map fun p => p.add (0 * s)) = A by split <;> simp only [add_zero_]]
    exact hK _ _ h
theorem size_bytes (w : World) : (sizeOf (Try.prog.elem 22)).run Try.prog w = .ok 1 w := by go_simp
/-- the smaller of two ints -/
theorem wpList_min {w : World} {ops : Array Oper} {rest : List Oper} {o : Oper} {a : Act} {Q : Exit → Act → World → Prop} (hg : o.guard = none) (x y : Operand) (t : TypeId)
    (ho : o.op = .call { callee := .builtin .min, args := #[x, y], argTypes := #[t, t] }) (p q r : Int) (hx : a.eval x = .int .i64 p) (hy : a.eval y = .int .i64 q) (hr : (if q < p then q else p) = r)
    (h : wpList Try.prog ops Q rest (a.put o.dst (.int .i64 r)) w) : wpList Try.prog ops Q (o :: rest) a w :=
  wpList_plain hg fun _ hK => by
    have e : (execOp a.eval o).run Try.prog w = .ok (.value (.int .i64 r)) w := by
      generalize a.eval = ρ at hx hy
      unfold execOp
      simp only [ho]
      go_simp
    unfold Oper.wp
    rw [e]
    exact hK _ _ h
end Go.Proofs.Ytcadacljacbipaa

/- Append, with the place of what it tells; frames that name the blocks that may change. -/
namespace Go.Proofs.Ytcadacljacbipaa
open Go.RowKit

/-- the blocks of the elder world but those in X are as they were -/
structure Fr (X : Nat → Prop) (w w' : World) : Prop where
  os : w'.os = w.os
  tape : w'.tape = w.tape
  output : w'.output = w.output
  size : w.heap.size ≤ w'.heap.size
  block : ∀ k, k < w.heap.size → ¬ X k → w'.heap[k]? = w.heap[k]?
theorem Fr.refl (X : Nat → Prop) (w : World) : Fr X w w := ⟨rfl, rfl, rfl, Nat.le_refl _, fun _ _ _ => rfl⟩
theorem Fr.trans {X : Nat → Prop} {a b c : World} (h : Fr X a b) (k : Fr (fun i => X i ∨ a.heap.size ≤ i) b c) : Fr X a c :=
  ⟨k.os.trans h.os, k.tape.trans h.tape, k.output.trans h.output, Nat.le_trans h.size k.size, fun i hi hx => (k.block i (Nat.lt_of_lt_of_le hi h.size) (by rintro (h | h); exact hx h; omega)).trans (h.block i hi hx)⟩
theorem Fr.mono {X Y : Nat → Prop} {a b : World} (h : Fr X a b) (hxy : ∀ k, k < a.heap.size → X k → Y k) : Fr Y a b :=
  ⟨h.os, h.tape, h.output, h.size, fun k hk hy => h.block k hk fun hx => hy (hxy k hk hx)⟩
theorem Fr.of_below {w w' : World} (h : Below w.heap.size w w') : Fr (fun _ => False) w w' := ⟨h.os, h.tape, h.output, h.size, fun k hk _ => h.block k hk⟩
theorem Fr.to_below {X : Nat → Prop} {B : Nat} {w w' : World} (h : Fr X w w') (hX : ∀ k, k < B → ¬ X k) (hB : B ≤ w.heap.size) : Below B w w' :=
  ⟨h.os, h.tape, h.output, h.size, fun k hk => h.block k (by omega) (hX k hk)⟩
theorem Fr.of_grown {w w' : World} {r : Option Nat} (h : w.grownBy w' r) : Fr (fun k => r = some k) w w' := ⟨h.os, h.tape, h.output, h.size, fun k hk hx => h.block k hk (fun e => hx e.symm)⟩
theorem Fr.set_ {w : World} {g : Nat} (i : Nat) (v : Value) : Fr (fun k => k = g) w (w.setCell ⟨g, i, none⟩ v) :=
  ⟨rfl, rfl, rfl, by simp, fun k hk hx => heap_setCell_other _ _ _ _ (by simpa using hx)⟩
theorem Fr.alloc (X : Nat → Prop) (w : World) (o : Obj) : Fr X w (w.alloc o) := (Fr.of_below ((Below.refl _ _).alloc (Nat.le_refl _) o)).mono fun _ _ h => h.elim
theorem OwnB.fr {X : Nat → Prop} {w w' : World} {base : Nat} {v : Value} {l : List UInt8} (h : OwnB w base v l) (hf : Fr X w w') (hx : ∀ k, v.ownBlock = some k → ¬ X k) : OwnB w' base v l :=
  own_block h fun k hk => hf.block k (World.ownsRow.lt h k hk).2 (hx k hk)
theorem blk_fr {X : Nat → Prop} {w w' : World} (hf : Fr X w w') {g : Nat} {o : Obj} (h : w.heap[g]? = some o) (hg : ¬ X g) : w'.heap[g]? = some o := (hf.block g (blk_lt h) hg).trans h

section
variable {P : Program} (w : World)
theorem run_app_at (base : Nat) (t ty e : TypeId) (i : TypeInfo) (z : Value) (size bytes : Nat) (ht : P.underlying t = some (.slice e)) (hi : P.info? e = some i) (hz : i.zero = some z)
    (hsize : i.size = size) (hby : i.bytes = bytes) (hzs : z.cells.size = size) (hsz : 0 < size)
    (v : Value) (n : Nat) (xs : List Value) (hown : w.ownsRow base e size v n xs)
    (a : Addr) (m c : Nat) (news : List Value) (hl : news.length = m * size) (hnews : ∀ j u, news[j]? = some u → w.cell? (a.add j) = some u) (h1 : ∀ u ∈ news, u.oneCell' = true)
    (h63 : n + m ≤ maxLen) (hbytes : (n + m) * bytes ≤ 140737488355328) (hbase : base ≤ w.heap.size) :
    ∃ v' w', (Builtin.append_ #[t, t] ty #[v, .slice (some a) m c]).run P w = .ok v' w' ∧ w'.ownsRow base e size v' (n + m) (xs ++ news) ∧ w.grownBy w' v.ownBlock ∧ (∀ k, v'.ownBlock = some k → v.ownBlock = some k ∨ w.heap.size ≤ k) := by
  have hown0 := hown
  obtain ⟨hxl, ⟨rfl, rfl⟩ | ⟨g, cap, cur, rfl, hbg, hg, hnc, hcm, hcs, htake⟩⟩ := hown
  · have hx : xs = [] := List.eq_nil_of_length_eq_zero (by simpa using hxl)
    subst hx
    obtain ⟨v', w', hr, h2, h3, _⟩ := run_append_own (P := P) w w.heap.size t ty e i z size bytes ht hi hz hsize hby hzs hsz _ _ _ (World.ownsRow_nil w _ e size) a m c news hl hnews h1 h63 hbytes (Nat.le_refl _)
    exact ⟨v', w', hr, own_base h2 hbase, h3, fun k hk => .inr (World.ownsRow.lt h2 k hk).1⟩
  · by_cases hroom : n + m ≤ cap
    · obtain ⟨w', hr, h2, h3⟩ := run_append_fits (P := P) w base t ty e i size ht hi hsize g n cap xs hown0 a m c news hl hnews h1 hroom
      exact ⟨_, w', hr, h2, h3, fun k hk => .inl hk⟩
    · obtain ⟨v', w', hr, h2, h3, _⟩ := run_append_own (P := P) w base t ty e i z size bytes ht hi hz hsize hby hzs hsz _ _ _ hown0 a m c news hl hnews h1 h63 hbytes hbase
      have hsmall : n + m ≤ 9223372036854775807 := by simp only [maxLen] at h63; omega
      have hr2 := run_append_grow (P := P) w t ty e i z ht hi hz ⟨g, 0, none⟩ n cap xs (by rw [hsize]; exact hxl) (hown0.cells (g := g) rfl) a m c news (by rw [hsize]; exact hl) hnews (by omega) (by omega) (growslice_fits (by omega) (by rw [hby]; exact hbytes))
      rw [hr] at hr2
      injection hr2 with e1 e2
      refine ⟨v', w', hr, h2, h3, fun k hk => .inr ?_⟩
      rw [e1] at hk
      simp only [Value.ownBlock, Option.some.injEq] at hk
      omega
end
/-- one-cell elements put behind an owned row: from any slice -/
theorem wpList_appX {w : World} {ops : Array Oper} {rest : List Oper} {o : Oper} {a : Act} {Q : Exit → Act → World → Prop} {e t : TypeId} {z : Value} {bytes : Nat} (hgd : o.guard = none) (s x : Operand)
    (ho : o.op = .call { callee := .builtin .append, args := #[s, x], argTypes := #[t, t] })
    (ht : Try.prog.underlying t = some (.slice e)) (hinfo : (Try.prog.info? e).map (fun i => (i.zero, i.size, i.bytes)) = some (some z, 1, bytes)) (hz : z.cells.size = 1)
    (base : Nat) (v u : Value) (n m : Nat) (xs : List Value) (f : Nat → Value) (hs : a.eval s = v) (hx : a.eval x = u) (hown : w.ownsRow base e 1 v n xs) (hu : Sl w u m f) (h1 : ∀ i, i < m → (f i).oneCell' = true)
    (hbytes : (n + m) * bytes ≤ 140737488355328) (hlen : n + m ≤ maxLen) (hbase : base ≤ w.heap.size)
    (h : ∀ v' w', w'.ownsRow base e 1 v' (n + m) (xs ++ (List.range m).map f) → w.grownBy w' v.ownBlock → (∀ k, v'.ownBlock = some k → v.ownBlock = some k ∨ w.heap.size ≤ k) → wpList Try.prog ops Q rest (a.put o.dst v') w') : wpList Try.prog ops Q (o :: rest) a w :=
  wpList_plain hgd fun _ hK => by
    obtain ⟨i, hi, hz0, hz1, hz2⟩ := info_parts hinfo
    obtain ⟨A, c, rfl, hc, hnil, hA⟩ := hu
    cases A with
    | none =>
      have hc0 := hnil rfl
      obtain rfl : m = 0 := by omega
      subst hc0
      have hrun := run_append_owned_none (P := Try.prog) (w := w) base t o.type e i 1 ht hi v n xs hown
      unfold Oper.wp
      simp [execOp, ho, resolve, invoke, builtin, hs, hx, hrun, Result.andThen]
      exact hK _ _ (h v w (by simpa using hown) ⟨rfl, rfl, rfl, Nat.le_refl _, fun _ _ _ => rfl⟩ (fun k hk => .inl hk))
    | some ad =>
      obtain ⟨v', w', hrun, r1, r2, r3⟩ := run_app_at (P := Try.prog) w base t o.type e i z 1 bytes ht hi hz0 hz1 hz2 hz (by decide) v n xs hown ad m c ((List.range m).map f) (by simp) (fun j u hj => by
        have hj' : j < m := by
          rcases Nat.lt_or_ge j m with h | h
          · exact h
          · rw [List.getElem?_eq_none (by simpa using h)] at hj; cases hj
        obtain ⟨b, off, e1, hcell⟩ := hA (by omega)
        injection e1 with e1
        subst e1
        have := hcell j hj'
        have e2 : (⟨b, off, none⟩ : Addr).add j = ⟨b, off + j, none⟩ := by
          unfold Addr.add; split <;> simp_all
        rw [e2, this]
        simp [hj'] at hj
        rw [hj]) (fun u hu => by
        obtain ⟨j, hj, rfl⟩ := List.mem_map.1 hu
        exact h1 j (List.mem_range.1 hj)) hlen hbytes hbase
      unfold Oper.wp
      simp [execOp, ho, resolve, invoke, builtin, hs, hx, hrun, Result.andThen]
      exact hK _ _ (h v' w' r1 r2 r3)
theorem wpList_appBX {w : World} {ops : Array Oper} {rest : List Oper} {o : Oper} {a : Act} {Q : Exit → Act → World → Prop} (hgd : o.guard = none) (s x : Operand)
    (ho : o.op = .call { callee := .builtin .append, args := #[s, x], argTypes := #[22, 22] })
    (base : Nat) (v u : Value) (l k : List UInt8) (hs : a.eval s = v) (hx : a.eval x = u) (hown : OwnB w base v l) (hu : SlB w u k) (hlen : l.length + k.length ≤ 140737488355328) (hbase : base ≤ w.heap.size)
    (h : ∀ v' w', OwnB w' base v' (l ++ k) → w.grownBy w' v.ownBlock → (∀ k, v'.ownBlock = some k → v.ownBlock = some k ∨ w.heap.size ≤ k) → wpList Try.prog ops Q rest (a.put o.dst v') w') : wpList Try.prog ops Q (o :: rest) a w :=
  wpList_appX hgd s x ho Try.underlying22 infoB rfl base v u l.length k.length (l.map B) _ hs hx hown hu (fun _ _ => rfl) (by omega) (by unfold maxLen; omega) hbase
    fun v' w' g1 g2 g3 => h v' w' (by unfold OwnB; rw [List.length_append, List.map_append]; rw [← map_range] at g1; exact g1) g2 g3
end Go.Proofs.Ytcadacljacbipaa

/- Things that have nothing to do with one another, each in blocks of its own. -/
namespace Go.Proofs.Ytcadacljacbipaa
open Go.RowKit
/-- a thing in memory, in blocks of S -/
structure Thing where
  at_ : World → (Nat → Prop) → Prop
  fr : ∀ {X S S' : Nat → Prop} {w w' : World}, at_ w S → Fr X w w' → (∀ k, S k → ¬ X k) → (∀ k, S k → S' k) → (∀ k, S' k → k < w'.heap.size) → at_ w' S'
/-- a block with just these contents -/
def blkT (g : Nat) (o : Obj) : Thing := ⟨fun w S => w.heap[g]? = some o ∧ S g, fun h hf hx hs _ => ⟨blk_fr hf h.1 (hx _ h.2), hs _ h.2⟩⟩
/-- two things in the same blocks -/
def andT (s t : Thing) : Thing := ⟨fun w S => s.at_ w S ∧ t.at_ w S, fun h hf hx hs hl => ⟨s.fr h.1 hf hx hs hl, t.fr h.2 hf hx hs hl⟩⟩
/-- nothing -/
def noneT : Thing := ⟨fun _ _ => True, fun _ _ _ _ _ => trivial⟩
def New_ (w w' : World) (k : Nat) : Prop := w.heap.size ≤ k ∧ k < w'.heap.size
/-- these things, each in blocks of its own from B on; below B all is as in w0 -/
def Fam (B : Nat) (w0 w : World) (ts : List Thing) : Prop :=
  ∃ ρ : Nat → Nat, (∀ (i : Nat) (t : Thing), ts[i]? = some t → t.at_ w (fun k => ρ k = i + 1)) ∧ (∀ k, ρ k ≠ 0 → B ≤ k ∧ k < w.heap.size) ∧ Below B w0 w ∧ B ≤ w.heap.size
section
variable {B : Nat} {w0 w w' : World} {ts : List Thing}
theorem Fam.base (h : Fam B w0 w ts) : Below B w0 w := h.elim fun _ h => h.2.2.1
theorem Fam.size (h : Fam B w0 w ts) : B ≤ w.heap.size := h.elim fun _ h => h.2.2.2
theorem Fam.start (w : World) : Fam w.heap.size w w [] := ⟨fun _ => 0, fun i t h => by simp at h, fun k h => absurd rfl h, Below.refl _ _, Nat.le_refl _⟩
theorem Fam.below (h : Fam B w0 w ts) (hb : Below w.heap.size w w') : Fam B w0 w' ts := by
  obtain ⟨ρ, h1, h2, h3, h4⟩ := h
  refine ⟨ρ, fun i t ht => t.fr (h1 i t ht) (Fr.of_below hb) (fun _ _ h => h) (fun _ h => h) (fun k hk => ?_), fun k hk => ⟨(h2 k hk).1, Nat.lt_of_lt_of_le (h2 k hk).2 hb.size⟩, h3.trans (hb.mono h4), Nat.le_trans h4 hb.size⟩
  have := (h2 k (by omega)).2; have := hb.size; omega
/-- a call that turns one of them: new blocks are its own -/
theorem Fam.call (h : Fam B w0 w ts) {i : Nat} {t : Thing} (hi : ts[i]? = some t) : ∃ S : Nat → Prop, t.at_ w S ∧ (∀ k, S k → B ≤ k ∧ k < w.heap.size) ∧ ∀ (t' : Thing) (w' : World), t'.at_ w' (fun k => S k ∨ New_ w w' k) → Fr S w w' → Fam B w0 w' (ts.set i t') := by
  obtain ⟨ρ, h1, h2, h3, h4⟩ := h
  refine ⟨fun k => ρ k = i + 1, h1 i t hi, fun k hk => h2 k (by omega), fun t' w' ht' hf => ⟨fun k => if w.heap.size ≤ k ∧ k < w'.heap.size then i + 1 else ρ k, fun j u hu => ?_, fun k hk => ?_, h3.trans (hf.to_below (fun k hk e => by have := (h2 k (by omega)).1; omega) h4), Nat.le_trans h4 hf.size⟩⟩
  · by_cases hj : i = j
    · subst hj
      rw [List.getElem?_set_self (List.getElem?_eq_some_iff.1 hi).1] at hu
      injection hu with hu
      subst hu
      have e : (fun k => ρ k = i + 1 ∨ New_ w w' k) = (fun k => (if w.heap.size ≤ k ∧ k < w'.heap.size then i + 1 else ρ k) = i + 1) := by
        funext k
        apply propext
        by_cases hk : w.heap.size ≤ k ∧ k < w'.heap.size
        · rw [if_pos hk]; exact ⟨fun _ => rfl, fun _ => .inr hk⟩
        · rw [if_neg hk]; exact ⟨fun h => h.elim id fun h => absurd h hk, .inl⟩
      rw [← e]; exact ht'
    · rw [List.getElem?_set_ne hj] at hu
      have hold : ∀ k, ρ k = j + 1 → ¬ (w.heap.size ≤ k ∧ k < w'.heap.size) := fun k hk h => by have := (h2 k (by omega)).2; omega
      have e : (fun k => ρ k = j + 1) = (fun k => (if w.heap.size ≤ k ∧ k < w'.heap.size then i + 1 else ρ k) = j + 1) := by
        funext k
        apply propext
        by_cases hk : w.heap.size ≤ k ∧ k < w'.heap.size
        · rw [if_pos hk]; exact ⟨fun h => absurd hk (hold k h), fun h => by omega⟩
        · rw [if_neg hk]
      rw [← e]
      exact u.fr (h1 j u hu) hf (fun k hk e => by omega) (fun _ h => h) (fun k hk => by have := (h2 k (by omega)).2; have := hf.size; omega)
  · dsimp only at hk
    by_cases hn : w.heap.size ≤ k ∧ k < w'.heap.size
    · exact ⟨Nat.le_trans h4 hn.1, hn.2⟩
    · rw [if_neg hn] at hk
      exact ⟨(h2 k hk).1, by have := (h2 k hk).2; have := hf.size; omega⟩
/-- a new thing in new blocks -/
theorem Fam.add (h : Fam B w0 w ts) {t : Thing} (hb : Below w.heap.size w w') (ht : t.at_ w' (New_ w w')) : Fam B w0 w' (ts ++ [t]) := by
  have h' : Fam B w0 w (ts ++ [noneT]) := by
    obtain ⟨ρ, h1, h2, h3, h4⟩ := h
    refine ⟨fun k => if ρ k ≤ ts.length then ρ k else 0, fun i u hu => ?_, fun k hk => ?_, h3, h4⟩
    · by_cases hi : i < ts.length
      · rw [List.getElem?_append_left hi] at hu
        have e : (fun k => ρ k = i + 1) = (fun k => (if ρ k ≤ ts.length then ρ k else 0) = i + 1) := by
          funext k
          apply propext
          split
          · exact Iff.rfl
          · exact ⟨fun h => by omega, fun h => by omega⟩
        rw [← e]; exact h1 i u hu
      · rw [List.getElem?_append_right (by omega)] at hu
        have hz : i - ts.length = 0 := by
          have := (List.getElem?_eq_some_iff.1 hu).1
          simp at this; omega
        rw [hz] at hu
        injection hu with hu
        subst hu
        trivial
    · dsimp only at hk
      split at hk
      · exact h2 k hk
      · omega
  obtain ⟨S, _, hS, k⟩ := h'.call (i := ts.length) (t := noneT) (by simp)
  have := k t w' (t.fr ht (Fr.refl (fun _ => False) _) (fun _ _ h => h) (fun _ h => .inr h) (fun k hk => hk.elim (fun h => Nat.lt_of_lt_of_le (hS k h).2 hb.size) (fun h => h.2))) ((Fr.of_below hb).mono fun _ _ h => h.elim)
  simpa using this
/-- less is said of one -/
theorem Fam.weak (h : Fam B w0 w ts) {i : Nat} {t t' : Thing} (hi : ts[i]? = some t) (ht : ∀ S, t.at_ w S → t'.at_ w S) : Fam B w0 w (ts.set i t') := by
  obtain ⟨S, hS, hSB, k⟩ := h.call hi
  exact k t' w (t'.fr (ht S hS) (Fr.refl (fun _ => False) _) (fun _ _ h => h) (fun _ h => .inl h) (fun k hk => hk.elim (fun h => (hSB k h).2) (fun h => h.2))) (Fr.refl _ _)
/-- the last is let go -/
theorem Fam.drop {t : Thing} (h : Fam B w0 w (ts ++ [t])) : Fam B w0 w ts := by
  obtain ⟨ρ, h1, h2, h3, h4⟩ := h
  exact ⟨ρ, fun i u hu => h1 i u (by rw [List.getElem?_append_left (List.getElem?_eq_some_iff.1 hu).1]; exact hu), h2, h3, h4⟩
/-- the last takes the place of another -/
theorem Fam.move {t : Thing} (h : Fam B w0 w (ts ++ [t])) {i : Nat} (hi : i < ts.length) : Fam B w0 w (ts.set i t) := by
  obtain ⟨ρ, h1, h2, h3, h4⟩ := h
  refine ⟨fun k => if ρ k = ts.length + 1 then i + 1 else if ρ k = i + 1 then 0 else ρ k, fun j u hu => ?_, fun k hk => ?_, h3, h4⟩
  · by_cases hj : i = j
    · subst hj
      rw [List.getElem?_set_self hi] at hu
      injection hu with hu
      subst hu
      have := h1 ts.length t (by simp)
      have e : (fun k => ρ k = ts.length + 1) = (fun k => (if ρ k = ts.length + 1 then i + 1 else if ρ k = i + 1 then 0 else ρ k) = i + 1) := by
        funext k
        apply propext
        split
        · simp [*]
        · split <;> omega
      rw [← e]; exact this
    · rw [List.getElem?_set_ne hj] at hu
      have hjl := (List.getElem?_eq_some_iff.1 hu).1
      have := h1 j u (by rw [List.getElem?_append_left hjl]; exact hu)
      have e : (fun k => ρ k = j + 1) = (fun k => (if ρ k = ts.length + 1 then i + 1 else if ρ k = i + 1 then 0 else ρ k) = j + 1) := by
        funext k
        apply propext
        split
        · omega
        · split <;> omega
      rw [← e]; exact this
  · exact h2 k (fun e => hk (by dsimp only; rw [e, if_neg (by omega), if_neg (by omega)]))
theorem Fam.blk (h : Fam B w0 w ts) {i g : Nat} {o : Obj} (hi : ts[i]? = some (blkT g o)) : w.heap[g]? = some o ∧ B ≤ g := by
  obtain ⟨ρ, h1, h2, h3, h4⟩ := h
  have := h1 i _ hi
  exact ⟨this.1, (h2 g (by have := this.2; omega)).1⟩
/-- a store into a block -/
theorem Fam.store (h : Fam B w0 w ts) {i g j : Nat} {t : TypeId} {cs : Array Value} (hi : ts[i]? = some (blkT g (.cells cs t (0, 0)))) (v : Value) : Fam B w0 (w.setCell ⟨g, j, none⟩ v) (ts.set i (blkT g (.cells (cs.setIfInBounds j v) t (0, 0)))) := by
  obtain ⟨S, hS, _, k⟩ := h.call hi
  exact k _ _ ⟨blk_set hS.1 _ _, .inl hS.2⟩ ((Fr.set_ (g := g) j v).mono fun x _ e => e ▸ hS.2)
theorem Fam.new (h : Fam B w0 w ts) (o : Obj) : Fam B w0 (w.alloc o) (ts ++ [blkT w.heap.size o]) :=
  h.add ((Below.refl _ _).alloc (Nat.le_refl _) _) ⟨heap_alloc_new _ _, Nat.le_refl _, by simp⟩
end
end Go.Proofs.Ytcadacljacbipaa

/- The disk as a machine: what lasts of each slot, its loose acts, the current slot, the act that is named. No program in sight. -/
namespace Go.Proofs.Ytcadacljacbipaa
/-- a loose act -/
inductive DAct where
  | app (d : List UInt8)
  | wipe
namespace DAct
def on : DAct → List UInt8 → List UInt8
  | .app d, l => l ++ d
  | .wipe, _ => []
def size : DAct → Nat
  | .app d => d.length
  | .wipe => 0
/-- the first bytes of it alone -/
def first (a : DAct) (n : Nat) (l : List UInt8) : List UInt8 :=
  match a with
  | .app d => l ++ d.take n
  | .wipe => []
theorem first_all (a : DAct) (l : List UInt8) : a.first a.size l = a.on l := by
  cases a <;> simp [first, on, size]
def ok : DAct → Prop
  | .app d => 0 < d.length
  | .wipe => True
end DAct
def doAll (acs : List DAct) (l : List UInt8) : List UInt8 := acs.foldl (fun l a => a.on l) l
theorem doAll_nil (l : List UInt8) : doAll [] l = l := rfl
theorem doAll_snoc (acs : List DAct) (a : DAct) (l : List UInt8) : doAll (acs ++ [a]) l = a.on (doAll acs l) := by simp [doAll]
theorem doAll_append (acs bs : List DAct) (l : List UInt8) : doAll (acs ++ bs) l = doAll bs (doAll acs l) := by simp [doAll]
theorem doAll_take (acs : List DAct) (k : Nat) (hk : k < acs.length) (l : List UInt8) : doAll (acs.take (k + 1)) l = (acs[k]).on (doAll (acs.take k) l) := by
  rw [List.take_succ_eq_append_getElem hk, doAll_snoc]
def sizes (acs : List DAct) : Nat := (acs.map DAct.size).sum
theorem on_length (a : DAct) (l : List UInt8) : (a.on l).length ≤ l.length + a.size := by cases a <;> simp [DAct.on, DAct.size]
theorem doAll_length (acs : List DAct) (l : List UInt8) : (doAll acs l).length ≤ l.length + sizes acs := by
  induction acs generalizing l with
  | nil => simp [doAll, sizes]
  | cons a acs ih =>
    have h := ih (a.on l)
    have h2 := on_length a l
    simp only [doAll, List.foldl_cons, sizes, List.map_cons, List.sum_cons] at h ⊢
    omega
/-- a slot -/
structure Dslot where
  lasts : List UInt8
  acts : List DAct
def Dslot.now (s : Dslot) : List UInt8 := doAll s.acts s.lasts
def Dslot.do (s : Dslot) (a : DAct) : Dslot := ⟨s.lasts, s.acts ++ [a]⟩
def Dslot.sync (s : Dslot) : Dslot := ⟨s.now, []⟩
def Dslot.ok (s : Dslot) : Prop := ∀ a ∈ s.acts, a.ok
/-- so many bytes at most will ever be there -/
def Dslot.room (s : Dslot) : Nat := s.lasts.length + sizes s.acts
theorem Dslot.now_le (s : Dslot) : s.now.length ≤ s.room := doAll_length _ _
theorem Dslot.now_do (s : Dslot) (a : DAct) : (s.do a).now = a.on s.now := doAll_snoc _ _ _
theorem Dslot.now_sync (s : Dslot) : s.sync.now = s.now := rfl
theorem Dslot.room_do (s : Dslot) (a : DAct) : (s.do a).room = s.room + a.size := by simp [Dslot.room, Dslot.do, sizes]; omega
theorem Dslot.room_sync (s : Dslot) : s.sync.room ≤ s.room := by have := s.now_le; simp [Dslot.room, Dslot.sync, sizes] at this ⊢; omega
theorem Dslot.ok_do {s : Dslot} {a : DAct} (h : s.ok) (ha : a.ok) : (s.do a).ok := by
  intro b hb
  simp only [Dslot.do, List.mem_append, List.mem_singleton] at hb
  rcases hb with hb | rfl
  · exact h b hb
  · exact ha
theorem Dslot.ok_sync (s : Dslot) : s.sync.ok := by intro b hb; simp [Dslot.sync] at hb
/-- c modulo n, from 0 on -/
def cmod (c : Int) (n : Nat) : Nat := (c % (n : Int)).toNat
theorem cmod_lt (c : Int) {n : Nat} (h : 0 < n) : cmod c n < n := by
  unfold cmod
  have := Int.emod_lt_of_pos c (show (0 : Int) < (n : Int) by omega)
  have := Int.emod_nonneg c (show (n : Int) ≠ 0 by omega)
  omega
/-- the next choice: 0 where there are none -/
def pick1 (cs : List Int) (n : Nat) : Nat := match cs with | [] => 0 | c :: _ => cmod c n
theorem pick1_lt (cs : List Int) {n : Nat} (h : 0 < n) : pick1 cs n < n := by
  cases cs with
  | nil => exact h
  | cons c cs => exact cmod_lt c h
/-- what a crash leaves of a slot, and the choices that are left -/
def Dslot.crash (s : Dslot) (cs : List Int) : List UInt8 × List Int :=
  let k := pick1 cs (s.acts.length + 1)
  let b := doAll (s.acts.take k) s.lasts
  match s.acts[k]? with
  | some (.app d) => (b ++ d.take (pick1 cs.tail d.length), cs.tail.tail)
  | _ => (b, cs.tail)
/-- a disk -/
structure Dk where
  s0 : Dslot
  s1 : Dslot
  cur : Nat
  done : Nat
  named : Nat
  withIt : Bool
  dead : Bool
def Dk.new : Dk := ⟨⟨[], []⟩, ⟨[], []⟩, 0, 0, 0, false, false⟩
def Dk.load (a b : List UInt8) (c : Nat) : Dk := ⟨⟨a, []⟩, ⟨b, []⟩, c, 0, 0, false, false⟩
def Dk.slot (d : Dk) (i : Nat) : Dslot := if i = 0 then d.s0 else d.s1
def Dk.setSlot (d : Dk) (i : Nat) (s : Dslot) : Dk := if i = 0 then { d with s0 := s } else { d with s1 := s }
def Dk.ok (d : Dk) : Prop := d.s0.ok ∧ d.s1.ok ∧ d.cur < 2
def Dk.room (d : Dk) : Nat := d.s0.room + d.s1.room
def Dk.crashed (d : Dk) (cs : List Int) : Dk :=
  let a := d.s0.crash cs
  let b := d.s1.crash a.2
  Dk.load a.1 b.1 d.cur
inductive DOp where
  | append (l : List UInt8)
  | wipe
  | sync
  | switch
def DOp.wipes : DOp → Bool
  | .wipe => true
  | _ => false
/-- what an act does to a disk, at slot i -/
def DOp.eff (o : DOp) (i : Nat) (d : Dk) : Dk :=
  match o with
  | .append l => if 0 < l.length then d.setSlot i ((d.slot i).do (.app l)) else d
  | .wipe => d.setSlot i ((d.slot i).do .wipe)
  | .sync => d.setSlot i (d.slot i).sync
  | .switch => { d with cur := i }
def Dk.bad (d : Dk) (at_ : Int) (wipes : Bool) : Bool := (at_ != 0 && at_ != 1) || (wipes && at_ == (d.cur : Int))
def Dk.err (d : Dk) (at_ : Int) (wipes : Bool) : Int := if d.dead then 60 else if d.bad at_ wipes then 61 else if d.named = 1 then 60 else 0
/-- the count to the named act, before an act -/
def Dk.near (d : Dk) : Dk := { d with named := d.named - 1, dead := d.named == 1 }
def Dk.more (d : Dk) : Dk := { d with done := d.done + 1 }
def Dk.step (d : Dk) (at_ : Int) (o : DOp) : Dk :=
  if d.dead then d else if d.bad at_ o.wipes then d else
  if d.named = 1 ∧ d.withIt = false then d.near else (o.eff at_.toNat d.near).more
end Go.Proofs.Ytcadacljacbipaa

/- How a disk lies in memory; slices.Clone of bytes. -/
namespace Go.Proofs.Ytcadacljacbipaa
open Go.RowKit
theorem sl_fr0 {X : Nat → Prop} {w w1 : World} {v : Value} {l : List UInt8} (h : SlB w v l) (hf : Fr X w w1) (hx : 0 < l.length → ∀ k, v.ownBlock = some k → ¬ X k) : SlB w1 v l := by
  obtain ⟨A, c, rfl, h1, h2, h3⟩ := h
  refine ⟨A, c, rfl, h1, h2, fun h0 => ?_⟩
  obtain ⟨b, off, rfl, hc⟩ := h3 h0
  refine ⟨b, off, rfl, fun i hi => ?_⟩
  have hb := World.block_lt_of_cell? w _ (hc i hi)
  rw [World.cell?_of_block (w := w) (w' := w1) (a := ⟨b, off + i, none⟩) (hf.block b hb (hx h0 b rfl)), hc i hi]
theorem sl_lt {w : World} {v : Value} {l : List UInt8} (h : SlB w v l) (h0 : 0 < l.length) : ∀ k, v.ownBlock = some k → k < w.heap.size := by
  intro k hk
  obtain ⟨A, c, rfl, h1, h2, h3⟩ := h
  obtain ⟨b, off, rfl, hc⟩ := h3 h0
  have hb := World.block_lt_of_cell? w _ (hc 0 h0)
  injection hk with hk
  have hk : b = k := hk
  subst hk
  exact hb
theorem own_fr {X : Nat → Prop} {w w' : World} {base e s n : Nat} {v : Value} {xs : List Value} (h : w.ownsRow base e s v n xs) (hf : Fr X w w') (hx : ∀ k, v.ownBlock = some k → ¬ X k) : w'.ownsRow base e s v n xs :=
  own_block h fun k hk => hf.block k (World.ownsRow.lt h k hk).2 (hx k hk)
/-- bytes that are read in blocks of I -/
structure SlI (w : World) (I : Nat → Prop) (v : Value) (l : List UInt8) : Prop where
  sl : SlB w v l
  i : 0 < l.length → ∀ k, v.ownBlock = some k → I k
theorem SlI.fr {X I I' : Nat → Prop} {w w' : World} {v : Value} {l : List UInt8} (h : SlI w I v l) (hf : Fr X w w') (hx : ∀ k, I k → ¬ X k) (hi : ∀ k, I k → I' k) : SlI w' I' v l :=
  ⟨sl_fr0 h.sl hf fun h0 k hk => hx k (h.i h0 k hk), fun h0 k hk => hi k (h.i h0 k hk)⟩
theorem SlI.nil (w : World) (I : Nat → Prop) : SlI w I (.slice none 0 0) [] := ⟨Sl.nil _ _, fun h => absurd h (by simp)⟩
/-- a loose act al it lies: its function and what that has caught -/
def ActAt (w : World) (I : Nat → Prop) (f : Value) : DAct → Prop
  | .app d => 0 < d.length ∧ ∃ c v, f = .func (.func 55) #[] #[.pointer (some ⟨c, 0, none⟩)] ∧ I c ∧ w.heap[c]? = some (.cells #[v] 22 (0, 0)) ∧ SlI w I v d
  | .wipe => f = .func (.func 56) #[] #[]
theorem ActAt.fr {X I I' : Nat → Prop} {w w' : World} {f : Value} {a : DAct} (h : ActAt w I f a) (hf : Fr X w w') (hx : ∀ k, I k → ¬ X k) (hi : ∀ k, I k → I' k) : ActAt w' I' f a := by
  cases a with
  | app d =>
    obtain ⟨h0, c, v, e, h1, h2, h3⟩ := h
    exact ⟨h0, c, v, e, hi c h1, blk_fr hf h2 (hx c h1), h3.fr hf hx hi⟩
  | wipe => exact h
theorem ActAt.ok {w : World} {I : Nat → Prop} {f : Value} {a : DAct} (h : ActAt w I f a) : a.ok := by
  cases a with
  | app d => exact h.1
  | wipe => trivial
/-- the cells of loose acts -/
def actCells : List Value → List DAct → List Value
  | f :: fs, a :: al => f :: .int .i64 a.size :: actCells fs al
  | _, _ => []
theorem actCells_length : ∀ (fs : List Value) (al : List DAct), fs.length = al.length → (actCells fs al).length = al.length * 2
  | [], [], _ => rfl
  | f :: fs, a :: al, h => by simp [actCells, actCells_length fs al (by simpa using h)]; omega
theorem actCells_snoc : ∀ (fs : List Value) (al : List DAct) (f : Value) (a : DAct), fs.length = al.length → actCells (fs ++ [f]) (al ++ [a]) = actCells fs al ++ [f, .int .i64 a.size]
  | [], [], f, a, _ => rfl
  | g :: fs, b :: al, f, a, h => by simp [actCells, actCells_snoc fs al f a (by simpa using h)]
theorem actCells_at : ∀ (fs : List Value) (al : List DAct) (i : Nat) (f : Value) (a : DAct), fs.length = al.length → fs[i]? = some f → al[i]? = some a → (actCells fs al)[i * 2]? = some f ∧ (actCells fs al)[i * 2 + 1]? = some (.int .i64 a.size)
  | [], [], _, _, _, _, h, _ => by simp at h
  | g :: fs, b :: al, 0, f, a, h, hf, ha => by simp at hf ha; subst hf ha; exact ⟨rfl, rfl⟩
  | g :: fs, b :: al, i + 1, f, a, h, hf, ha => by
    have := actCells_at fs al i f a (by simpa using h) (by simpa using hf) (by simpa using ha)
    rw [Nat.add_mul, Nat.one_mul]
    simpa [actCells] using this
/-- the loose acts of a slot al they lie -/
structure ActsAt (w : World) (I : Nat → Prop) (av : Value) (al : List DAct) : Prop where
  ex : ∃ fs : List Value, fs.length = al.length ∧ w.ownsRow 0 79 2 av al.length (actCells fs al) ∧ ∀ (i : Nat) (f : Value) (a : DAct), fs[i]? = some f → al[i]? = some a → ActAt w I f a
theorem ActsAt.nil (w : World) (I : Nat → Prop) : ActsAt w I (.slice none 0 0) [] := ⟨[], rfl, World.ownsRow_nil _ _ _ _, fun i f a h => by simp at h⟩
theorem ActsAt.fr {X I I' : Nat → Prop} {w w' : World} {av : Value} {al : List DAct} (h : ActsAt w I av al) (hf : Fr X w w') (hx : ∀ k, I k → ¬ X k) (hi : ∀ k, I k → I' k) (hr : ∀ k, av.ownBlock = some k → ¬ X k) : ActsAt w' I' av al := by
  obtain ⟨fs, h1, h2, h3⟩ := h
  exact ⟨fs, h1, own_fr h2 hf hr, fun i f a hi' ha => (h3 i f a hi' ha).fr hf hx hi⟩
theorem ActsAt.lt {w : World} {I : Nat → Prop} {av : Value} {al : List DAct} (h : ActsAt w I av al) : ∀ k, av.ownBlock = some k → k < w.heap.size := by
  obtain ⟨fs, h1, h2, h3⟩ := h
  exact fun k hk => (World.ownsRow.lt h2 k hk).2
/-- a slot al it lies -/
structure SlotAt (w : World) (I : Nat → Prop) (lv nv av : Value) (s : Dslot) : Prop where
  lasts : SlI w I lv s.lasts
  now : SlI w I nv s.now
  acts : ActsAt w I av s.acts
theorem SlotAt.fr {X I I' : Nat → Prop} {w w' : World} {lv nv av : Value} {s : Dslot} (h : SlotAt w I lv nv av s) (hf : Fr X w w') (hx : ∀ k, I k → ¬ X k) (hi : ∀ k, I k → I' k) (hr : ∀ k, av.ownBlock = some k → ¬ X k) : SlotAt w' I' lv nv av s :=
  ⟨h.lasts.fr hf hx hi, h.now.fr hf hx hi, h.acts.fr hf hx hi hr⟩
def dkCells (l0 n0 a0 l1 n1 a1 : Value) (D : Dk) : Array Value := #[l0, n0, a0, l1, n1, a1, .int .i64 (D.cur : Int), .int .i64 (D.done : Int), .int .i64 (D.named : Int), .bool D.withIt, .bool D.dead]
/-- a disk at block d, all of it in blocks of S -/
structure DV (w : World) (S I : Nat → Prop) (d : Nat) (l0 n0 a0 l1 n1 a1 : Value) (D : Dk) : Prop where
  at_ : w.heap[d]? = some (.cells (dkCells l0 n0 a0 l1 n1 a1 D) 71 (0, 0))
  s0 : SlotAt w I l0 n0 a0 D.s0
  s1 : SlotAt w I l1 n1 a1 D.s1
  cur : D.cur < 2
  sd : S d
  id : ¬ I d
  is : ∀ k, I k → S k
  lt : ∀ k, S k → k < w.heap.size
  r0 : ∀ k, a0.ownBlock = some k → S k ∧ ¬ I k ∧ k ≠ d
  r1 : ∀ k, a1.ownBlock = some k → S k ∧ ¬ I k ∧ k ≠ d
  rr : ∀ k, a0.ownBlock = some k → a1.ownBlock ≠ some k
def DAt (w : World) (S : Nat → Prop) (d : Nat) (D : Dk) : Prop := ∃ I l0 n0 a0 l1 n1 a1, DV w S I d l0 n0 a0 l1 n1 a1 D
/-- blocks that are new -/
def Nw (w w' : World) (k : Nat) : Prop := w.heap.size ≤ k ∧ k < w'.heap.size
theorem DV.fr {X S S' I : Nat → Prop} {w w' : World} {d : Nat} {l0 n0 a0 l1 n1 a1 : Value} {D : Dk} (h : DV w S I d l0 n0 a0 l1 n1 a1 D) (hf : Fr X w w') (hx : ∀ k, S k → ¬ X k) (hs : ∀ k, S k → S' k) (hl : ∀ k, S' k → k < w'.heap.size) : DV w' S' I d l0 n0 a0 l1 n1 a1 D :=
  ⟨blk_fr hf h.at_ (hx d h.sd), h.s0.fr hf (fun k hk => hx k (h.is k hk)) (fun _ h => h) (fun k hk => hx k (h.r0 k hk).1), h.s1.fr hf (fun k hk => hx k (h.is k hk)) (fun _ h => h) (fun k hk => hx k (h.r1 k hk).1), h.cur, hs d h.sd, h.id, fun k hk => hs k (h.is k hk), hl,
    fun k hk => ⟨hs k (h.r0 k hk).1, (h.r0 k hk).2⟩, fun k hk => ⟨hs k (h.r1 k hk).1, (h.r1 k hk).2⟩, h.rr⟩
theorem DAt.fr {X S S' : Nat → Prop} {w w' : World} {d : Nat} {D : Dk} (h : DAt w S d D) (hf : Fr X w w') (hx : ∀ k, S k → ¬ X k) (hs : ∀ k, S k → S' k) (hl : ∀ k, S' k → k < w'.heap.size) : DAt w' S' d D := by
  obtain ⟨I, l0, n0, a0, l1, n1, a1, h⟩ := h
  exact ⟨I, l0, n0, a0, l1, n1, a1, h.fr hf hx hs hl⟩
theorem DAt.lt {S : Nat → Prop} {w : World} {d : Nat} {D : Dk} (h : DAt w S d D) : ∀ k, S k → k < w.heap.size := by
  obtain ⟨I, l0, n0, a0, l1, n1, a1, h⟩ := h
  exact h.lt
theorem DAt.below {S : Nat → Prop} {w w' : World} {d : Nat} {D : Dk} (h : DAt w S d D) (hb : Below w.heap.size w w') : DAt w' S d D :=
  h.fr (Fr.of_below hb) (fun _ _ h => h) (fun _ h => h) (fun k hk => Nat.lt_of_lt_of_le (h.lt k hk) hb.size)
theorem DAt.ok {S : Nat → Prop} {w : World} {d : Nat} {D : Dk} (h : DAt w S d D) : D.ok := by
  obtain ⟨I, l0, n0, a0, l1, n1, a1, h⟩ := h
  have key : ∀ {lv nv av : Value} {s : Dslot}, SlotAt w I lv nv av s → s.ok := by
    intro lv nv av s h a ha
    obtain ⟨fs, h1, h2, h3⟩ := h.acts
    obtain ⟨i, hi, rfl⟩ := List.getElem_of_mem ha
    exact (h3 i _ _ (List.getElem?_eq_getElem (by omega)) (List.getElem?_eq_getElem hi)).ok
  exact ⟨key h.s0, key h.s1, h.cur⟩
set_option maxHeartbeats 1000000 in
theorem Clone_any (v : Value) (l : List UInt8) (w : World) (h : SlB w v l) (hl : l.length ≤ 140737488355328) :
    Calls Try.prog 34 #[v] w fun e w' => ∃ v', e = .returned v' ∧ OwnB w' w.heap.size v' l ∧ Below w.heap.size w w' := by
  have hq := fun (a : Option Addr) (n c : Nat) (w : World) => Lib.run_eql_slice_nil (P := Try.prog) w 22 5 a n c 0 0 Try.underlying22
  obtain ⟨A, c, rfl⟩ := h.form
  cases A with
  | none =>
    obtain ⟨_, _, e, h1, h2, _⟩ := h
    injection e with e1 _ e3
    subst e1 e3
    have hc := h2 rfl
    obtain rfl : l = [] := List.length_eq_zero_iff.1 (by omega)
    subst hc
    go_enter Try.func34, Try.ntmps34
    go_wp2
    go_ret
    exact ⟨_, rfl, OwnB.nil _ _, Below.refl _ _⟩
  | some a =>
    have H := hid h
    clear h
    go_enter Try.func34, Try.ntmps34
    go_wp2_with (at_builtin; refine wpList_appB rfl (.tmp 5) (.tmp 6) rfl w.heap.size _ _ [] l rfl rfl (by exact lit0 w) (by exact H.out.below ((Below.refl _ _).alloc (Nat.le_refl _) _)) (by simp only [List.length_nil]; omega) (by simp) ?_; intro v1 w1 ho1 hg1; rw [List.nil_append] at ho1; have HB := hid (OwnB.grown ((Below.refl w.heap.size w).alloc (Nat.le_refl _) _) (lit0 w) (Nat.le_refl _) (by simp) hg1); have HO := hid ho1; clear ho1 hg1)
    go_ret
    exact ⟨_, rfl, HO.out, HB.out⟩
end Go.Proofs.Ytcadacljacbipaa

/- Things of the law's own beside a family; a thing that comes of another. -/
namespace Go.Proofs.Ytcadacljacbipaa
open Go.RowKit
theorem set_app {α : Type} (ts L : List α) (t : α) (i : Nat) (hi : i < ts.length) : (ts ++ L).set i t = ts.set i t ++ L := by rw [List.set_append_left _ _ hi]
theorem get_app {α : Type} {ts L : List α} {i : Nat} {t : α} (h : ts[i]? = some t) : (ts ++ L)[i]? = some t := by rw [List.getElem?_append_left (List.getElem?_eq_some_iff.1 h).1]; exact h
theorem get_at {α : Type} (ts L : List α) (k : Nat) : (ts ++ L)[ts.length + k]? = L[k]? := by rw [List.getElem?_append_right (by omega)]; congr 1; omega
theorem set_at {α : Type} (ts L : List α) (t : α) (k : Nat) : (ts ++ L).set (ts.length + k) t = ts ++ L.set k t := by rw [List.set_append_right _ _ (by omega)]; congr 2; omega
theorem get_set {α : Type} {ts : List α} {i j : Nat} {t u : α} (h : ts[i]? = some t) (hij : i ≠ j) : (ts.set j u)[i]? = some t := by rw [List.getElem?_set_ne (Ne.symm hij)]; exact h
theorem get_self {α : Type} {ts : List α} {i : Nat} {u : α} (h : i < ts.length) : (ts.set i u)[i]? = some u := List.getElem?_set_self h
/-- bytes of the law's own -/
def rowT (v : Value) (l : List UInt8) : Thing := ⟨fun w S => OwnB w 0 v l ∧ ∀ k, v.ownBlock = some k → S k, fun h hf hx hs _ => ⟨h.1.fr hf (fun k hk => hx k (h.2 k hk)), fun k hk => hs k (h.2 k hk)⟩⟩
/-- a row of anything -/
def ownT (e : TypeId) (s : Nat) (v : Value) (n : Nat) (xs : List Value) : Thing := ⟨fun w S => w.ownsRow 0 e s v n xs ∧ ∀ k, v.ownBlock = some k → S k, fun h hf hx hs _ => ⟨own_fr h.1 hf (fun k hk => hx k (h.2 k hk)), fun k hk => hs k (h.2 k hk)⟩⟩
section
variable {B : Nat} {w0 w w' : World} {ts L : List Thing}
/-- the local things are let go -/
theorem Fam.back (h : Fam B w0 w (ts ++ L)) : Fam B w0 w ts := by
  obtain ⟨ρ, h1, h2, h3, h4⟩ := h
  exact ⟨ρ, fun i u hu => h1 i u (get_app hu), h2, h3, h4⟩
theorem Fam.blkL (h : Fam B w0 w (ts ++ L)) (k : Nat) {g : Nat} {o : Obj} (hk : L[k]? = some (blkT g o)) : w.heap[g]? = some o :=
  (h.blk (i := ts.length + k) (by rw [get_at]; exact hk)).1
theorem Fam.newL (h : Fam B w0 w (ts ++ L)) (o : Obj) : Fam B w0 (w.alloc o) (ts ++ (L ++ [blkT w.heap.size o])) := by
  rw [← List.append_assoc]; exact h.new o
theorem Fam.addL (h : Fam B w0 w (ts ++ L)) {t : Thing} (hb : Below w.heap.size w w') (ht : t.at_ w' (New_ w w')) : Fam B w0 w' (ts ++ (L ++ [t])) := by
  rw [← List.append_assoc]; exact h.add hb ht
theorem Fam.rowL {v : Value} {l : List UInt8} (h : Fam B w0 w (ts ++ L)) (hb : Below w.heap.size w w') (ho : OwnB w' w.heap.size v l) : Fam B w0 w' (ts ++ (L ++ [rowT v l])) :=
  h.addL hb ⟨own_base ho (Nat.zero_le _), fun k hk => World.ownsRow.lt ho k hk⟩
theorem Fam.rowAt {v : Value} {l : List UInt8} {i : Nat} (h : Fam B w0 w ts) (hi : ts[i]? = some (rowT v l)) : OwnB w 0 v l := by
  obtain ⟨S, hS, _⟩ := h.call hi
  exact hS.1
theorem Fam.rowAtL (h : Fam B w0 w (ts ++ L)) (k : Nat) {v : Value} {l : List UInt8} (hk : L[k]? = some (rowT v l)) : OwnB w 0 v l :=
  h.rowAt (i := ts.length + k) (by rw [get_at]; exact hk)
theorem Fam.own {e : TypeId} {s n : Nat} {v : Value} {xs : List Value} {i : Nat} (h : Fam B w0 w ts) (hi : ts[i]? = some (ownT e s v n xs)) : w.ownsRow 0 e s v n xs ∧ ∀ k, v.ownBlock = some k → B ≤ k ∧ k < w.heap.size := by
  obtain ⟨S, hS, hB, _⟩ := h.call hi
  exact ⟨hS.1, fun k hk => hB k (hS.2 k hk)⟩
/-- a row grows -/
theorem Fam.grow {e : TypeId} {s n m : Nat} {v v' : Value} {xs ys : List Value} {i : Nat} (h : Fam B w0 w ts) (hi : ts[i]? = some (ownT e s v n xs)) (ho : w'.ownsRow 0 e s v' m ys) (hg : w.grownBy w' v.ownBlock) (hn : ∀ k, v'.ownBlock = some k → v.ownBlock = some k ∨ w.heap.size ≤ k) : Fam B w0 w' (ts.set i (ownT e s v' m ys)) := by
  obtain ⟨S, hS, _, k⟩ := h.call hi
  refine k _ _ ⟨ho, fun j hj => ?_⟩ ((Fr.of_grown hg).mono fun j _ hj => hS.2 j hj)
  rcases hn j hj with h1 | h1
  · exact .inl (hS.2 j h1)
  · exact .inr ⟨h1, (World.ownsRow.lt ho j hj).2⟩
/-- a call leaves a new thing beside the one that it turns -/
theorem Fam.split (h : Fam B w0 w ts) {i : Nat} {t : Thing} (hi : ts[i]? = some t) : ∃ S : Nat → Prop, t.at_ w S ∧ (∀ k, S k → B ≤ k ∧ k < w.heap.size) ∧ (∀ (m : Nat) (u : Thing), m ≠ i → ts[m]? = some u → ∃ T : Nat → Prop, u.at_ w T ∧ ∀ k, T k → ¬ S k) ∧ ∀ (t' u : Thing) (w' : World), t'.at_ w' S → u.at_ w' (New_ w w') → Fr S w w' → Fam B w0 w' (ts.set i t' ++ [u]) := by
  obtain ⟨ρ, h1, h2, h3, h4⟩ := h
  have hil := (List.getElem?_eq_some_iff.1 hi).1
  refine ⟨fun k => ρ k = i + 1, h1 i t hi, fun k hk => h2 k (by omega), fun m u hm hu => ⟨fun k => ρ k = m + 1, h1 m u hu, fun k hk e => by omega⟩, fun t' u w' ht' hu hf => ⟨fun k => if w.heap.size ≤ k ∧ k < w'.heap.size then ts.length + 1 else if ρ k ≤ ts.length then ρ k else 0, fun j x hx => ?_, fun k hk => ?_, h3.trans (hf.to_below (fun k hk e => by have := (h2 k (by omega)).1; omega) h4), Nat.le_trans h4 hf.size⟩⟩
  · by_cases hj : j < ts.length
    · have e : (fun k => ρ k = j + 1) = (fun k => (if w.heap.size ≤ k ∧ k < w'.heap.size then ts.length + 1 else if ρ k ≤ ts.length then ρ k else 0) = j + 1) := by
        funext k
        apply propext
        by_cases hk : w.heap.size ≤ k ∧ k < w'.heap.size
        · rw [if_pos hk]
          exact ⟨fun h => by have := (h2 k (by omega)).2; omega, fun h => by omega⟩
        · rw [if_neg hk]
          split
          · exact Iff.rfl
          · exact ⟨fun h => by omega, fun h => by omega⟩
      rw [List.getElem?_append_left (by simpa using hj)] at hx
      rw [← e]
      by_cases hij : i = j
      · subst hij
        rw [List.getElem?_set_self hil] at hx
        injection hx with hx
        subst hx
        exact ht'
      · rw [List.getElem?_set_ne hij] at hx
        exact x.fr (h1 j x hx) hf (fun k hk e => by omega) (fun _ h => h) (fun k hk => by have := (h2 k (by omega)).2; have := hf.size; omega)
    · rw [List.getElem?_append_right (by simpa using hj)] at hx
      have hz : j - (ts.set i t').length = 0 := by
        have := (List.getElem?_eq_some_iff.1 hx).1
        simp at this ⊢; omega
      rw [hz] at hx
      injection hx with hx
      subst hx
      have hjl : j = ts.length := by simp at hz; omega
      subst hjl
      have e : New_ w w' = (fun k => (if w.heap.size ≤ k ∧ k < w'.heap.size then ts.length + 1 else if ρ k ≤ ts.length then ρ k else 0) = ts.length + 1) := by
        funext k
        apply propext
        by_cases hk : w.heap.size ≤ k ∧ k < w'.heap.size
        · rw [if_pos hk]; exact ⟨fun _ => rfl, fun _ => hk⟩
        · rw [if_neg hk]
          refine ⟨fun h => absurd h hk, fun h => ?_⟩
          split at h <;> omega
      rw [← e]
      exact hu
  · dsimp only at hk
    by_cases hn : w.heap.size ≤ k ∧ k < w'.heap.size
    · exact ⟨Nat.le_trans h4 hn.1, hn.2⟩
    · rw [if_neg hn] at hk
      split at hk
      · exact ⟨(h2 k hk).1, by have := (h2 k hk).2; have := hf.size; omega⟩
      · exact absurd rfl hk
/-- some of the things, each once, in any order -/
theorem Fam.pick (h : Fam B w0 w ts) (ts' : List Thing) (f : Nat → Nat) (hf : ∀ (i : Nat) (t : Thing), ts'[i]? = some t → ts[f i]? = some t) (hinj : ∀ i j, i < ts'.length → j < ts'.length → f i = f j → i = j) : Fam B w0 w ts' := by
  classical
  obtain ⟨ρ, h1, h2, h3, h4⟩ := h
  refine ⟨fun k => if h : ∃ i, i < ts'.length ∧ ρ k = f i + 1 then h.choose + 1 else 0, fun i t ht => ?_, fun k hk => ?_, h3, h4⟩
  · have hil := (List.getElem?_eq_some_iff.1 ht).1
    have e : (fun k => ρ k = f i + 1) = (fun k => (if h : ∃ i, i < ts'.length ∧ ρ k = f i + 1 then h.choose + 1 else 0) = i + 1) := by
      funext k
      apply propext
      refine ⟨fun hk => ?_, fun hk => ?_⟩
      · have hx : ∃ i, i < ts'.length ∧ ρ k = f i + 1 := ⟨i, hil, hk⟩
        rw [dif_pos hx]
        have := hinj _ _ hx.choose_spec.1 hil (by have := hx.choose_spec.2; omega)
        omega
      · by_cases hx : ∃ i, i < ts'.length ∧ ρ k = f i + 1
        · rw [dif_pos hx] at hk
          have := hx.choose_spec.2
          rw [show hx.choose = i by omega] at this
          exact this
        · rw [dif_neg hx] at hk; omega
    rw [← e]
    exact h1 (f i) t (hf i t ht)
  · dsimp only at hk
    by_cases hx : ∃ i, i < ts'.length ∧ ρ k = f i + 1
    · obtain ⟨i, _, hi⟩ := hx
      exact h2 k (by omega)
    · rw [dif_neg hx] at hk; exact absurd rfl hk
theorem Fam.mid {a b c : Thing} (h : Fam B w0 w (ts ++ [a, c, b])) : Fam B w0 w (ts ++ [a, b, c]) := by
  refine h.pick _ (fun i => if i = ts.length + 1 then ts.length + 2 else if i = ts.length + 2 then ts.length + 1 else i) (fun i t ht => ?_) (fun i j _ _ e => ?_)
  · by_cases hi : i < ts.length
    · rw [if_neg (by omega), if_neg (by omega)]
      rw [List.getElem?_append_left hi] at ht ⊢
      exact ht
    · obtain ⟨k, rfl⟩ : ∃ k, i = ts.length + k := ⟨i - ts.length, by omega⟩
      rw [get_at] at ht
      have hk := (List.getElem?_eq_some_iff.1 ht).1
      simp only [List.length_cons, List.length_nil] at hk
      obtain rfl | rfl | rfl : k = 0 ∨ k = 1 ∨ k = 2 := by omega
      · rw [if_neg (by omega), if_neg (by omega), get_at]; exact ht
      · rw [if_pos rfl, get_at]; exact ht
      · rw [if_neg (by omega), if_pos rfl, get_at]; exact ht
  · split at e <;> split at e <;> (try split at e) <;> (try split at e) <;> omega
theorem Fam.rot {a b c : Thing} (h : Fam B w0 w (ts ++ [c, a, b])) : Fam B w0 w (ts ++ [a, b, c]) := by
  refine h.pick _ (fun i => if i < ts.length then i else if i = ts.length + 2 then ts.length else i + 1) (fun i t ht => ?_) (fun i j _ _ e => ?_)
  · by_cases hi : i < ts.length
    · rw [if_pos hi]
      rw [List.getElem?_append_left hi] at ht ⊢
      exact ht
    · obtain ⟨k, rfl⟩ : ∃ k, i = ts.length + k := ⟨i - ts.length, by omega⟩
      rw [get_at] at ht
      have hk := (List.getElem?_eq_some_iff.1 ht).1
      simp only [List.length_cons, List.length_nil] at hk
      obtain rfl | rfl | rfl : k = 0 ∨ k = 1 ∨ k = 2 := by omega
      · rw [if_neg (by omega), if_neg (by omega), Nat.add_assoc, get_at]; exact ht
      · rw [if_neg (by omega), if_neg (by omega), Nat.add_assoc, get_at]; exact ht
      · rw [if_neg (by omega), if_pos rfl, show ts.length = ts.length + 0 from rfl, get_at]; exact ht
  · split at e <;> split at e <;> (try split at e) <;> (try split at e) <;> omega
theorem Fam.midL {a b c : Thing} (h : Fam B w0 w (ts ++ (L ++ [a, c, b]))) : Fam B w0 w (ts ++ (L ++ [a, b, c])) := by
  rw [← List.append_assoc] at h ⊢
  exact h.mid
theorem Fam.rotL {a b c : Thing} (h : Fam B w0 w (ts ++ (L ++ [c, a, b]))) : Fam B w0 w (ts ++ (L ++ [a, b, c])) := by
  rw [← List.append_assoc] at h ⊢
  exact h.rot
theorem Fam.storeL (h : Fam B w0 w (ts ++ L)) (k : Nat) {g : Nat} {t : TypeId} {cs : Array Value} (hk : L[k]? = some (blkT g (.cells cs t (0, 0)))) (j : Nat) (v : Value) : Fam B w0 (w.setCell ⟨g, j, none⟩ v) (ts ++ L.set k (blkT g (.cells (cs.setIfInBounds j v) t (0, 0)))) := by
  have := h.store (i := ts.length + k) (j := j) (by rw [get_at]; exact hk) v
  rw [set_at] at this
  exact this
/-- those in the middle are let go -/
theorem Fam.tail {M : List Thing} (h : Fam B w0 w (ts ++ (L ++ M))) : Fam B w0 w (ts ++ M) := by
  refine h.pick _ (fun i => if i < ts.length then i else i + L.length) (fun i t ht => ?_) (fun i j _ _ e => ?_)
  · by_cases hi : i < ts.length
    · rw [if_pos hi]
      rw [List.getElem?_append_left hi] at ht ⊢
      exact ht
    · obtain ⟨k, rfl⟩ : ∃ k, i = ts.length + k := ⟨i - ts.length, by omega⟩
      rw [get_at] at ht
      rw [if_neg (by omega), Nat.add_assoc, get_at, Nat.add_comm k, get_at]
      exact ht
  · split at e <;> split at e <;> omega
theorem Fam.tail2 {M N : List Thing} (h : Fam B w0 w (ts ++ (L ++ (M ++ N)))) : Fam B w0 w (ts ++ M) := by
  have h2 := h.tail
  rw [← List.append_assoc] at h2
  exact h2.back
end
end Go.Proofs.Ytcadacljacbipaa
