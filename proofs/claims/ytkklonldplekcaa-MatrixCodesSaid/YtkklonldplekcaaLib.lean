/- Words of this session: what a slice reads as; facts hidden from the walk. -/
import Derived.WalkKit
import Derived.WalkSpells
import Derived.WalkLawsBesides
import Derived.Deep.QuietTactic
import Derived.BigQuiet
import Derived.Deep.DeepCutAuto
import Derived.Deep.CutBlock
namespace Go.Proofs.Ytkklonldplekcaa
open Go.RowKit

theorem hid {p : Prop} (h : p) : Hid p := h
theorem int_of {k : IntKind} {a b : Int} (h : a = b) : Value.int k a = Value.int k b := by rw [h]

theorem blk_lt {w : World} {g : Nat} {o : Obj} (h : w.heap[g]? = some o) : g < w.heap.size := (Array.getElem?_eq_some_iff.1 h).1
theorem blk_cell {w : World} {g : Nat} {t : TypeId} {cs : Array Value} (h : w.heap[g]? = some (.cells cs t (0, 0))) (i : Nat) : w.cell? ⟨g, i, none⟩ = cs[i]? := cell_of_row w g i cs t (0, 0) h
theorem blk_frozen {w : World} {g : Nat} {t : TypeId} {cs : Array Value} (h : w.heap[g]? = some (.cells cs t (0, 0))) (i : Nat) : w.frozen? ⟨g, i, none⟩ = false := frozen_of_row w g i cs t h
theorem blk_set {w : World} {g : Nat} {t : TypeId} {cs : Array Value} (h : w.heap[g]? = some (.cells cs t (0, 0))) (i : Nat) (v : Value) : (w.setCell ⟨g, i, none⟩ v).heap[g]? = some (.cells (cs.setIfInBounds i v) t (0, 0)) := heap_setCell_same w g i cs t v h
theorem blk_keep {B : Nat} {w w' : World} (hb : Below B w w') {g : Nat} {o : Obj} (h : w.heap[g]? = some o) (hg : g < B) : w'.heap[g]? = some o := (hb.block g hg).trans h
theorem below_alloc {B : Nat} {w w1 : World} (h : Below B w w1) (hB : B ≤ w1.heap.size) (o : Obj) : Below B w (w1.alloc o) := h.alloc hB o
theorem below_set {B : Nat} {w w1 : World} (h : Below B w w1) {g : Nat} (hg : B ≤ g) (i : Nat) (v : Value) : Below B w (w1.setCell ⟨g, i, none⟩ v) := h.setCell hg v
theorem below_row {B g : Nat} {w0 w : World} (hb : Below B w0 w) (hBg : B ≤ g) (cs : Array Value) : Below B w0 (w.setRow g cs) :=
  hb.trans ⟨rfl, rfl, rfl, by simp, fun k hk => setRow_other _ _ _ _ (by omega)⟩
theorem below_then {w w1 w2 : World} (h : Below w.heap.size w w1) (k : Below w1.heap.size w1 w2) : Below w.heap.size w w2 := h.trans (k.mono h.size)
theorem below_drewN {B : Nat} {w w1 : World} (h : Below B w w1) (n : Nat) : Below B w (w1.drewN n) := ⟨h.os, h.tape, h.output, h.size, h.block⟩
theorem Calls.seen {P : Program} {f : FuncId} {args : Array Value} {w : World} {R : Ending → World → Prop} (Φ : World → Prop) (h : Φ w) (k : ∀ w1, Hid (Φ w1) → Calls P f args w1 R) : Calls P f args w R := k w h
theorem Code.seen {P : Program} {c : Code} {Q : Exit → Act → World → Prop} {a : Act} {w : World} (Φ : World → Prop) (h : Φ w) (k : ∀ w1, Hid (Φ w1) → c.wp P Q a w1) : c.wp P Q a w := k w h
/-- n one-cell elements -/
def arr (n : Nat) (f : Nat → Value) : Array Value := ((List.range n).map f).toArray
theorem arr_size (n : Nat) (f : Nat → Value) : (arr n f).size = n := by simp [arr]
theorem arr_get (n : Nat) (f : Nat → Value) (i : Nat) (h : i < n) : (arr n f)[i]? = some (f i) := by simp [arr, h]
theorem arr_one (n : Nat) (f : Nat → Value) (h : ∀ i, (f i).oneCell' = true) : (arr n f).all (·.oneCell') = true := by
  simp [arr, h]
theorem arr_congr {n : Nat} {f f' : Nat → Value} (h : ∀ i, i < n → f i = f' i) : arr n f = arr n f' := by
  unfold arr; congr 1; exact List.map_congr_left fun i hi => h i (List.mem_range.1 hi)
theorem arr_set (n : Nat) (f : Nat → Value) (i : Nat) (v : Value) : (arr n f).setIfInBounds i v = arr n (fun j => if j = i then v else f j) := by
  apply Array.ext
  · simp [arr]
  · intro j h1 h2
    simp [arr] at *
    by_cases h : j = i
    · subst h; simp
    · simp [h, Ne.symm h]

/-- a slice of n one-cell elements; cell i holds f i -/
def Sl (w : World) (v : Value) (n : Nat) (f : Nat → Value) : Prop :=
  ∃ A c, v = .slice A n c ∧ n ≤ c ∧ (A = none → c = 0) ∧ (0 < n → ∃ b off, A = some ⟨b, off, none⟩ ∧ ∀ i, i < n → w.cell? ⟨b, off + i, none⟩ = some (f i))

theorem Sl.below {w w1 : World} {v : Value} {n : Nat} {f : Nat → Value} (h : Sl w v n f) (hb : Below w.heap.size w w1) : Sl w1 v n f := by
  obtain ⟨A, c, hv, hc, hn, hA⟩ := h
  refine ⟨A, c, hv, hc, hn, fun hn => ?_⟩
  obtain ⟨b, off, e, h⟩ := hA hn
  exact ⟨b, off, e, fun i hi => (hb.cell (World.block_lt_of_cell? w _ (h i hi))).trans (h i hi)⟩
theorem Sl.congr {w : World} {v : Value} {n : Nat} {f g : Nat → Value} (h : Sl w v n f) (hfg : ∀ i, i < n → f i = g i) : Sl w v n g := by
  obtain ⟨A, c, hv, hc, hn, hA⟩ := h
  refine ⟨A, c, hv, hc, hn, fun hn => ?_⟩
  obtain ⟨b, off, e, h⟩ := hA hn
  exact ⟨b, off, e, fun i hi => by rw [h i hi, hfg i hi]⟩
theorem Sl.nil (w : World) (f : Nat → Value) : Sl w (.slice none 0 0) 0 f := ⟨none, 0, rfl, Nat.le_refl _, fun _ => rfl, fun h => absurd h (by omega)⟩

abbrev B (b : UInt8) : Value := .int .u8 (b.toNat : Int)
abbrev W32 (x : BitVec 32) : Value := .int .u32 (x.toNat : Int)
abbrev I64 (n : Int) : Value := .int .i64 n

def SlB (w : World) (v : Value) (l : List UInt8) : Prop := Sl w v l.length fun i => B (l.getD i 0)
def SlBB (w : World) (v : Value) (ll : List (List UInt8)) : Prop := ∃ f, Sl w v ll.length f ∧ ∀ i, i < ll.length → SlB w (f i) (ll.getD i [])
theorem SlB.below {w w1 : World} {v : Value} {l : List UInt8} (h : SlB w v l) (hb : Below w.heap.size w w1) : SlB w1 v l := Sl.below h hb
theorem SlBB.below {w w1 : World} {v : Value} {ll : List (List UInt8)} (h : SlBB w v ll) (hb : Below w.heap.size w w1) : SlBB w1 v ll := by
  obtain ⟨f, h1, h2⟩ := h
  exact ⟨f, h1.below hb, fun i hi => (h2 i hi).below hb⟩

theorem SlB.drewN {w : World} {v : Value} {l : List UInt8} (h : SlB w v l) (n : Nat) : SlB (w.drewN n) v l := h.below (below_drewN (Below.refl _ _) n)
theorem SlB.drew {w : World} {v : Value} {l : List UInt8} (h : SlB w v l) : SlB w.drew v l := h.below ((Below.refl _ _).drew)
theorem SlB.alloc {w : World} {v : Value} {l : List UInt8} (h : SlB w v l) (o : Obj) : SlB (w.alloc o) v l := h.below ((Below.refl _ _).alloc (Nat.le_refl _) o)
theorem SlBB.drew {w : World} {v : Value} {l : List (List UInt8)} (h : SlBB w v l) : SlBB w.drew v l := h.below ((Below.refl _ _).drew)
theorem SlB.cells {w : World} {A : Option Addr} {n c : Nat} {l : List UInt8} (h : SlB w (.slice A n c) l) (hl : 0 < l.length) : ∃ b off, A = some ⟨b, off, none⟩ ∧ ∀ i, i < l.length → w.cell? ⟨b, off + i, none⟩ = some (B (l.getD i 0)) := by
  obtain ⟨A', c', e, _, _, hA⟩ := h
  injection e with e1 e2 e3
  subst e1
  exact hA hl
end Go.Proofs.Ytkklonldplekcaa
