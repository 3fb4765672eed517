/- Slices of bytes that a call owns: append, reading, writing, turning into a string. -/
import Derived.Test.YtkklonldplekcaaLib
import Derived.Test.YtkklonldplekcaaRows
import Derived.Laws.AppendOwnNone
import Derived.Deep.RegionLaw
namespace Go.Proofs.Ytkklonldplekcaa
open Go.RowKit

/-- a slice of bytes in a block of the call's own -/
def OwnB (w : World) (base : Nat) (v : Value) (l : List UInt8) : Prop := w.ownsRow base 5 1 v l.length (l.map B)
theorem infoB : (Try.prog.info? 5).map (fun i => (i.zero, i.size, i.bytes)) = some (some (.int .u8 0), 1, 1) := by kernel_rfl
/-- owned cells read -/
theorem own_sl {w : World} {base e n : Nat} {v : Value} {f : Nat → Value} (h : w.ownsRow base e 1 v n ((List.range n).map f)) : Sl w v n f := by
  obtain ⟨_, ⟨rfl, rfl⟩ | ⟨g, cap, cur, rfl, hb, hg, hn, hm, hs, hc⟩⟩ := h
  · exact Sl.nil _ _
  · refine ⟨_, cap, rfl, hn, (fun h => by cases h), fun _ => ⟨g, 0, rfl, fun i hi => ?_⟩⟩
    rw [Nat.zero_add, blk_cell hg, ← Array.getElem?_toList]
    have : (cur.toList.take (n * 1))[i]? = some (f i) := by rw [hc]; simp [hi]
    rw [List.getElem?_take_of_lt (by omega)] at this
    exact this
theorem map_range (l : List UInt8) : l.map B = (List.range l.length).map fun i => B (l.getD i 0) := by
  apply List.ext_getElem
  · simp
  · intro i h1 h2
    simp at h1
    simp [h1]
theorem OwnB.sl {w : World} {base : Nat} {v : Value} {l : List UInt8} (h : OwnB w base v l) : SlB w v l := by
  unfold OwnB at h
  rw [map_range] at h
  exact own_sl h
theorem OwnB.nil (w : World) (base : Nat) : OwnB w base (.slice none 0 0) [] := World.ownsRow_nil _ _ _ _
theorem OwnB.alloc {w : World} {base : Nat} {v : Value} {l : List UInt8} (h : OwnB w base v l) (o : Obj) : OwnB (w.alloc o) base v l := World.ownsRow.alloc h o
theorem own_block {w w1 : World} {base e s n : Nat} {v : Value} {xs : List Value} (h : w.ownsRow base e s v n xs) (hm : ∀ k, v.ownBlock = some k → w1.heap[k]? = w.heap[k]?) : w1.ownsRow base e s v n xs := by
  obtain ⟨h1, h2⟩ := h
  refine ⟨h1, ?_⟩
  rcases h2 with h2 | ⟨g, cap, cur, rfl, hb, hg, r⟩
  · exact Or.inl h2
  · exact Or.inr ⟨g, cap, cur, rfl, hb, (hm g rfl).trans hg, r⟩
theorem OwnB.below {w w1 : World} {base : Nat} {v : Value} {l : List UInt8} (h : OwnB w base v l) (hb : Below w.heap.size w w1) : OwnB w1 base v l :=
  own_block h fun k hk => hb.block k (World.ownsRow.lt h k hk).2
theorem OwnB.drew {w : World} {base : Nat} {v : Value} {l : List UInt8} (h : OwnB w base v l) : OwnB w.drew base v l := h.below ⟨rfl, rfl, rfl, Nat.le_refl _, fun _ _ => rfl⟩
theorem own_base {w : World} {base base' e s n : Nat} {v : Value} {xs : List Value} (h : w.ownsRow base e s v n xs) (hb : base' ≤ base) : w.ownsRow base' e s v n xs := by
  obtain ⟨h1, h2 | ⟨g, cap, cur, hv, hg, r⟩⟩ := h
  · exact ⟨h1, .inl h2⟩
  · exact ⟨h1, .inr ⟨g, cap, cur, hv, Nat.le_trans hb hg, r⟩⟩

set_option maxRecDepth 100000 in
/-- one-cell elements put behind an owned row: from any slice -/
theorem wpList_app {w : World} {ops : Array Oper} {rest : List Oper} {o : Oper} {a : Act} {Q : Exit → Act → World → Prop} {e t : TypeId} {z : Value} {bytes : Nat} (hgd : o.guard = none) (s x : Operand)
    (ho : o.op = .call { callee := .builtin .append, args := #[s, x], argTypes := #[t, t] })
    (ht : Try.prog.underlying t = some (.slice e)) (hinfo : (Try.prog.info? e).map (fun i => (i.zero, i.size, i.bytes)) = some (some z, 1, bytes)) (hz : z.cells.size = 1)
    (base : Nat) (v u : Value) (n m : Nat) (xs : List Value) (f : Nat → Value) (hs : a.eval s = v) (hx : a.eval x = u) (hown : w.ownsRow base e 1 v n xs) (hu : Sl w u m f) (h1 : ∀ i, i < m → (f i).oneCell' = true)
    (hbytes : (n + m) * bytes ≤ 140737488355328) (hlen : n + m ≤ maxLen) (hbase : base ≤ w.heap.size)
    (h : ∀ v' w', w'.ownsRow base e 1 v' (n + m) (xs ++ (List.range m).map f) → w.grownBy w' v.ownBlock → wpList Try.prog ops Q rest (a.put o.dst v') w') : wpList Try.prog ops Q (o :: rest) a w := by
  obtain ⟨i, hi, hz0, hz1, hz2⟩ := info_parts hinfo
  obtain ⟨A, c, rfl, hc, hnil, hA⟩ := hu
  cases A with
  | none =>
    have hc0 := hnil rfl
    obtain rfl : m = 0 := by omega
    subst hc0
    refine wpList_append_own_none hgd s x t ho base e i 1 ht hi v n xs hs hown hx (h v w ?_ ⟨rfl, rfl, rfl, Nat.le_refl _, fun _ _ _ => rfl⟩)
    simpa using hown
  | some ad =>
    refine wpList_append_own w hgd s x t ho base e i z 1 bytes ht hi hz0 hz1 hz2 hz (by decide) v n xs hs hown ad m c ((List.range m).map f) hx (by simp) (fun j u hj => ?_) (fun u hu => ?_) hlen hbytes hbase (fun v' w' g1 g2 _ => h v' w' g1 g2)
    · have hj' : j < m := by
        rcases Nat.lt_or_ge j m with h | h
        · exact h
        · rw [List.getElem?_eq_none (by simpa using h)] at hj; cases hj
      obtain ⟨b, off, e1, hcell⟩ := hA (by omega)
      injection e1 with e1
      subst e1
      have := hcell j hj'
      have e2 : (⟨b, off, none⟩ : Addr).add j = ⟨b, off + j, none⟩ := by
        unfold Addr.add; split <;> simp_all
      rw [e2, this]
      simp [hj'] at hj
      rw [hj]
    · obtain ⟨j, hj, rfl⟩ := List.mem_map.1 hu
      exact h1 j (List.mem_range.1 hj)
theorem wpList_appB {w : World} {ops : Array Oper} {rest : List Oper} {o : Oper} {a : Act} {Q : Exit → Act → World → Prop} (hgd : o.guard = none) (s x : Operand)
    (ho : o.op = .call { callee := .builtin .append, args := #[s, x], argTypes := #[22, 22] })
    (base : Nat) (v u : Value) (l k : List UInt8) (hs : a.eval s = v) (hx : a.eval x = u) (hown : OwnB w base v l) (hu : SlB w u k) (hlen : l.length + k.length ≤ 140737488355328) (hbase : base ≤ w.heap.size)
    (h : ∀ v' w', OwnB w' base v' (l ++ k) → w.grownBy w' v.ownBlock → wpList Try.prog ops Q rest (a.put o.dst v') w') : wpList Try.prog ops Q (o :: rest) a w :=
  wpList_app hgd s x ho Try.underlying22 infoB rfl base v u l.length k.length (l.map B) _ hs hx hown hu (fun _ _ => rfl) (by omega) (by unfold maxLen; omega) hbase
    fun v' w' g1 g2 => h v' w' (by unfold OwnB; rw [List.length_append, List.map_append]; rw [← map_range] at g1; exact g1) g2
set_option maxRecDepth 100000 in
/-- the same at a step of a region that draws its order: for 'go_region_law (refine step_app ..)' -/
theorem step_app {w : World} {ops : Array Oper} {o : Oper} {a : Act} {K : Act → World → Prop} {Q : Exit → Act → World → Prop} {E : Prop} {e t : TypeId} {z : Value} {bytes : Nat} (hgd : o.guard = none) (s x : Operand)
    (ho : o.op = .call { callee := .builtin .append, args := #[s, x], argTypes := #[t, t] })
    (ht : Try.prog.underlying t = some (.slice e)) (hinfo : (Try.prog.info? e).map (fun i => (i.zero, i.size, i.bytes)) = some (some z, 1, bytes)) (hz : z.cells.size = 1)
    (base : Nat) (v u : Value) (n m : Nat) (xs : List Value) (f : Nat → Value) (hs : a.eval s = v) (hx : a.eval x = u) (hown : w.ownsRow base e 1 v n xs) (hu : Sl w u m f) (h1 : ∀ i, i < m → (f i).oneCell' = true)
    (hbytes : (n + m) * bytes ≤ 140737488355328) (hlen : n + m ≤ maxLen) (hbase : base ≤ w.heap.size)
    (h : ∀ v' w', w'.ownsRow base e 1 v' (n + m) (xs ++ (List.range m).map f) → w.grownBy w' v.ownBlock → K (a.put o.dst v') w') :
    if Region.wanted o (yielded ops a.tmps) = true then Oper.wp Try.prog o a w K Q else E := by
  have hw : Region.wanted o (yielded ops a.tmps) = true := by simp [Region.wanted, hgd]
  rw [if_pos hw]
  obtain ⟨i, hi, hz0, hz1, hz2⟩ := info_parts hinfo
  obtain ⟨A, c, rfl, hc, hnil, hA⟩ := hu
  cases A with
  | none =>
    have hc0 := hnil rfl
    obtain rfl : m = 0 := by omega
    subst hc0
    have hrun := run_append_owned_none (P := Try.prog) (w := w) base t o.type e i 1 ht hi v n xs hown
    unfold Oper.wp
    simp [execOp, ho, resolve, invoke, builtin, hs, hx, hrun, Result.andThen]
    exact h v w (by simpa using hown) ⟨rfl, rfl, rfl, Nat.le_refl _, fun _ _ _ => rfl⟩
  | some ad =>
    obtain ⟨v', w', hrun, r1, r2, _⟩ := run_append_own (P := Try.prog) w base t o.type e i z 1 bytes ht hi hz0 hz1 hz2 hz (by decide) v n xs hown ad m c ((List.range m).map f) (by simp) (fun j u hj => by
      have hj' : j < m := by
        rcases Nat.lt_or_ge j m with h | h
        · exact h
        · rw [List.getElem?_eq_none (by simpa using h)] at hj; cases hj
      obtain ⟨b, off, e1, hcell⟩ := hA (by omega)
      injection e1 with e1
      subst e1
      have := hcell j hj'
      have e2 : (⟨b, off, none⟩ : Addr).add j = ⟨b, off + j, none⟩ := by
        unfold Addr.add; split <;> simp_all
      rw [e2, this]
      simp [hj'] at hj
      rw [hj]) (fun u hu => by
      obtain ⟨j, hj, rfl⟩ := List.mem_map.1 hu
      exact h1 j (List.mem_range.1 hj)) hlen hbytes hbase
    unfold Oper.wp
    simp [execOp, ho, resolve, invoke, builtin, hs, hx, hrun, Result.andThen]
    exact h v' w' r1 r2
theorem step_appB {w : World} {ops : Array Oper} {o : Oper} {a : Act} {K : Act → World → Prop} {Q : Exit → Act → World → Prop} {E : Prop} (hgd : o.guard = none) (s x : Operand)
    (ho : o.op = .call { callee := .builtin .append, args := #[s, x], argTypes := #[22, 22] })
    (base : Nat) (v u : Value) (l k : List UInt8) (hs : a.eval s = v) (hx : a.eval x = u) (hown : OwnB w base v l) (hu : SlB w u k) (hlen : l.length + k.length ≤ 140737488355328) (hbase : base ≤ w.heap.size)
    (h : ∀ v' w', OwnB w' base v' (l ++ k) → w.grownBy w' v.ownBlock → K (a.put o.dst v') w') : if Region.wanted o (yielded ops a.tmps) = true then Oper.wp Try.prog o a w K Q else E :=
  step_app hgd s x ho Try.underlying22 infoB rfl base v u l.length k.length (l.map B) _ hs hx hown hu (fun _ _ => rfl) (by omega) (by unfold maxLen; omega) hbase
    fun v' w' g1 g2 => h v' w' (by unfold OwnB; rw [List.length_append, List.map_append]; rw [← map_range] at g1; exact g1) g2
/-- a literal of bytes, in a block of its own -/
theorem litB (w : World) (l : List UInt8) : OwnB (w.alloc (.cells (l.map B).toArray 5)) w.heap.size (.slice (some ⟨w.heap.size, 0, none⟩) l.length l.length) l ∨ l.length > maxLen := by
  rcases Nat.lt_or_ge maxLen l.length with h | h
  · exact .inr h
  · refine .inl ⟨by simp, .inr ⟨w.heap.size, l.length, (l.map B).toArray, rfl, Nat.le_refl _, heap_alloc_new _ _, Nat.le_refl _, h, by simp, by simp [List.take_of_length_le]⟩⟩

theorem lit0 (w : World) : OwnB (w.alloc (.cells #[] 5)) w.heap.size (.slice (some ⟨w.heap.size, 0, none⟩) 0 0) [] := by
  rcases litB w [] with h | h
  · exact h
  · exact absurd h (by simp)
/-- bytes as a string -/
def str (l : List UInt8) : ByteArray := ⟨l.toArray⟩
set_option maxRecDepth 100000 in
theorem conv_str {w : World} {v : Value} {l : List UInt8} (h : SlB w v l) : (convert 22 9 v).run Try.prog w = .ok (.string (str l)) w := by
  obtain ⟨A, c, rfl, hc, hnil, hA⟩ := h
  cases A with
  | none =>
    have := hnil rfl
    have hl : l = [] := List.length_eq_zero_iff.1 (by omega)
    subst hl
    exact run_convert_bytes_nil w 22 5 Try.underlying22 Try.underlying5 _ _ _ Try.underlying9
  | some ad =>
    rcases Nat.eq_zero_or_pos l.length with h0 | h0
    · have hl : l = [] := List.length_eq_zero_iff.1 h0
      subst hl
      have := run_bytesToString (P := Try.prog) w ad 0 c [] (by simp [loadCells]; rfl)
      rw [run_convert_bytes_string w _ _ 5 _ _ _ Try.underlying22 Try.underlying5 Try.underlying9]
      exact this
    · obtain ⟨b, off, e1, hcell⟩ := hA h0
      injection e1 with e1
      subst e1
      have := run_convert_bytes_arg (P := Try.prog) w 22 5 Try.underlying22 Try.underlying5 b off l.length c (l.map fun b => (b.toNat : Int)) (by simp) (fun i hi => by rw [hcell i hi]; simp [hi]) _ Try.underlying9
      rw [this]
      congr 2
      unfold strOfNums str
      simp [Function.comp_def]
theorem str_inj {k l : List UInt8} (h : str k = str l) : k = l := by
  unfold str at h; injection h with h; exact Array.toList_inj.2 h |> fun h => by simpa using h
theorem OwnB.grown {B base : Nat} {w0 w w' : World} {v : Value} {l : List UInt8} (h : Below B w0 w) (ho : OwnB w base v l) (hB : B ≤ base) (hs : B ≤ w.heap.size) (hg : w.grownBy w' v.ownBlock) : Below B w0 w' :=
  h.grown hg hs fun k hk => Nat.le_trans hB (World.ownsRow.lt ho k hk).1
theorem OwnB.some_ {w : World} {base : Nat} {v : Value} {l : List UInt8} (h : OwnB w base v l) (hl : 0 < l.length) : ∃ g cap, v = .slice (some ⟨g, 0, none⟩) l.length cap ∧ base ≤ g ∧ l.length ≤ cap ∧ cap ≤ maxLen := by
  obtain ⟨_, ⟨_, h0⟩ | ⟨g, cap, cur, rfl, hg, _, hn, hm, _⟩⟩ := h
  · omega
  · exact ⟨g, cap, rfl, hg, hn, hm⟩
theorem lit_sl (w : World) (l : List UInt8) (_ : l.length ≤ 9223372036854775807) {fr : Nat × Nat} : SlB (w.alloc (.cells (l.map B).toArray 5 fr)) (.slice (some ⟨w.heap.size, 0, none⟩) l.length l.length) l := by
  refine ⟨_, _, rfl, Nat.le_refl _, (fun h => by cases h), fun _ => ⟨w.heap.size, 0, rfl, fun i hi => ?_⟩⟩
  rw [cell_of_row _ _ _ _ _ _ (heap_alloc_new _ _)]
  simp [hi]

/-- a copy with two marked bytes of spare room behind it -/
def Wide (w : World) (base : Nat) (v : Value) (l : List UInt8) : Prop :=
  ∃ g cap, v = .slice (some ⟨g, 0, none⟩) l.length cap ∧ l.length + 2 ≤ cap ∧ OwnB w base (.slice (some ⟨g, 0, none⟩) (l.length + 2) cap) (l ++ [0xc1, 0xc2])
theorem OwnB.at_ {w : World} {base : Nat} {g n cap : Nat} {l : List UInt8} (h : OwnB w base (.slice (some ⟨g, 0, none⟩) n cap) l) (i : Nat) (hi : i < l.length) : w.cell? ⟨g, i, none⟩ = some (B (l.getD i 0)) ∧ w.frozen? ⟨g, i, none⟩ = false := by
  have hn : n = l.length := by
    obtain ⟨_, ⟨h, _⟩ | ⟨g, cap, cur, h, _⟩⟩ := h
    · cases h
    · injection h
  subst hn
  refine ⟨?_, World.ownsRow.frozenAt h i⟩
  rw [World.ownsRow.cellAt h i (by omega)]
  simp [hi]
theorem Wide.sl {w : World} {base : Nat} {v : Value} {l : List UInt8} (h : Wide w base v l) : SlB w v l := by
  obtain ⟨g, cap, rfl, hc, ho⟩ := h
  refine ⟨_, cap, rfl, by omega, (fun h => by cases h), fun _ => ⟨g, 0, rfl, fun i hi => ?_⟩⟩
  have := (ho.at_ i (by simp; omega)).1
  rw [Nat.zero_add, this]
  simp [List.getElem?_append_left hi, hi]
theorem OwnB.set_ {w : World} {base : Nat} {g n cap : Nat} {l : List UInt8} (h : OwnB w base (.slice (some ⟨g, 0, none⟩) n cap) l) (i : Nat) (b : UInt8) : OwnB (w.setCell ⟨g, i, none⟩ (B b)) base (.slice (some ⟨g, 0, none⟩) n cap) (l.set i b) := by
  have hn : n = l.length := by
    obtain ⟨_, ⟨h, _⟩ | ⟨g, cap, cur, h, _⟩⟩ := h
    · cases h
    · injection h
  subst hn
  have := World.ownsRow.stored h i (B b)
  unfold OwnB
  rw [List.length_set, List.map_set]
  exact this.1
theorem OwnB.base_le {w : World} {base : Nat} {g n cap : Nat} {l : List UInt8} (h : OwnB w base (.slice (some ⟨g, 0, none⟩) n cap) l) : base ≤ g ∧ n = l.length := by
  obtain ⟨_, ⟨h, _⟩ | ⟨g, cap, cur, h, hb, _⟩⟩ := h
  · cases h
  · injection h with h1 h2; injection h1 with h1; injection h1 with h1; subst h1; exact ⟨hb, h2⟩
theorem loop_toList (bs : ByteArray) : ∀ (n i : Nat) (r : List UInt8), bs.size - i = n → ByteArray.toList.loop bs i r = r.reverse ++ bs.data.toList.drop i := by
  intro n
  induction n with
  | zero =>
    intro i r h
    unfold ByteArray.toList.loop
    have : ¬ i < bs.size := by omega
    rw [if_neg this, List.drop_eq_nil_of_le (by show bs.data.toList.length ≤ i; rw [Array.length_toList]; exact Nat.le_of_not_lt this)]
    simp
  | succ n ih =>
    intro i r h
    unfold ByteArray.toList.loop
    have hi : i < bs.size := by omega
    rw [if_pos hi, ih (i+1) _ (by omega)]
    have hi' : i < bs.data.toList.length := by rw [Array.length_toList]; exact hi
    rw [List.drop_eq_getElem_cons hi']
    simp only [List.reverse_cons, List.append_assoc, List.cons_append, List.nil_append]
    congr 2
    show bs.get! i = _
    have hs : i < bs.data.size := hi
    simp only [ByteArray.get!, Array.getElem_toList]
    exact getElem!_pos bs.data i hs

theorem toList_eq (bs : ByteArray) : bs.toList = bs.data.toList := by
  unfold ByteArray.toList
  rw [loop_toList bs _ 0 [] rfl]; simp
theorem str_toList (l : List UInt8) : (str l).toList = l := by rw [toList_eq]; simp [str]
theorem make_bytes (w : World) (n : Nat) (hn : n ≤ 281474976710656) : ∃ w', (Instr.makeSlice 22 (.int .i64 (n : Int)) (.int .i64 (n : Int))).run Try.prog w = .ok (.slice (some ⟨w.heap.size, 0, none⟩) n n) w' ∧
    OwnB w' w.heap.size (.slice (some ⟨w.heap.size, 0, none⟩) n n) (List.replicate n 0) ∧ Below w.heap.size w w' := by
  obtain ⟨i, hi, hz0, hz1, hz2⟩ := info_parts infoB
  obtain ⟨w', h1, h2, h3⟩ := run_make_full (P := Try.prog) w w.heap.size 22 5 i (.int .u8 0) 1 Try.underlying22 hi hz0 hz1 .i64 .i64 n (by rw [hz2]; omega) (by unfold maxLen; omega) (Nat.le_refl _)
  refine ⟨w', h1, ?_, (Below.refl _ _).grown h3 (Nat.le_refl _) (fun k hk => by cases hk)⟩
  unfold OwnB
  rw [List.length_replicate, List.map_replicate]
  rw [Nat.mul_one] at h2
  rw [show (Value.int .u8 0).cells = #[.int .u8 0] from rfl, toList_madeCells_one] at h2
  exact h2
theorem SlB.form {w : World} {v : Value} {l : List UInt8} (h : SlB w v l) : ∃ A c, v = .slice A l.length c := by obtain ⟨A, c, rfl, _⟩ := h; exact ⟨A, c, rfl⟩
theorem OwnB.form {w : World} {base : Nat} {v : Value} {l : List UInt8} (h : OwnB w base v l) : ∃ A c, v = .slice A l.length c := h.sl.form
theorem SlB.take_ {w : World} {A : Option Addr} {n c : Nat} {l : List UInt8} (h : SlB w (.slice A n c) l) (k : Nat) (hk : k ≤ l.length) (hc : k ≤ c) : SlB w (.slice A k c) (l.take k) := by
  obtain ⟨A', c', e, h1, h2, h3⟩ := h
  injection e with e1 e2 e3
  subst e1 e2 e3
  refine ⟨A, c, by rw [List.length_take, Nat.min_eq_left hk], by rw [List.length_take]; omega, h2, fun h0 => ?_⟩
  rw [List.length_take, Nat.min_eq_left hk] at h0
  obtain ⟨b, off, e, hc⟩ := h3 (by omega)
  refine ⟨b, off, e, fun i hi => ?_⟩
  rw [List.length_take, Nat.min_eq_left hk] at hi
  rw [hc i (by omega)]
  simp [List.getElem?_take_of_lt hi]
theorem add_zero_ (a : Option Addr) (s : Nat) : (a.map fun p => p.add (0 * s)) = a := by
  cases a with
  | none => rfl
  | some p => simp [Addr.add]
/-- x[:k], whatever x's place is -/
theorem wpList_hi {w : World} {ops : Array Oper} {rest : List Oper} {o : Oper} {a : Act} {Q : Exit → Act → World → Prop} (hg : o.guard = none) (t : TypeId) (x hi : Operand) (ho : o.op = .slice t x none (some hi) none)
    (ht : Try.prog.underlying t = some (.slice (Try.prog.elem t))) (s : Nat) (hs : (sizeOf (Try.prog.elem t)).run Try.prog w = .ok s w) (A : Option Addr) (n c : Nat) (k : Int) (hx : a.eval x = .slice A n c) (hh : a.eval hi = .int .i64 k) (h0 : 0 ≤ k) (hk : k ≤ c)
    (h : wpList Try.prog ops Q rest (a.put o.dst (.slice A k.toNat c)) w) : wpList Try.prog ops Q (o :: rest) a w :=
  wpList_plain hg fun _ hK => by
    unfold Oper.wp execOp
    simp only [ho, Option.map_none, Option.map_some, hx, hh, Sem.run_bind, run_sliceAt_slice _ _ _ _ _ _ ht, run_slice_h w t A n c ht .i64 k h0 hk, hs, Result.andThen_ok, sliced]
    rw [show (if c = 0 then A else A.map fun p => p.add (0 * s)) = A by split <;> simp only [add_zero_]]
    exact hK _ _ h
theorem size_bytes (w : World) : (sizeOf (Try.prog.elem 22)).run Try.prog w = .ok 1 w := by go_simp
/-- the smaller of two ints -/
theorem wpList_min {w : World} {ops : Array Oper} {rest : List Oper} {o : Oper} {a : Act} {Q : Exit → Act → World → Prop} (hg : o.guard = none) (x y : Operand) (t : TypeId)
    (ho : o.op = .call { callee := .builtin .min, args := #[x, y], argTypes := #[t, t] }) (p q r : Int) (hx : a.eval x = .int .i64 p) (hy : a.eval y = .int .i64 q) (hr : (if q < p then q else p) = r)
    (h : wpList Try.prog ops Q rest (a.put o.dst (.int .i64 r)) w) : wpList Try.prog ops Q (o :: rest) a w :=
  wpList_plain hg fun _ hK => by
    have e : (execOp a.eval o).run Try.prog w = .ok (.value (.int .i64 r)) w := by
      generalize a.eval = ρ at hx hy
      unfold execOp
      simp only [ho]
      go_simp
    unfold Oper.wp
    rw [e]
    exact hK _ _ h
end Go.Proofs.Ytkklonldplekcaa
