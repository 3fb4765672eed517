/- Lists whose elements are read by a law of their own: structs, numbers. -/
import Derived.Test.YtkklonldplekcaaOpen
namespace Go.Proofs.Ytkklonldplekcaa
open Go.RowKit Go.ChangeShapes Go.WideShapes

/-- a list of elements of sz cells each; each reads as R says -/
def SlR {α : Type} (R : World → List Value → α → Prop) (sz : Nat) (w : World) (v : Value) (l : List α) : Prop :=
  ∃ (A : Option Addr) (c : Nat) (ys : Nat → List Value), v = .slice A l.length c ∧ l.length ≤ c ∧ (A = none → c = 0) ∧ (∀ (i : Nat) (a : α), l[i]? = some a → (ys i).length = sz ∧ R w (ys i) a) ∧
    (0 < l.length → ∃ b off, A = some ⟨b, off, none⟩ ∧ ∀ i, i < l.length → ∀ j, j < sz → w.cell? ⟨b, off + (i * sz + j), none⟩ = (ys i)[j]?)
theorem SlR.below {α : Type} {R : World → List Value → α → Prop} {sz : Nat} {w w' : World} {v : Value} {l : List α} (hR : ∀ ys a, R w ys a → R w' ys a) (h : SlR R sz w v l) (hb : Below w.heap.size w w') : SlR R sz w' v l := by
  obtain ⟨A, c, ys, e, h1, h2, h3, h4⟩ := h
  refine ⟨A, c, ys, e, h1, h2, fun i a hi => ⟨(h3 i a hi).1, hR _ _ (h3 i a hi).2⟩, fun h0 => ?_⟩
  obtain ⟨b, off, eA, hc⟩ := h4 h0
  refine ⟨b, off, eA, fun i hi j hj => ?_⟩
  have hcc := hc i hi j hj
  have hl := (h3 i _ (List.getElem?_eq_getElem hi)).1
  rw [List.getElem?_eq_getElem (by omega)] at hcc
  rw [(hb.cell (World.block_lt_of_cell? w _ hcc)), hcc, List.getElem?_eq_getElem (by omega)]

theorem getD_len_le (ll : List (List UInt8)) (i : Nat) : (ll.getD i []).length ≤ (ll.map List.length).sum := by
  induction ll generalizing i with
  | nil => simp
  | cons a l ih =>
    cases i with
    | zero => simp
    | succ i => have := ih i; simp at this ⊢; omega
section
variable {H : Type} {enc : TypeId × Value → H} {P : Program} {w : World} {spare : Nat → Bool} {held : Bool} {fuel : Nat} {t e : TypeId} {cs : List Value} {x : DataW H × List MemPlace}
theorem op_list {α : Type} (R : World → List Value → α → Prop) (m : α → Nat) (ht : P.underlying t = some (.slice e)) (hc : 0 < P.cellsOf e)
    (hel : ∀ n ys y, DataW.trod enc P w 0 spare held n e ys = some y → ys.length = P.cellsOf e → ∃ a, R w ys a ∧ m a ≤ Rows.uptoBulk y.1)
    (h : DataW.trod enc P w 0 spare held fuel t cs = some x) :
    ∃ (v : Value) (l : List α), cs = [v] ∧ SlR R (P.cellsOf e) w v l ∧ (l.map m).sum + 1 ≤ Rows.uptoBulk x.1 ∧ l.length + 1 ≤ Rows.uptoBulk x.1 := by
  obtain ⟨A, len, cap, elems, rest, n, ys, rfl, hl, hm, hx, hlen, _, hels, hnil, hcell⟩ := op_slice ht hc h
  have hb' : ∀ i, i < len → ∃ a : α, R w (ys i) a ∧ ∀ d, (elems.map (·.1))[i]? = some d → m a ≤ Rows.uptoBulk d := by
    intro i hi
    obtain ⟨y, h1, h2, h3⟩ := hels i hi
    obtain ⟨a, g1, g2⟩ := hel _ _ _ h2 h3
    exact ⟨a, g1, fun d hd => by simp [h1] at hd; rw [← hd]; exact g2⟩
  rcases Nat.eq_zero_or_pos len with h0 | h0
  · subst h0
    refine ⟨_, [], rfl, ⟨A, cap, ys, rfl, Nat.zero_le _, hnil, fun i a hi => by simp at hi, fun h => absurd h (by simp)⟩, ?_, ?_⟩
    · have := bulk_one x.1; simp; omega
    · have := bulk_one x.1; simp; omega
  obtain ⟨b, off, hA, hcc⟩ := hcell h0
  haveI : Nonempty α := ⟨(hb' 0 h0).choose⟩
  let g : Nat → α := fun i => if h : i < len then (hb' i h).choose else Classical.choice ‹_›
  have hg : ∀ i (hi : i < len), g i = (hb' i hi).choose := fun i hi => by simp only [g]; rw [dif_pos hi]
  refine ⟨_, (List.range len).map g, rfl, ⟨A, cap, ys, by simp, by simpa using hl, hnil, fun i a hi => ?_, fun _ => ⟨b, off, hA, fun i hi => hcc i (by simpa using hi)⟩⟩, ?_, ?_⟩
  · have hi' : i < len := by
      rcases Nat.lt_or_ge i len with h | h
      · exact h
      · simp [h] at hi
    simp [hi'] at hi
    subst hi
    rw [hg i hi']
    obtain ⟨y, h1, h2, h3⟩ := hels i hi'
    exact ⟨h3, (hb' i hi').choose_spec.1⟩
  · rcases hx with hx | ⟨_, h0'⟩
    · rw [hx]
      have := bulk_sum (H := H) m (g 0) (elems.map (·.1)) g (fun i d hd => by
        have hi : i < len := by
          rcases Nat.lt_or_ge i len with h | h
          · exact h
          · rw [List.getElem?_eq_none (by simp; omega)] at hd; cases hd
        rw [hg i hi]
        exact (hb' i hi).choose_spec.2 d hd)
      rw [List.length_map, hlen] at this
      simp [Rows.uptoBulk] at this ⊢; omega
    · omega
  · rcases hx with hx | ⟨_, h0'⟩
    · rw [hx]
      have := bulk_length (elems.map (·.1))
      simp [Rows.uptoBulk] at this ⊢; omega
    · omega
section
variable {v : Value} {d : DataW H} {ps : List MemPlace} {base : Nat} {r : Reach}
theorem arg_list {α : Type} (R : World → List Value → α → Prop) (m : α → Nat) (ht : P.underlying t = some (.slice e)) (hc : 0 < P.cellsOf e)
    (hel : ∀ n ys y, DataW.trod enc P w 0 spare held n e ys = some y → ys.length = P.cellsOf e → ∃ a, R w ys a ∧ m a ≤ Rows.uptoBulk y.1)
    (hv : Value.okWide P w r base t v) (h : DataW.Trod enc P w 0 spare held t v d ps) :
    ∃ (l : List α), SlR R (P.cellsOf e) w v l ∧ (l.map m).sum + 1 ≤ Rows.uptoBulk d ∧ l.length + 1 ≤ Rows.uptoBulk d := by
  obtain ⟨a, n, c, rfl⟩ := okWide_slice ht hv
  obtain ⟨fuel, h⟩ := h
  obtain ⟨u, l, h1, h2, h3, h4⟩ := op_list R m ht hc hel h
  simp only [Value.cells] at h1
  injection h1 with h1
  subst h1
  exact ⟨l, h2, h3, h4⟩
/-- a list of numbers -/
theorem arg_ints (ht : P.underlying t = some (.slice e)) (he : P.underlying e = some (.int .i64)) (hc : P.cellsOf e = 1) (hv : Value.okWide P w r base t v) (h : DataW.Trod enc P w 0 spare held t v d ps) :
    ∃ (l : List Int), Sl w v l.length (fun i => .int .i64 (l.getD i 0)) ∧ l.length + 1 ≤ Rows.uptoBulk d := by
  obtain ⟨l, ⟨A, c, ys, e1, h1, h2, h3, h4⟩, _, hb⟩ := arg_list (fun _ ys n => ys = [.int .i64 n]) (fun _ => 0) ht (by omega) (fun n ys y hy _ => by
    obtain ⟨k, hk, _⟩ := op_int he hy
    exact ⟨k, hk, Nat.zero_le _⟩) hv h
  rw [hc] at h3 h4
  refine ⟨l, ⟨A, c, e1, h1, h2, fun h0 => ?_⟩, hb⟩
  obtain ⟨b, off, eA, hcell⟩ := h4 h0
  refine ⟨b, off, eA, fun i hi => ?_⟩
  have := hcell i hi 0 (by omega)
  rw [Nat.mul_one, Nat.add_zero, (h3 i _ (List.getElem?_eq_getElem hi)).2] at this
  rw [this]
  simp [hi]
end
end
end Go.Proofs.Ytkklonldplekcaa
