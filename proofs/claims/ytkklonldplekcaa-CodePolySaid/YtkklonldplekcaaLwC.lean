/- The helpers of the code laws: order. -/
import Derived.Test.YtkklonldplekcaaLwA
import Derived.Test.YtkklonldplekcaaMxW
namespace Go.Proofs.Ytkklonldplekcaa
open Go.RowKit
/-- an order of the numbers below n -/
def Ord (n : Nat) (f : Nat → Nat) : Prop := (∀ i, i < n → f i < n) ∧ ∀ i j, i < n → j < n → f i = f j → i = j
def swp (f : Nat → Nat) (a b : Nat) : Nat → Nat := fun i => if i = b then f a else if i = a then f b else f i
theorem Ord.swp {n a b : Nat} {f : Nat → Nat} (h : Ord n f) (ha : a < n) (hb : b < n) : Ord n (swp f a b) := by
  obtain ⟨h1, h2⟩ := h
  have e : ∀ i, Go.Proofs.Ytkklonldplekcaa.swp f a b i = f (if i = b then a else if i = a then b else i) := fun i => by
    unfold Go.Proofs.Ytkklonldplekcaa.swp
    split
    · rfl
    · split <;> rfl
  refine ⟨fun i hi => ?_, fun i j hi hj he => ?_⟩
  · rw [e]
    exact h1 _ (by split; · exact ha
                   · split; · exact hb
                     · exact hi)
  · rw [e, e] at he
    have := h2 _ _ (by split; · exact ha
                       · split; · exact hb
                         · exact hi) (by split; · exact ha
                                         · split; · exact hb
                                           · exact hj) he
    split at this <;> split at this <;> (try split at this) <;> (try split at this) <;> omega
/-- the numbers of an order, as they lie -/
def ordV (n : Nat) (f : Nat → Nat) : List Value := (List.range n).map fun i => .int .i64 ((f i : Nat) : Int)
theorem ordV_set (n i t : Nat) (f : Nat → Nat) : (ordV n f).set i (.int .i64 ((t : Nat) : Int)) = ordV n fun j => if j = i then t else f j := by
  apply List.ext_getElem
  · simp [ordV]
  · intro j h1 h2
    rw [List.getElem_set]
    simp only [ordV, List.getElem_map, List.getElem_range]
    by_cases e : i = j
    · rw [if_pos e, if_pos e.symm]
    · rw [if_neg e, if_neg (Ne.symm e)]
/-- a list of the call's own that holds an order -/
def OrdAt (w0 w : World) (n : Nat) (f : Nat → Nat) (g c : Nat) : Prop := w.ownsRow 0 3 1 (.slice (some ⟨g, 0, none⟩) n c) n (ordV n f) ∧ w0.heap.size ≤ g ∧ Below w0.heap.size w0 w
theorem OrdAt.get {w0 w : World} {n g c : Nat} {f : Nat → Nat} (h : OrdAt w0 w n f g c) (i : Nat) (hi : i < n) : w.cell? ⟨g, i, none⟩ = some (.int .i64 ((f i : Nat) : Int)) ∧ w.frozen? ⟨g, i, none⟩ = false := by
  refine ⟨?_, World.ownsRow.frozenAt h.1 i⟩
  rw [World.ownsRow.cellAt h.1 i (by omega)]
  simp [ordV, hi]
theorem OrdAt.put {w0 w : World} {n g c : Nat} {f : Nat → Nat} (h : OrdAt w0 w n f g c) (i t : Nat) : OrdAt w0 (w.setCell ⟨g, i, none⟩ (.int .i64 ((t : Nat) : Int))) n (fun j => if j = i then t else f j) g c := by
  refine ⟨?_, h.2.1, h.2.2.setCell h.2.1 _⟩
  rw [← ordV_set]
  exact (h.1.stored i _).1
theorem OrdAt.below {w0 w w' : World} {n g c : Nat} {f : Nat → Nat} (h : OrdAt w0 w n f g c) (hb : Below w.heap.size w w') : OrdAt w0 w' n f g c :=
  ⟨own_fr h.1 (Fr.of_below hb) (fun _ _ h => h), h.2.1, below_then h.2.2 hb⟩
/-- what order answers -/
def OrdE (n : Nat) (w : World) (e : Ending) (w' : World) : Prop := ∃ f g c, e = .returned (.slice (some ⟨g, 0, none⟩) n c) ∧ Ord n f ∧ OrdAt w w' n f g c
set_option maxRecDepth 100000 in
set_option maxHeartbeats 8000000 in
theorem order_any (w : World) (n : Nat) (hn : 0 < n) (hn2 : n ≤ 1000) (v : Value) (pk : List Int) (hv : SlI w v pk) (hpk : ∀ x ∈ pk, -9223372036854775808 ≤ x ∧ x ≤ 9223372036854775807) :
    Calls Try.prog 45 #[.int .i64 n, v] w (OrdE n w) := by
  obtain ⟨Ap, cp, rfl⟩ := hv.form
  have HV := hid hv
  have HPK := hid hpk
  clear hv hpk
  go_enter Try.func45, Try.ntmps45
  go_wp2
  go_loopw [5, 6] (fun v x wr => ∃ k : Nat, k ≤ n ∧ x = .int .i64 k ∧ wr.ownsRow 0 3 1 v k ((List.range k).map fun (p : Nat) => .int .i64 (p : Int)) ∧ Below w.heap.size w wr ∧ ∀ j, v.ownBlock = some j → w.heap.size ≤ j) (fun _ x _ => n - (intOf x).toNat)
  case atStart => exact ⟨0, Nat.zero_le _, rfl, World.ownsRow_nil _ _ _ _, Below.refl _ _, fun j hj => by cases hj⟩
  case round =>
    obtain ⟨k, hk, rfl, ho, hb, hob⟩ := hrel
    obtain ⟨A, c, rfl⟩ := own_form ho
    have HO := hid ho
    have HB := hid hb
    have HOB := hid hob
    clear ho hb hob
    by_cases hlt : k < n
    · have i1 : (k : Int) < (n : Int) := by omega
      have HO2 : Hid (World.ownsRow (wr.alloc (.cells #[.int .i64 (k : Int)] 3 (0, 0))) 0 3 1 (.slice A k c) (List.range k).length ((List.range k).map fun (p : Nat) => .int .i64 (p : Int))) := hid (by rw [List.length_range]; exact World.ownsRow.alloc HO.out _)
      go_wp2_with (at_builtin; refine wpList_appI rfl (.tmp 15) (.tmp 17) rfl (.slice A k c) (List.range k) k wr.heap.size 3 rfl rfl HO2.out (heap_alloc_new _ _) (by rw [List.length_range]; omega) ?_; intro g9 cap9 w9 ho9 hg9 hn9; rw [List.length_range, ← List.range_succ] at ho9; rw [List.length_range] at hn9 ⊢; have HO9 := hid ho9; have HBB := hid (told_below HB.out (Below.refl _ _) ((Below.refl _ _).alloc (Nat.le_refl _) (.cells #[.int .i64 (k : Int)] 3 (0, 0))) hg9 HOB.out); have HN9 := hid hn9; clear ho9 hg9 hn9)
      go_roundw
      case rel => exact ⟨k + 1, by omega, by go_num, HO9.out, HBB.out.1, HBB.out.2 _ trivial HN9.out⟩
      case measure => simp [intOf]; omega
    · obtain rfl : n = k := by omega
      obtain ⟨g, rfl⟩ : ∃ g, A = some ⟨g, 0, none⟩ := by
        obtain ⟨_, ⟨e, _⟩ | ⟨g, cap, cur, e, _⟩⟩ := HO.out
        · injection e with _ e2; omega
        · injection e with e1; exact ⟨g, e1⟩
      have HOA : Hid (OrdAt w wr n (fun i => i) g c) := hid ⟨HO.out, HOB.out g rfl, HB.out⟩
      have HOI : Hid (Ord n fun i => i) := hid ⟨fun i hi => hi, fun i j _ _ e => e⟩
      clear HO HB HOB
      go_wp2
      go_loopw [7, 8, 9] (fun x _ _ wr => ∃ (k : Nat) (f : Nat → Nat), k ≤ n ∧ x = .int .i64 k ∧ Ord n f ∧ OrdAt w wr n f g c) (fun x _ _ _ => n - (intOf x).toNat)
      case atStart => exact ⟨0, _, Nat.zero_le _, rfl, HOI.out, HOA.out⟩
      case round =>
        clear HOI HOA
        obtain ⟨k, f, hk, rfl, hord, ho⟩ := hrel
        have HORD := hid hord
        have HO := hid ho
        clear hord ho
        by_cases hc : k < pk.length ∧ k < n
        · obtain ⟨hc1, hc2⟩ := hc
          obtain ⟨bp, op, rfl, hcell⟩ := (HV.out.below HO.out.2.2).cells (by omega)
          have x0 := hcell k hc1
          have hr := HPK.out (pk.getD k 0) (by rw [List.getD_eq_getElem?_getD, List.getElem?_eq_getElem hc1]; exact List.getElem_mem hc1)
          generalize pk.getD k 0 = x at x0 hr
          have CM := hid (mod_any x hr.1 hr.2 n hn (by omega) wr)
          obtain ⟨j, hj⟩ : ∃ j, md x n = j := ⟨_, rfl⟩
          have hjn := md_lt x n hn
          rw [hj] at CM hjn
          have i0 : (0 : Int) ≤ (k : Int) := by omega
          have i1 : (k : Int) < (pk.length : Int) := by omega
          have i2 : (k : Int) < (n : Int) := by omega
          have i3 : (0 : Int) ≤ (j : Int) := by omega
          have i4 : (j : Int) < (n : Int) := by omega
          clear hcell hr hj
          go_wp2_with fail
          refine CM.out.mono ?_
          rintro e wr ⟨rfl, rfl⟩
          obtain ⟨y0, f0⟩ := HO.out.get k hc2
          obtain ⟨y1, f1⟩ := HO.out.get j hjn
          have hp1 := HO.out.put k (f j)
          obtain ⟨y2, f2⟩ := hp1.get j hjn
          have HP2 := hid (hp1.put j (f k))
          have HE : Hid (OrdAt w ((wr.setCell ⟨g, k, none⟩ (.int .i64 ((f j : Nat) : Int))).setCell ⟨g, j, none⟩ (.int .i64 ((f k : Nat) : Int))) n (swp f k j) g c) := hid (by
            have := HP2.out
            rw [show (fun t => if t = j then f k else if t = k then f j else f t) = swp f k j from rfl] at this
            exact this)
          have HOS := hid (HORD.out.swp hc2 hjn)
          generalize (if j = k then f j else f j) = fz at y2
          clear x0 CM hp1 HP2
          go_wp2
          go_roundw
          case rel => exact ⟨k + 1, _, by omega, by go_num, HOS.out, HE.out⟩
          case measure => simp [intOf]; omega
        · have HE : Hid (OrdE n w (.returned (.slice (some ⟨g, 0, none⟩) n c)) wr) := hid ⟨f, g, c, rfl, HORD.out, HO.out⟩
          have hex : ¬ (k : Int) < (pk.length : Int) ∨ (k : Int) < (pk.length : Int) ∧ ¬ (k : Int) < (n : Int) := by omega
          clear hc
          rcases hex with c1 | ⟨c1, c2⟩
          all_goals
            go_wp2
            go_ret
            exact HE.out
end Go.Proofs.Ytkklonldplekcaa
