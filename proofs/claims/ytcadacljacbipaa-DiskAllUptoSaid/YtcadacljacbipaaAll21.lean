/- The law's none: a disk that is none. -/
import Derived.Test.YtcadacljacbipaaAll8
import Derived.Test.YtcadacljacbipaaAll11
import Derived.Test.YtcadacljacbipaaAll10
import Derived.Test.YtcadacljacbipaaAll12
import Derived.Deep.MidRow
import Derived.Lib.SlBytesConst
namespace Go.Proofs.Ytcadacljacbipaa
open Go.RowKit
set_option maxRecDepth 100000 in
set_option maxHeartbeats 4000000 in
theorem none_any (w : World) :
    Calls Try.prog 30 #[] w fun e w' => e = .returned (.bool true) ∧ Below w.heap.size w w' := by
  go_enter Try.func30, Try.ntmps30
  go_wp2_with fail
  refine (Read_nil 0 w).mono ?_
  rintro e w ⟨rfl, rfl⟩
  go_wp2_with fail
  refine (Slots_nil _).mono ?_
  rintro e w2 ⟨rfl, hb2⟩
  have HB2 := hid hb2
  clear hb2
  go_upto_region 4 with (fail)
  refine Code.seen (fun W => Below w.heap.size w W ∧ W.heap[w2.heap.size]? = some (.cells #[.slice none 0 0, .slice none 0 0] 32 (0, 0))) ⟨below_then HB2.out ((Below.refl _ _).alloc (Nat.le_refl _) _), heap_alloc_new _ _⟩ fun w3 H3 => ?_
  have x0 : w3.cell? ⟨w2.heap.size, 0, none⟩ = some (.slice none 0 0) := by rw [blk_cell H3.out.2]; rfl
  have x1 : w3.cell? ⟨w2.heap.size, 1, none⟩ = some (.slice none 0 0) := by rw [blk_cell H3.out.2]; rfl
  go_upto_region 6 with (first
    | (go_at_call 18; refine (Current_nil _).mono ?_; rintro e w3 ⟨rfl, rfl⟩)
    | (go_at_call 29; refine (Acts_nil _).mono ?_; rintro e w3 ⟨rfl, rfl⟩)
    | (go_at_call 13; refine (Pending_nil _).mono ?_; rintro e w3 ⟨rfl, rfl⟩)
    | (go_at_call 20; refine (Dead_nil _).mono ?_; rintro e w3 ⟨rfl, rfl⟩)
    | (go_at_call 14; refine (Crash_nil _ _).mono ?_; rintro e w3 ⟨rfl, rfl⟩))
  clear x0 x1
  have HB3 := hid H3.out.1
  go_wp2_with (first
    | (go_at_call 12; refine (Append_nil 0 (.slice (some ⟨w3.heap.size, 0, none⟩) 1 1) [1] _ (lit_sl w3 [1] (by simp)) (by simp)).mono ?_; rintro e w4 ⟨rfl, hb4⟩; have HB4 := hid (below_then HB3.out (below_then ((Below.refl _ _).alloc (Nat.le_refl _) _) hb4)); clear hb4)
    | (go_at_call 25; refine (Wipe_nil _ _).mono ?_; rintro e w4 ⟨rfl, rfl⟩)
    | (go_at_call 19; refine (Sync_nil _ _).mono ?_; rintro e w4 ⟨rfl, rfl⟩)
    | (go_at_call 24; refine (Switch_nil _ _).mono ?_; rintro e w7 ⟨rfl, hb7⟩; have HB7 := hid (below_then HB4.out hb7); clear hb7)
    | (go_at_call 27; refine (Stop_nil _ _ _).mono ?_; rintro e w7 ⟨rfl, rfl⟩))
  go_ret
  exact ⟨rfl, HB7.out⟩
end Go.Proofs.Ytcadacljacbipaa

/- Lists whose elements are read by a law of their own: structs, numbers. -/
namespace Go.Proofs.Ytcadacljacbipaa
open Go.RowKit Go.ChangeShapes Go.WideShapes

/-- a list of elements of sz cells each; each reads as R says -/
def SlR {α : Type} (R : World → List Value → α → Prop) (sz : Nat) (w : World) (v : Value) (l : List α) : Prop :=
  ∃ (A : Option Addr) (c : Nat) (ys : Nat → List Value), v = .slice A l.length c ∧ l.length ≤ c ∧ (A = none → c = 0) ∧ (∀ (i : Nat) (a : α), l[i]? = some a → (ys i).length = sz ∧ R w (ys i) a) ∧
    (0 < l.length → ∃ b off, A = some ⟨b, off, none⟩ ∧ ∀ i, i < l.length → ∀ j, j < sz → w.cell? ⟨b, off + (i * sz + j), none⟩ = (ys i)[j]?)
theorem SlR.below {α : Type} {R : World → List Value → α → Prop} {sz : Nat} {w w' : World} {v : Value} {l : List α} (hR : ∀ ys a, R w ys a → R w' ys a) (h : SlR R sz w v l) (hb : Below w.heap.size w w') : SlR R sz w' v l := by
  obtain ⟨A, c, ys, e, h1, h2, h3, h4⟩ := h
  refine ⟨A, c, ys, e, h1, h2, fun i a hi => ⟨(h3 i a hi).1, hR _ _ (h3 i a hi).2⟩, fun h0 => ?_⟩
  obtain ⟨b, off, eA, hc⟩ := h4 h0
  refine ⟨b, off, eA, fun i hi j hj => ?_⟩
  have hcc := hc i hi j hj
  have hl := (h3 i _ (List.getElem?_eq_getElem hi)).1
  rw [List.getElem?_eq_getElem (by omega)] at hcc
  rw [(hb.cell (World.block_lt_of_cell? w _ hcc)), hcc, List.getElem?_eq_getElem (by omega)]

theorem getD_len_le (ll : List (List UInt8)) (i : Nat) : (ll.getD i []).length ≤ (ll.map List.length).sum := by
  induction ll generalizing i with
  | nil => simp
  | cons a l ih =>
    cases i with
    | zero => simp
    | succ i => have := ih i; simp at this ⊢; omega
section
variable {H : Type} {enc : TypeId × Value → H} {P : Program} {w : World} {spare : Nat → Bool} {held : Bool} {fuel : Nat} {t e : TypeId} {cs : List Value} {x : DataW H × List MemPlace}
theorem op_list {α : Type} (R : World → List Value → α → Prop) (m : α → Nat) (ht : P.underlying t = some (.slice e)) (hc : 0 < P.cellsOf e)
    (hel : ∀ n ys y, DataW.trod enc P w 0 spare held n e ys = some y → ys.length = P.cellsOf e → ∃ a, R w ys a ∧ m a ≤ Rows.uptoBulk y.1)
    (h : DataW.trod enc P w 0 spare held fuel t cs = some x) :
    ∃ (v : Value) (l : List α), cs = [v] ∧ SlR R (P.cellsOf e) w v l ∧ (l.map m).sum + 1 ≤ Rows.uptoBulk x.1 ∧ l.length + 1 ≤ Rows.uptoBulk x.1 := by
  obtain ⟨A, len, cap, elems, rest, n, ys, rfl, hl, hm, hx, hlen, _, hels, hnil, hcell⟩ := op_slice ht hc h
  have hb' : ∀ i, i < len → ∃ a : α, R w (ys i) a ∧ ∀ d, (elems.map (·.1))[i]? = some d → m a ≤ Rows.uptoBulk d := by
    intro i hi
    obtain ⟨y, h1, h2, h3⟩ := hels i hi
    obtain ⟨a, g1, g2⟩ := hel _ _ _ h2 h3
    exact ⟨a, g1, fun d hd => by simp [h1] at hd; rw [← hd]; exact g2⟩
  rcases Nat.eq_zero_or_pos len with h0 | h0
  · subst h0
    refine ⟨_, [], rfl, ⟨A, cap, ys, rfl, Nat.zero_le _, hnil, fun i a hi => by simp at hi, fun h => absurd h (by simp)⟩, ?_, ?_⟩
    · have := bulk_one x.1; simp; omega
    · have := bulk_one x.1; simp; omega
  obtain ⟨b, off, hA, hcc⟩ := hcell h0
  haveI : Nonempty α := ⟨(hb' 0 h0).choose⟩
  let g : Nat → α := fun i => if h : i < len then (hb' i h).choose else Classical.choice ‹_›
  have hg : ∀ i (hi : i < len), g i = (hb' i hi).choose := fun i hi => by simp only [g]; rw [dif_pos hi]
  refine ⟨_, (List.range len).map g, rfl, ⟨A, cap, ys, by simp, by simpa using hl, hnil, fun i a hi => ?_, fun _ => ⟨b, off, hA, fun i hi => hcc i (by simpa using hi)⟩⟩, ?_, ?_⟩
  · have hi' : i < len := by
      rcases Nat.lt_or_ge i len with h | h
      · exact h
      · simp [h] at hi
    simp [hi'] at hi
    subst hi
    rw [hg i hi']
    obtain ⟨y, h1, h2, h3⟩ := hels i hi'
    exact ⟨h3, (hb' i hi').choose_spec.1⟩
  · rcases hx with hx | ⟨_, h0'⟩
    · rw [hx]
      have := bulk_sum (H := H) m (g 0) (elems.map (·.1)) g (fun i d hd => by
        have hi : i < len := by
          rcases Nat.lt_or_ge i len with h | h
          · exact h
          · rw [List.getElem?_eq_none (by simp; omega)] at hd; cases hd
        rw [hg i hi]
        exact (hb' i hi).choose_spec.2 d hd)
      rw [List.length_map, hlen] at this
      simp [Rows.uptoBulk] at this ⊢; omega
    · omega
  · rcases hx with hx | ⟨_, h0'⟩
    · rw [hx]
      have := bulk_length (elems.map (·.1))
      simp [Rows.uptoBulk] at this ⊢; omega
    · omega
section
variable {v : Value} {d : DataW H} {ps : List MemPlace} {base : Nat} {r : Reach}
theorem arg_list {α : Type} (R : World → List Value → α → Prop) (m : α → Nat) (ht : P.underlying t = some (.slice e)) (hc : 0 < P.cellsOf e)
    (hel : ∀ n ys y, DataW.trod enc P w 0 spare held n e ys = some y → ys.length = P.cellsOf e → ∃ a, R w ys a ∧ m a ≤ Rows.uptoBulk y.1)
    (hv : Value.okWide P w r base t v) (h : DataW.Trod enc P w 0 spare held t v d ps) :
    ∃ (l : List α), SlR R (P.cellsOf e) w v l ∧ (l.map m).sum + 1 ≤ Rows.uptoBulk d ∧ l.length + 1 ≤ Rows.uptoBulk d := by
  obtain ⟨a, n, c, rfl⟩ := okWide_slice ht hv
  obtain ⟨fuel, h⟩ := h
  obtain ⟨u, l, h1, h2, h3, h4⟩ := op_list R m ht hc hel h
  simp only [Value.cells] at h1
  injection h1 with h1
  subst h1
  exact ⟨l, h2, h3, h4⟩
/-- a list of numbers -/
theorem arg_ints (ht : P.underlying t = some (.slice e)) (he : P.underlying e = some (.int .i64)) (hc : P.cellsOf e = 1) (hv : Value.okWide P w r base t v) (h : DataW.Trod enc P w 0 spare held t v d ps) :
    ∃ (l : List Int), Sl w v l.length (fun i => .int .i64 (l.getD i 0)) ∧ l.length + 1 ≤ Rows.uptoBulk d := by
  obtain ⟨l, ⟨A, c, ys, e1, h1, h2, h3, h4⟩, _, hb⟩ := arg_list (fun _ ys n => ys = [.int .i64 n]) (fun _ => 0) ht (by omega) (fun n ys y hy _ => by
    obtain ⟨k, hk, _⟩ := op_int he hy
    exact ⟨k, hk, Nat.zero_le _⟩) hv h
  rw [hc] at h3 h4
  refine ⟨l, ⟨A, c, e1, h1, h2, fun h0 => ?_⟩, hb⟩
  obtain ⟨b, off, eA, hcell⟩ := h4 h0
  refine ⟨b, off, eA, fun i hi => ?_⟩
  have := hcell i hi 0 (by omega)
  rw [Nat.mul_one, Nat.add_zero, (h3 i _ (List.getElem?_eq_getElem hi)).2] at this
  rw [this]
  simp [hi]
end
end
end Go.Proofs.Ytcadacljacbipaa

/- The law's own words of calls, as they are read. -/
namespace Go.Proofs.Ytcadacljacbipaa
open Go.RowKit Go.ChangeShapes Go.WideShapes
def Dop.R (w : World) (ys : List Value) (o : Dop) : Prop :=
  (∃ v a b c, ys = o.vals v a b c ∧ SlB w v o.data ∧ SlB w a o.sa ∧ SlB w b o.sb ∧ SlZ w c o.ch) ∧ (-9223372036854775808 ≤ o.slot ∧ o.slot ≤ 9223372036854775807) ∧ (-9223372036854775808 ≤ o.n ∧ o.n ≤ 9223372036854775807) ∧ (-9223372036854775808 ≤ o.d ∧ o.d ≤ 9223372036854775807)
def Dop.m (o : Dop) : Nat := o.data.length + o.sa.length + o.sb.length + o.ch.length + 1
section
variable {H : Type} {enc : TypeId × Value → H} {w : World} {spare : Nat → Bool} {held : Bool}
/-- numbers, with their range -/
theorem op_ints {P : Program} {t e : TypeId} {cs : List Value} {fuel : Nat} {x : DataW H × List MemPlace} (ht : P.underlying t = some (.slice e)) (he : P.underlying e = some (.int .i64)) (hc : P.cellsOf e = 1) (h : DataW.trod enc P w 0 spare held fuel t cs = some x) :
    ∃ (v : Value) (l : List Int), cs = [v] ∧ SlZ w v l ∧ l.length + 1 ≤ Rows.uptoBulk x.1 := by
  obtain ⟨v, l, e0, ⟨A, c, ys, e1, h1, h2, h3, h4⟩, _, hb⟩ := op_list (fun _ ys n => ys = [.int .i64 n] ∧ -9223372036854775808 ≤ n ∧ n ≤ 9223372036854775807) (fun _ => 0) ht (by omega) (fun n ys y hy _ => by
    obtain ⟨k, hk, k0, k1⟩ := op_i64 he hy
    exact ⟨k, ⟨hk, k0, k1⟩, Nat.zero_le _⟩) h
  rw [hc] at h3 h4
  refine ⟨v, l, e0, ⟨⟨A, c, e1, h1, h2, fun h0 => ?_⟩, fun n hn => ?_⟩, hb⟩
  · obtain ⟨b, off, eA, hcell⟩ := h4 h0
    refine ⟨b, off, eA, fun i hi => ?_⟩
    have := hcell i hi 0 (by omega)
    rw [Nat.mul_one, Nat.add_zero, (h3 i _ (List.getElem?_eq_getElem hi)).2.1] at this
    rw [this]
    simp [hi]
  · obtain ⟨i, hi, rfl⟩ := List.getElem_of_mem hn
    exact (h3 i _ (List.getElem?_eq_getElem hi)).2.2
theorem op_dop (n : Nat) (ys : List Value) (y : DataW H × List MemPlace) (h : DataW.trod enc Try.prog w 0 spare held n 51 ys = some y) (hl : ys.length = Try.prog.cellsOf 51) :
    ∃ o, Dop.R w ys o ∧ o.m ≤ Rows.uptoBulk y.1 := by
  obtain ⟨xs, m, hd, hlen, hxs, each⟩ := op_struct Try.underlying51 h
  rw [show Try.prog.cellsOf 51 = 9 by kernel_rfl] at hl
  match ys, hl with
  | [c0, c1, c2, c3, c4, c5, c6, c7, c8], _ =>
    obtain ⟨y0, z0, g0⟩ := each 0 _ rfl
    obtain ⟨y1, z1, g1⟩ := each 1 _ rfl
    obtain ⟨y2, z2, g2⟩ := each 2 _ rfl
    obtain ⟨y3, z3, g3⟩ := each 3 _ rfl
    obtain ⟨y4, z4, g4⟩ := each 4 _ rfl
    obtain ⟨y5, z5, g5⟩ := each 5 _ rfl
    obtain ⟨y6, z6, g6⟩ := each 6 _ rfl
    obtain ⟨y7, z7, g7⟩ := each 7 _ rfl
    have s1 : Try.prog.cellsOf 3 = 1 := by kernel_rfl
    have s2 : Try.prog.cellsOf 4 = 1 := by kernel_rfl
    have s4 : Try.prog.cellsOf 22 = 1 := by kernel_rfl
    have s5 : Try.prog.cellsOf 24 = 1 := by kernel_rfl
    have s6 : Try.prog.cellsOf 32 = 2 := by kernel_rfl
    change DataW.trod enc Try.prog w 0 spare held m 3 (List.take (Try.prog.cellsOf 3) (List.drop 0 [c0, c1, c2, c3, c4, c5, c6, c7, c8])) = some y0 at g0
    change DataW.trod enc Try.prog w 0 spare held m 3 (List.take (Try.prog.cellsOf 3) (List.drop 1 [c0, c1, c2, c3, c4, c5, c6, c7, c8])) = some y1 at g1
    change DataW.trod enc Try.prog w 0 spare held m 3 (List.take (Try.prog.cellsOf 3) (List.drop 2 [c0, c1, c2, c3, c4, c5, c6, c7, c8])) = some y2 at g2
    change DataW.trod enc Try.prog w 0 spare held m 22 (List.take (Try.prog.cellsOf 22) (List.drop 3 [c0, c1, c2, c3, c4, c5, c6, c7, c8])) = some y3 at g3
    change DataW.trod enc Try.prog w 0 spare held m 3 (List.take (Try.prog.cellsOf 3) (List.drop 4 [c0, c1, c2, c3, c4, c5, c6, c7, c8])) = some y4 at g4
    change DataW.trod enc Try.prog w 0 spare held m 4 (List.take (Try.prog.cellsOf 4) (List.drop 5 [c0, c1, c2, c3, c4, c5, c6, c7, c8])) = some y5 at g5
    change DataW.trod enc Try.prog w 0 spare held m 32 (List.take (Try.prog.cellsOf 32) (List.drop 6 [c0, c1, c2, c3, c4, c5, c6, c7, c8])) = some y6 at g6
    change DataW.trod enc Try.prog w 0 spare held m 24 (List.take (Try.prog.cellsOf 24) (List.drop 8 [c0, c1, c2, c3, c4, c5, c6, c7, c8])) = some y7 at g7
    rw [s1] at g0 g1 g2 g4
    rw [s4] at g3
    rw [s2] at g5
    rw [s6] at g6
    rw [s5] at g7
    simp only [List.drop_succ_cons, List.drop_zero, List.take_succ_cons, List.take_zero] at g0 g1 g2 g3 g4 g5 g6 g7
    obtain ⟨k, hk, _⟩ := op_i64 Try.underlying3 g0
    obtain ⟨dd, hdd, d0, d1⟩ := op_i64 Try.underlying3 g1
    obtain ⟨sl, hs, s0, s1'⟩ := op_i64 Try.underlying3 g2
    obtain ⟨v, l, hv, hsl, _, hbl, _⟩ := op_bytes Try.underlying22 Try.underlying5 (by kernel_rfl) (by kernel_rfl) g3
    obtain ⟨nn, hn, n0, n1⟩ := op_i64 Try.underlying3 g4
    obtain ⟨bb, hb, _⟩ := DataW.trod_bool Try.underlying4 g5
    obtain ⟨es, me, _, hx6, _, hel, hea⟩ := DataW.trod_array Try.underlying32 g6
    obtain ⟨c, ch, hc, hcz, hcb⟩ := op_ints Try.underlying24 Try.underlying3 (by kernel_rfl) g7
    have ha0 := hea 0 (by omega)
    have ha1 := hea 1 (by omega)
    rw [s4] at ha0 ha1
    simp only [Nat.zero_mul, Nat.one_mul, List.drop_succ_cons, List.drop_zero, List.take_succ_cons, List.take_zero] at ha0 ha1
    match es, hel with
    | [e0, e1], _ =>
      simp at ha0 ha1
      obtain ⟨u0, la, hu0, hsa, _, hba, _⟩ := op_bytes Try.underlying22 Try.underlying5 (by kernel_rfl) (by kernel_rfl) ha0
      obtain ⟨u1, lb, hu1, hsb, _, hbb, _⟩ := op_bytes Try.underlying22 Try.underlying5 (by kernel_rfl) (by kernel_rfl) ha1
      injection hk with hk; injection hdd with hdd; injection hs with hs; injection hv with hv; injection hn with hn; injection hb with hb; injection hu0 with hu0; injection hu1 with hu1; injection hc with hc
      subst hk hdd hs hv hn hb hu0 hu1 hc
      refine ⟨⟨k, dd, sl, l, nn, bb, la, lb, ch⟩, ⟨⟨c3, c6, c7, c8, rfl, hsl, hsa, hsb, hcz⟩, ⟨s0, s1'⟩, ⟨n0, n1⟩, ⟨d0, d1⟩⟩, ?_⟩
      match xs, hxs with
      | [x0, x1, x2, x3, x4, x5, x6, x7], _ =>
        simp at z0 z1 z2 z3 z4 z5 z6 z7
        subst z0 z1 z2 z3 z4 z5 z6 z7
        rw [hd]
        have h6 : Rows.uptoBulk x6.1 = Rows.uptoBulkAll [e0.1, e1.1] + 1 := by rw [hx6]; simp [Rows.uptoBulk]
        have hall : Rows.uptoBulkAll [e0.1, e1.1] = Rows.uptoBulk e0.1 + Rows.uptoBulk e1.1 := by simp [Rows.uptoBulkAll]
        have b0 := bulk_one x0.1
        simp only [Dop.m, List.map_cons, List.map_nil, Rows.uptoBulk, Rows.uptoBulkAll] at *
        omega
theorem arg_intsz {P : Program} {t e : TypeId} {v : Value} {d : DataW H} {ps : List MemPlace} {base : Nat} {r : Reach} (ht : P.underlying t = some (.slice e)) (he : P.underlying e = some (.int .i64)) (hc : P.cellsOf e = 1) (hv : Value.okWide P w r base t v) (h : DataW.Trod enc P w 0 spare held t v d ps) :
    ∃ l : List Int, SlZ w v l ∧ l.length + 1 ≤ Rows.uptoBulk d := by
  obtain ⟨a, n, c, rfl⟩ := okWide_slice ht hv
  obtain ⟨fuel, h⟩ := h
  obtain ⟨u, l, h1, h2, h3⟩ := op_ints ht he hc h
  simp only [Value.cells] at h1
  injection h1 with h1
  subst h1
  exact ⟨l, h2, h3⟩
end
theorem bytesD_le : ∀ l : List Dop, bytesD l + l.length ≤ (l.map Dop.m).sum
  | [] => Nat.le_refl _
  | o :: l => by
    have := bytesD_le l
    simp only [bytesD, List.map_cons, List.sum_cons, List.length_cons, Dop.m] at this ⊢
    omega
end Go.Proofs.Ytcadacljacbipaa

/- A new disk behind a script's acts. -/
namespace Go.Proofs.Ytcadacljacbipaa
open Go.RowKit
theorem dop_at {w : World} {b off c n : Nat} {ops : List Dop} (h : SlR Dop.R 9 w (.slice (some ⟨b, off, none⟩) n c) ops) (i : Nat) (o : Dop) (hi : ops[i]? = some o) :
    ∃ v x y z, w.rangeAt b (off + i * 9) (o.vals v x y z) ∧ SlB w v o.data ∧ SlB w x o.sa ∧ SlB w y o.sb ∧ SlZ w z o.ch ∧ (-9223372036854775808 ≤ o.slot ∧ o.slot ≤ 9223372036854775807) ∧ (-9223372036854775808 ≤ o.n ∧ o.n ≤ 9223372036854775807) ∧ (-9223372036854775808 ≤ o.d ∧ o.d ≤ 9223372036854775807) := by
  obtain ⟨A, c', ys, e1, h1, h2, h3, h4⟩ := h
  injection e1 with e1 e2 e3
  have hil := (List.getElem?_eq_some_iff.1 hi).1
  obtain ⟨b', off', eA, hc⟩ := h4 (by omega)
  rw [← e1] at eA
  injection eA with eA
  injection eA with ea eb
  subst ea eb
  obtain ⟨_, ⟨v, x, y, z, hv, hs, hs2, hs3, hs4⟩, r1, r2, r3⟩ := h3 i o hi
  refine ⟨v, x, y, z, fun j u hj => ?_, hs, hs2, hs3, hs4, r1, r2, r3⟩
  have hj5 : j < 9 := (List.getElem?_eq_some_iff.1 hj).1
  have := hc i hil j hj5
  rw [hv, hj] at this
  rw [Nat.add_assoc]
  exact this
theorem mem_le_sum : ∀ (l : List Nat) (n : Nat), n ∈ l → n ≤ l.sum
  | [], n, h => by cases h
  | a :: l, n, h => by
    simp only [List.sum_cons]
    rcases List.mem_cons.1 h with rfl | h
    · omega
    · have := mem_le_sum l n h; omega
theorem wide_sl {w : World} {base g c : Nat} {l : List UInt8} (h : OwnB w base (.slice (some ⟨g, 0, none⟩) (l.length + 2) c) (l ++ [193, 194])) : SlB w (.slice (some ⟨g, 0, none⟩) l.length c) l := by
  have := OwnB.pre_ h l.length (by simp)
  rw [List.take_left] at this
  exact this.sl
/-- a call's word as it lies -/
def DW (b p : Nat) (o : Dop) (v x y z : Value) (W : World) : Prop :=
  W.cell? ⟨b, p, none⟩ = some (.int .i64 o.kind) ∧ W.cell? ⟨b, p + 1, none⟩ = some (.int .i64 o.d) ∧ W.cell? ⟨b, p + 2, none⟩ = some (.int .i64 o.slot) ∧ W.cell? ⟨b, p + 3, none⟩ = some v ∧ W.cell? ⟨b, p + 4, none⟩ = some (.int .i64 o.n) ∧ W.cell? ⟨b, p + 5, none⟩ = some (.bool o.done) ∧ W.cell? ⟨b, p + 6, none⟩ = some x ∧ W.cell? ⟨b, p + 7, none⟩ = some y ∧ W.cell? ⟨b, p + 8, none⟩ = some z
theorem dcells_at {w : World} {b p : Nat} {o : Dop} {v x y z : Value} (h : w.rangeAt b p (o.vals v x y z)) (W : World) (hb : Below w.heap.size w W) : DW b p o v x y z W := by
  have key : ∀ (j : Nat) (u : Value), (o.vals v x y z)[j]? = some u → W.cell? ⟨b, p + j, none⟩ = some u := fun j u hx =>
    (hb.cell (World.block_lt_of_cell? w _ (h j u hx))).trans (h j u hx)
  exact ⟨key 0 _ rfl, key 1 _ rfl, key 2 _ rfl, key 3 _ rfl, key 4 _ rfl, key 5 _ rfl, key 6 _ rfl, key 7 _ rfl, key 8 _ rfl⟩
theorem new_run_fits (ops : List Dop) (k : Nat) (hM : bytesD ops ≤ 1048576) (hlen : ops.length ≤ 1048576) (m : Nat) (hm : m ≤ 1048576) : (runD Dk.new (ops.take k)).fits m := by
  obtain ⟨h1, h2, _⟩ := runD_state Dk.new 0 0 new_mild rfl rfl (ops.take k)
  have h3 := bytesD_take ops k
  have h4 : (ops.take k).length ≤ ops.length := by simp; omega
  exact h1.fits (by omega) (by omega) (by omega)
theorem lawact_db (B : Nat) (w : World) (d : Nat) (D : Dk) (o : Dop) (v a b c dv : Value) (da : List UInt8) (hB : B ≤ w.heap.size) (h : DB B w d D) (hf : D.fits da.length) (hk : o.four) (hdv : SlB w dv da) :
    Calls Try.prog 28 #[.pointer (some ⟨d, 0, none⟩), .agg #[.int .i64 o.kind, .int .i64 o.d, .int .i64 o.slot, v, .int .i64 o.n, .bool o.done, a, b, c], dv] w fun e w' => e = .returned (.int .i64 (D.err o.slot (o.act da).wipes)) ∧ DB B w' d (D.step o.slot (o.act da)) ∧ Below B w w' := by
  obtain ⟨S, h1, h2⟩ := h
  refine (lawact_any w S d D o v a b c dv da h2 hf hk hdv).mono ?_
  rintro e w' ⟨rfl, h3⟩
  exact ⟨rfl, DB.of h1 hB h3⟩
set_option maxRecDepth 100000 in
set_option maxHeartbeats 8000000 in
theorem begun_any (sv : Value) (ops : List Dop) (w : World) (hS : SlR Dop.R 9 w sv ops) (hM : bytesD ops ≤ 1048576) (hlen : ops.length ≤ 1048576) :
    Calls Try.prog 17 #[sv] w fun e w' => ∃ d, e = .returned (.pointer (some ⟨d, 0, none⟩)) ∧ DB w.heap.size w' d (runD Dk.new ops) ∧ Below w.heap.size w w' := by
  have HS := hid hS
  obtain ⟨A, c, rfl, hlc⟩ : ∃ A c, sv = .slice A ops.length c ∧ ops.length ≤ c := by obtain ⟨A, c, _, e, h, _⟩ := hS; exact ⟨A, c, e, h⟩
  have HF := hid (fun k m hm => new_run_fits ops k hM hlen m hm)
  have HDL : Hid (∀ (i : Nat) (o : Dop), ops[i]? = some o → o.data.length ≤ 1048576) := hid fun i o hi => by
    have h1 : o.data.length ≤ bytesD ops := by
      unfold bytesD
      have : o.data.length ∈ ops.map fun o => o.data.length := List.mem_map.2 ⟨o, List.mem_of_getElem? hi, rfl⟩
      exact mem_le_sum _ _ this
    omega
  have HSZ : Hid (Try.prog.cellsOf 51 = 9) := hid (by kernel_rfl)
  clear hS hM
  go_enter Try.func17, Try.ntmps17
  go_wp2_with fail
  refine (New_any w).mono ?_
  rintro e w1 ⟨d, rfl, hb1, hd⟩
  have HD1 : Hid (DB w.heap.size w1 d Dk.new) := hid ⟨_, fun k hk => hk.1, hd⟩
  have HB1 := hid hb1
  clear hd hb1
  go_wp2
  go_loopw [4] (fun i wr => ∃ j : Nat, j ≤ ops.length ∧ i = .int .i64 j ∧ DB w.heap.size wr d (runD Dk.new (ops.take j)) ∧ Below w.heap.size w wr) (fun i _ => ops.length - (intOf i).toNat)
  case atStart => exact ⟨0, Nat.zero_le _, rfl, HD1.out, HB1.out⟩
  case round =>
    clear HD1 HB1
    obtain ⟨j, hj, rfl, hd, hb⟩ := hrel
    have HD := hid hd
    have HB := hid hb
    clear hd hb
    by_cases hlt : j < ops.length
    · obtain ⟨o, ho⟩ : ∃ o, ops[j]? = some o := ⟨_, List.getElem?_eq_getElem hlt⟩
      obtain ⟨b, off, rfl⟩ : ∃ b off, A = some ⟨b, off, none⟩ := by
        obtain ⟨A', c', ys, e1, _, _, _, h4⟩ := HS.out
        injection e1 with e1
        obtain ⟨b, off, eA, _⟩ := h4 (by omega)
        exact ⟨b, off, e1.trans eA⟩
      obtain ⟨ov, ox, oy, oz, hr, hov, _, _, _, _⟩ := dop_at HS.out j o ho
      have HRT := hid (runD_take Dk.new ops j hlt)
      rw [show ops[j] = o by rw [List.getElem?_eq_getElem hlt] at ho; injection ho] at HRT
      have hdl := HDL.out j o ho
      have HRW := hid (dcells_at hr)
      have HOV := hid hov
      clear hov hr ho
      by_cases hfour : o.fourB = true
      · rw [if_pos hfour] at HRT
        have h14 : o.four := by unfold Dop.fourB at hfour; simpa [Dop.four] using hfour
        have H14 := hid h14
        have hk1 : (1 : Int) ≤ o.kind := h14.1
        have hk2 : o.kind ≤ 4 := h14.2
        obtain ⟨c0, c1, c2, c3, c4, c5, c6, c7, c8⟩ := HRW.out wr HB.out
        have HF0 := hid (HF.out j o.data.length hdl)
        clear hfour h14
        have i0 : (0 : Int) ≤ (j : Int) := by omega
        have i1 : (j : Int) < (ops.length : Int) := by omega
        have HW0 := hid (HRW.out wr HB.out)
        go_wp2
        go_region_held3 (fun W => W.cell? ⟨b, off + j * 9, none⟩ = some (.int .i64 o.kind) ∧ W.cell? ⟨b, off + j * 9 + 1, none⟩ = some (.int .i64 o.d) ∧ W.cell? ⟨b, off + j * 9 + 2, none⟩ = some (.int .i64 o.slot) ∧ W.cell? ⟨b, off + j * 9 + 3, none⟩ = some ov ∧ W.cell? ⟨b, off + j * 9 + 4, none⟩ = some (.int .i64 o.n) ∧ W.cell? ⟨b, off + j * 9 + 5, none⟩ = some (.bool o.done) ∧ W.cell? ⟨b, off + j * 9 + 6, none⟩ = some ox ∧ W.cell? ⟨b, off + j * 9 + 7, none⟩ = some oy ∧ W.cell? ⟨b, off + j * 9 + 8, none⟩ = some oz)
          (first | assumption | exact HW0.out | exact HW2.out | exact HW3.out)
          (first
            | (go_at_call 10; refine (wide_any ov o.data _ (HOV.out.below (below_then HB.out (drew_below wr))) (by omega)).mono ?_; rintro e w2 ⟨g, cw, rfl, how, hcw, hbw⟩; have HB2 := hid (below_then (below_then HB.out (drew_below wr)) hbw); have HW2 := hid (HRW.out w2 HB2.out); have HD2 := hid ((HD.out.below (drew_below wr)).below hbw); have HSW := hid (wide_sl how); clear how hbw)
            | (go_at_call 28; refine (lawact_db w.heap.size w2 d _ o ov ox oy oz _ o.data HB2.out.size HD2.out HF0.out H14.out HSW.out).mono ?_; rintro e w3 ⟨rfl, hd3, hb3⟩; have HB3 := hid (HB2.out.trans hb3); have HW3 := hid (HRW.out w3 HB3.out); have HD3 := hid hd3; clear hd3 hb3))
        go_wp2
        go_roundw
        case rel => exact ⟨j + 1, by omega, by go_num, by rw [HRT.out]; exact HD3.out, HB3.out⟩
        case measure => simp [intOf]; omega
      · rw [if_neg hfour] at HRT
        obtain ⟨c0, c1, c2, c3, c4, c5, c6, c7, c8⟩ := HRW.out wr HB.out
        have hk : ¬ (1 ≤ o.kind ∧ o.kind ≤ 4) := fun h => hfour (by unfold Dop.fourB; simpa using h)
        rcases Int.lt_or_le o.kind 1 with hk1 | hk1
        case' inl => have hk2 : ¬ (1 ≤ o.kind) := by omega
        case' inr => have hk2 : 4 < o.kind := by omega
        all_goals
          clear hk hfour c1 c2 c3 c4 c5 c6 c7 c8
          go_wp2
          go_roundw
          case rel => exact ⟨j + 1, by omega, by go_num, by rw [HRT.out]; exact HD.out, HB.out⟩
          case measure => simp [intOf]; omega
    · obtain rfl : j = ops.length := by omega
      rw [List.take_length] at HD
      go_wp2
      go_ret
      exact ⟨d, rfl, HD.out, HB.out⟩
end Go.Proofs.Ytcadacljacbipaa

/- Two disks that tell the same. -/
namespace Go.Proofs.Ytcadacljacbipaa
open Go.RowKit
set_option maxRecDepth 100000 in
set_option maxHeartbeats 4000000 in
theorem alike_any (w : World) (Sa Sb : Nat → Prop) (a b : Nat) (Da Db : Dk) (ha : DAt w Sa a Da) (hb : DAt w Sb b Db) (ra : Da.s0.room + Da.s1.room ≤ 140737488355328) (rb : Db.s0.room + Db.s1.room ≤ 140737488355328)
    (h0 : Da.told0 = Db.told0) (h1 : Da.told1 = Db.told1) (hc : Da.curN = Db.curN) :
    Calls Try.prog 21 #[.pointer (some ⟨a, 0, none⟩), .pointer (some ⟨b, 0, none⟩)] w fun e w' => e = .returned (.bool true) ∧ Below w.heap.size w w' := by
  have HA := hid ha
  have HB := hid hb
  have HC := hid hc
  have HT0 := hid h0
  have HT1 := hid h1
  clear ha hb hc h0 h1
  go_enter Try.func21, Try.ntmps21
  go_wp2_with fail
  refine (Slots_any w Sa a Da HA.out ra).mono ?_
  rintro e w1 ⟨v0, v1, rfl, ho0, ho1, -, hb1⟩
  obtain ⟨A0, p0, rfl⟩ := ho0.form
  obtain ⟨A1, p1, rfl⟩ := ho1.form
  have O0 := hid ho0.sl
  have O1 := hid ho1.sl
  have B1 := hid hb1
  rw [HC.out]
  clear ho0 ho1 hb1
  go_wp2_with fail
  refine Calls.seen (fun W => Below w1.heap.size w1 W ∧ W.heap[w1.heap.size]? = some (.cells #[.slice A0 Da.told0.length p0, .slice A1 Da.told1.length p1] 32 (0, 0))) ⟨(Below.refl _ _).alloc (Nat.le_refl _) _, heap_alloc_new _ _⟩ fun w2 H2 => ?_
  have B2 := hid (below_then B1.out H2.out.1)
  refine (Slots_any w2 Sb b Db (HB.out.below B2.out) rb).mono ?_
  rintro e w3 ⟨u0, u1, rfl, hq0, hq1, -, hb3⟩
  obtain ⟨C0, q0, rfl⟩ := hq0.form
  obtain ⟨C1, q1, rfl⟩ := hq1.form
  have B3 := hid (below_then B2.out hb3)
  have K := hid (blk_keep hb3 H2.out.2 (blk_lt H2.out.2))
  have c0 : w3.cell? ⟨w1.heap.size, 0, none⟩ = some (.slice A0 Da.told0.length p0) := by rw [blk_cell K.out]; rfl
  have c1 : w3.cell? ⟨w1.heap.size, 1, none⟩ = some (.slice A1 Da.told1.length p1) := by rw [blk_cell K.out]; rfl
  have hb2 := H2.out.1
  have s0 := conv_str (((O0.out.below hb2).below hb3).alloc (.cells #[.slice C0 Db.told0.length q0, .slice C1 Db.told1.length q1] 32))
  have s1 := conv_str (((O1.out.below hb2).below hb3).alloc (.cells #[.slice C0 Db.told0.length q0, .slice C1 Db.told1.length q1] 32))
  have z0 := conv_str (hq0.sl.alloc (.cells #[.slice C0 Db.told0.length q0, .slice C1 Db.told1.length q1] 32))
  have z1 := conv_str (hq1.sl.alloc (.cells #[.slice C0 Db.told0.length q0, .slice C1 Db.told1.length q1] 32))
  have hw1 := blk_lt K.out
  rw [HT0.out] at c0 s0
  rw [HT1.out] at c1 s1
  have HA3 := hid ((HA.out.below B3.out).below ((Below.refl _ _).alloc (Nat.le_refl _) (.cells #[.slice C0 Db.told0.length q0, .slice C1 Db.told1.length q1] 32)))
  have HB3 := hid ((HB.out.below B3.out).below ((Below.refl _ _).alloc (Nat.le_refl _) (.cells #[.slice C0 Db.told0.length q0, .slice C1 Db.told1.length q1] 32)))
  clear hq0 hq1 hb3 hb2
  go_wp2_with (first
    | (go_at_call 18; (with_reducible refine (Current_any _ Sa a Da HA3.out).mono ?_); rintro e w' ⟨rfl, rfl⟩; rw [HC.out])
    | (go_at_call 18; (with_reducible refine (Current_any _ Sb b Db HB3.out).mono ?_); rintro e w' ⟨rfl, rfl⟩))
  go_ret
  exact ⟨rfl, B3.out.alloc B3.out.size _⟩
end Go.Proofs.Ytcadacljacbipaa

/- head: what is appended and synced is found behind a crash. -/
namespace Go.Proofs.Ytcadacljacbipaa
open Go.RowKit
theorem DB.cells {B : Nat} {w : World} {d : Nat} {D : Dk} (h : DB B w d D) : d < w.heap.size := by
  obtain ⟨S, h1, h2⟩ := h
  exact h2.lt d h2.sd
theorem Append_db (B : Nat) (w : World) (d : Nat) (D : Dk) (n : Int) (v : Value) (da : List UInt8) (hB : B ≤ w.heap.size) (h : DB B w d D) (hf : D.fits da.length) (hv : SlB w v da) :
    Calls Try.prog 12 #[.pointer (some ⟨d, 0, none⟩), .int .i64 n, v] w fun e w' => e = .returned (.int .i64 (D.err n false)) ∧ DB B w' d (D.step n (.append da)) ∧ Below B w w' := by
  obtain ⟨S, h1, h2⟩ := h
  refine (Append_any w S d D n v da h2 hf hv).mono ?_
  rintro e w' ⟨rfl, h3⟩
  exact ⟨rfl, DB.of h1 hB h3⟩
theorem Sync_db (B : Nat) (w : World) (d : Nat) (D : Dk) (n : Int) (hB : B ≤ w.heap.size) (h : DB B w d D) (hf : D.fits 0) :
    Calls Try.prog 19 #[.pointer (some ⟨d, 0, none⟩), .int .i64 n] w fun e w' => e = .returned (.int .i64 (D.err n false)) ∧ DB B w' d (D.step n .sync) ∧ Below B w w' := by
  obtain ⟨S, h1, h2⟩ := h
  refine (Sync_any w S d D n h2 hf).mono ?_
  rintro e w' ⟨rfl, h3⟩
  exact ⟨rfl, DB.of h1 hB h3⟩
theorem Switch_db (B : Nat) (w : World) (d : Nat) (D : Dk) (n : Int) (hB : B ≤ w.heap.size) (h : DB B w d D) (hf : D.fits 0) :
    Calls Try.prog 24 #[.pointer (some ⟨d, 0, none⟩), .int .i64 n] w fun e w' => e = .returned (.int .i64 (D.err n false)) ∧ DB B w' d (D.step n .switch) ∧ Below B w w' := by
  obtain ⟨S, h1, h2⟩ := h
  refine (Switch_any w S d D n h2 hf).mono ?_
  rintro e w' ⟨rfl, h3⟩
  exact ⟨rfl, DB.of h1 hB h3⟩
theorem Crash_db (B : Nat) (w : World) (d : Nat) (D : Dk) (v : Value) (cs : List Int) (hB : B ≤ w.heap.size) (h : DB B w d D) (hf : D.fits 0) (hv : SlZ w v cs) (hvS : 0 < cs.length → ∀ k, v.ownBlock = some k → ∀ S : Nat → Prop, (∀ k, S k → B ≤ k) → DAt w S d D → ¬ S k) :
    Calls Try.prog 14 #[.pointer (some ⟨d, 0, none⟩), v] w fun e w' => ∃ fd, e = .returned (.pointer (some ⟨fd, 0, none⟩)) ∧ DB B w' d { D with dead := true } ∧ DB w.heap.size w' fd (D.crashed cs) ∧ Below B w w' ∧ Fr (fun k => k = d) w w' := by
  obtain ⟨S, h1, h2⟩ := h
  refine (Crash_any w S d D v cs h2 hf hv (fun h0 k hk => hvS h0 k hk S h1 h2)).mono ?_
  rintro e w' ⟨fd, rfl, h3, h4, h5⟩
  exact ⟨fd, rfl, ⟨S, h1, h4⟩, ⟨_, fun k hk => hk.1, h5⟩, h3.to_below (fun k hk e => by have := h1 d h2.sd; omega) hB, h3⟩
theorem litZ (w : World) (l : List Int) (hr : ∀ n ∈ l, -9223372036854775808 ≤ n ∧ n ≤ 9223372036854775807) {fr : Nat × Nat} : SlZ (w.alloc (.cells (l.map (Value.int .i64)).toArray 3 fr)) (.slice (some ⟨w.heap.size, 0, none⟩) l.length l.length) l := by
  refine ⟨⟨_, _, rfl, Nat.le_refl _, (fun h => by cases h), fun _ => ⟨w.heap.size, 0, rfl, fun i hi => ?_⟩⟩, hr⟩
  rw [cell_of_row _ _ _ _ _ _ (heap_alloc_new _ _)]
  simp [hi]
def hd1 : Dk := Dk.new.step 1 (.append [97, 98])
def hd2 : Dk := hd1.step 1 .sync
def hd3 : Dk := hd2.step 1 (.append [99, 100])
def hd4 : Dk := hd3.step 1 .switch
theorem hd_fits : Dk.new.fits 2 ∧ hd1.fits 0 ∧ hd2.fits 2 ∧ hd3.fits 0 ∧ hd4.fits 0 ∧ ({ hd4 with dead := true } : Dk).fits 0 := by
  refine ⟨⟨?_, ?_, ?_, ?_⟩, ⟨?_, ?_, ?_, ?_⟩, ⟨?_, ?_, ?_, ?_⟩, ⟨?_, ?_, ?_, ?_⟩, ⟨?_, ?_, ?_, ?_⟩, ⟨?_, ?_, ?_, ?_⟩⟩ <;> decide
set_option maxRecDepth 100000 in
set_option maxHeartbeats 4000000 in
theorem head_any (w : World) : Calls Try.prog 11 #[] w fun e w' => e = .returned (.bool true) ∧ Below w.heap.size w w' := by
  have kc := fun (w : World) (C : Array Value) (n c : Nat) => Lib.run_convert_bytes_const (P := Try.prog) w 22 5 C n c Try.underlying22 Try.underlying5
  go_enter Try.func11, Try.ntmps11
  go_wp2_with fail
  refine (New_any w).mono ?_
  rintro e w1 ⟨d, rfl, hb1, hd⟩
  have HD1 : Hid (DB w.heap.size w1 d Dk.new) := hid ⟨_, fun k hk => hk.1, hd⟩
  have HB1 := hid hb1
  clear hd hb1
  go_wp2_with fail
  refine (Append_db w.heap.size _ d Dk.new 1 _ [97, 98] (Nat.le_trans HB1.out.size (by simp)) (HD1.out.below ((Below.refl _ _).alloc (Nat.le_refl _) _)) hd_fits.1 (lit_sl w1 [97, 98] (by simp))).mono ?_
  rintro e w2 ⟨he, h2, hb2⟩
  obtain rfl : e = .returned (.int .i64 0) := he
  have HD2 : Hid (DB w.heap.size w2 d hd1) := hid h2
  have HB2 := hid ((HB1.out.alloc HB1.out.size _).trans hb2)
  clear h2 hb2
  go_wp2_with fail
  refine (Sync_db w.heap.size _ d hd1 1 HB2.out.size HD2.out hd_fits.2.1).mono ?_
  rintro e w3 ⟨he, h2, hb2⟩
  obtain rfl : e = .returned (.int .i64 0) := he
  have HD3 : Hid (DB w.heap.size w3 d hd2) := hid h2
  have HB3 := hid (HB2.out.trans hb2)
  clear h2 hb2
  go_wp2_with fail
  refine (Append_db w.heap.size _ d hd2 1 _ [99, 100] (Nat.le_trans HB3.out.size (by simp)) (HD3.out.below ((Below.refl _ _).alloc (Nat.le_refl _) _)) hd_fits.2.2.1 (lit_sl w3 [99, 100] (by simp))).mono ?_
  rintro e w4 ⟨he, h2, hb2⟩
  obtain rfl : e = .returned (.int .i64 0) := he
  have HD4 : Hid (DB w.heap.size w4 d hd3) := hid h2
  have HB4 := hid ((HB3.out.alloc HB3.out.size _).trans hb2)
  clear h2 hb2
  go_wp2_with fail
  refine (Switch_db w.heap.size _ d hd3 1 HB4.out.size HD4.out hd_fits.2.2.2.1).mono ?_
  rintro e w5 ⟨he, h2, hb2⟩
  obtain rfl : e = .returned (.int .i64 0) := he
  have HD5 : Hid (DB w.heap.size w5 d hd4) := hid h2
  have HB5 := hid (HB4.out.trans hb2)
  clear h2 hb2
  go_wp2_with fail
  obtain ⟨S5, hS5, hA5⟩ := HD5.out
  have hlz := litZ w5 [0, 0, 1] (by intro n hn; simp at hn; omega) (fr := (0, 0))
  refine (Crash_any _ S5 d hd4 _ [0, 0, 1] (hA5.below ((Below.refl _ _).alloc (Nat.le_refl _) _)) hd_fits.2.2.2.2.1 hlz (fun _ k hk hs => by
    have := hA5.lt k hs
    injection hk with hk
    have hk : w5.heap.size = k := hk
    omega)).mono ?_
  rintro e w6 ⟨fd, rfl, h6, h7, h8⟩
  have HD6 : Hid (DAt w6 S5 d { hd4 with dead := true }) := hid h7
  have HF6 := hid h8
  have HS5 := hid hS5
  have HL5 := hid hA5.lt
  have HB6 : Hid (Below w.heap.size w w6) := hid ((HB5.out.alloc HB5.out.size _).trans (h6.to_below (fun k hk e => by have := hS5 d hA5.sd; omega) (Nat.le_trans HB5.out.size (by simp))))
  clear h6 h7 h8 hS5 hA5 hlz
  go_wp2_with fail
  refine (Dead_any _ S5 d _ HD6.out).mono ?_
  rintro e w' ⟨rfl, hw⟩
  replace hw := hw.symm
  subst hw
  go_wp2_with fail
  refine (Append_any _ S5 d _ 0 _ [] HD6.out hd_fits.2.2.2.2.2 (Sl.nil _ _)).mono ?_
  rintro e w7 ⟨he, h7⟩
  obtain rfl : e = .returned (.int .i64 60) := he
  have HB7 : Hid (Below w.heap.size w w7) := hid (HB6.out.trans (h7.2.to_below (fun k hk g => by have := HS5.out k g; omega) HB6.out.size))
  have HF7 : Hid (DAt w7 (fun k => Nw (w5.alloc (.cells #[.int .i64 0, .int .i64 0, .int .i64 1] 3)) w6 k) fd (hd4.crashed [0, 0, 1])) := hid (HF6.out.fr h7.2 (fun k hk hs => by have h1 := HL5.out k hs; have h2 := hk.1; simp at h2; omega) (fun _ h => h) (fun k hk => by have := hk.2; have := h7.2.size; omega))
  clear h7
  go_wp2_with fail
  refine (Read_any _ _ fd _ 1 HF7.out (by decide)).mono ?_
  rintro e w8 ⟨v, he, ho8, hb8⟩
  obtain rfl : e = .returned (.tuple #[v, .int .i64 0]) := he
  have hv : OwnB w8 w7.heap.size v [97, 98, 99] := ho8
  obtain ⟨Av, cv, rfl⟩ := hv.form
  have hs : (convert 22 9 (.slice Av 3 cv)).run Try.prog w8 = .ok (.string ⟨#[97, 98, 99]⟩) w8 := conv_str hv.sl
  have HF8 := hid (HF7.out.below hb8)
  have HB8 := hid (HB7.out.trans (hb8.mono HB7.out.size))
  clear ho8 hb8 hv
  go_wp2_with fail
  refine (Current_any _ _ fd _ HF8.out).mono ?_
  rintro e w' ⟨he, hw⟩
  replace hw := hw.symm
  subst hw
  obtain rfl : e = .returned (.int .i64 1) := he
  go_wp2_with fail
  refine (Acts_any _ _ fd _ HF8.out).mono ?_
  rintro e w' ⟨he, hw⟩
  replace hw := hw.symm
  subst hw
  obtain rfl : e = .returned (.int .i64 0) := he
  go_wp2
  go_ret
  exact ⟨rfl, HB8.out⟩
end Go.Proofs.Ytcadacljacbipaa

/- The walk of the law DiskLasts. -/
namespace Go.Proofs.Ytcadacljacbipaa
open Go.RowKit
theorem slz_lt {w : World} {v : Value} {l : List Int} (h : SlZ w v l) (h0 : 0 < l.length) : ∀ k, v.ownBlock = some k → k < w.heap.size := by
  intro k hk
  obtain ⟨⟨A, c, rfl, h1, h2, h3⟩, _⟩ := h
  obtain ⟨b, off, rfl, hc⟩ := h3 h0
  have hb := World.block_lt_of_cell? w _ (hc 0 h0)
  injection hk with hk
  have hk : b = k := hk
  subst hk
  exact hb
theorem SlZ.below {w w' : World} {v : Value} {l : List Int} (h : SlZ w v l) (hb : Below w.heap.size w w') : SlZ w' v l := h.fr (Fr.of_below hb) (fun _ _ _ h => h)
/-- Crash by choices that were there ahead of the disk -/
theorem Crash_old (w0 w : World) (d : Nat) (D : Dk) (v : Value) (cs : List Int) (hb : Below w0.heap.size w0 w) (h : DB w0.heap.size w d D) (hf : D.fits 0) (hv : SlZ w0 v cs) :
    Calls Try.prog 14 #[.pointer (some ⟨d, 0, none⟩), v] w fun e w' => ∃ fd, e = .returned (.pointer (some ⟨fd, 0, none⟩)) ∧ DB w0.heap.size w' d { D with dead := true } ∧ DB w.heap.size w' fd (D.crashed cs) ∧ Below w0.heap.size w0 w' ∧ Fr (fun k => k = d) w w' := by
  refine (Crash_db w0.heap.size w d D v cs hb.size h hf (hv.below hb) (fun h0 k hk S hS _ hs => ?_)).mono ?_
  · have h1 := slz_lt hv h0 k hk
    have h2 := hS k hs
    omega
  · rintro e w' ⟨fd, rfl, h1, h2, h3, h4⟩
    exact ⟨fd, rfl, h1, h2, hb.trans h3, h4⟩
theorem cmod2 (k : Int) : cmod k 2 = 0 ∨ cmod k 2 = 1 := by have := cmod_lt k (show 0 < 2 by omega); omega
/-- of a living disk with no act named -/
structure Live (D : Dk) : Prop where
  d : D.dead = false
  n : D.named = 0
theorem Live.err {D : Dk} (h : Live D) {i : Int} (hi : i = 0 ∨ i = 1) (b : Bool) (hb : b = true → i ≠ (D.cur : Int)) : D.err i b = 0 := by
  unfold Dk.err
  rw [if_neg (by rw [h.d]; decide), if_neg, if_neg (by rw [h.n]; decide)]
  intro hbad
  unfold Dk.bad at hbad
  rw [Bool.or_eq_true, Bool.and_eq_true, Bool.and_eq_true] at hbad
  rcases hbad with ⟨h1, h2⟩ | ⟨h1, h2⟩
  · rcases hi with rfl | rfl
    · cases h1
    · cases h2
  · exact hb h1 (by simpa using h2)
theorem Live.step {D : Dk} (h : Live D) {i : Int} (hi : i = 0 ∨ i = 1) (o : DOp) (hb : o.wipes = true → i ≠ (D.cur : Int)) : D.step i o = (o.eff i.toNat D.near).more := by
  unfold Dk.step
  rw [if_neg (by rw [h.d]; decide), if_neg, if_neg (by rw [h.n]; intro h; cases h.1)]
  intro hbad
  unfold Dk.bad at hbad
  rw [Bool.or_eq_true, Bool.and_eq_true, Bool.and_eq_true] at hbad
  rcases hbad with ⟨h1, h2⟩ | ⟨h1, h2⟩
  · rcases hi with rfl | rfl
    · cases h1
    · cases h2
  · exact hb h1 (by simpa using h2)
theorem runD_live (ops : List Dop) : Live (runD Dk.new ops) := by
  obtain ⟨_, h1, h2⟩ := runD_state Dk.new 0 0 new_mild rfl rfl ops
  exact ⟨h2, h1⟩
theorem crash_synced (l : List UInt8) (cs : List Int) : (Dslot.crash ⟨l, []⟩ cs).1 = l := by
  unfold Dslot.crash
  simp [doAll]
theorem now_synced (l : List UInt8) : (Dslot.mk l []).now = l := rfl
/-- the synced slot is behind a crash what it was -/
theorem sync_lasts {D : Dk} (h : Live D) {i : Int} (hi : i = 0 ∨ i = 1) (cs : List Int) :
    (D.step i .sync).readE i = 0 ∧ ((D.step i .sync).crashed cs).readE i = 0 ∧ ((D.step i .sync).crashed cs).readB i = (D.step i .sync).readB i ∧ ((D.step i .sync).crashed cs).curN = D.curN ∧ ((D.step i .sync).crashed cs).pending = 0 ∧ ((D.step i .sync).crashed cs).dead = false ∧ ((D.step i .sync).crashed cs).s0.room + ((D.step i .sync).crashed cs).s1.room = (((D.step i .sync).s0.crash cs).1).length + ((D.step i .sync).s1.crash ((D.step i .sync).s0.crash cs).2).1.length := by
  have hs := h.step hi .sync (fun h => by cases h)
  have hd : (D.step i .sync).dead = false := by
    rw [hs]; show (DOp.sync.eff i.toNat D.near).dead = false
    rw [eff_dead]; show (D.named == 1) = false; rw [h.n]; rfl
  have hc : (D.step i .sync).cur = D.cur := by
    rw [hs]
    rcases hi with rfl | rfl <;> rfl
  have hE : (D.step i .sync).readE i = 0 := by unfold Dk.readE; rw [if_neg (by rw [hd]; decide), if_pos hi]
  have nd : ¬ ((D.step i .sync).crashed cs).dead = true := fun h => Bool.noConfusion (show false = true from h)
  have nd2 : ¬ (D.step i .sync).dead = true := by rw [hd]; exact fun h => Bool.noConfusion h
  have nd3 : ¬ D.dead = true := by rw [h.d]; exact fun h => Bool.noConfusion h
  refine ⟨hE, ?_, ?_, ?_, rfl, rfl, rfl⟩
  · unfold Dk.readE; rw [if_neg nd, if_pos hi]
  · rcases hi with rfl | rfl
    · have h0 : (D.step 0 .sync).s0 = ⟨D.s0.now, []⟩ := by rw [hs]; rfl
      unfold Dk.readB
      rw [if_neg nd, if_neg nd2, if_pos rfl, if_pos rfl]
      show ((D.step 0 .sync).s0.crash cs).1 = (D.step 0 .sync).s0.now
      rw [h0, crash_synced]; rfl
    · have h0 : (D.step 1 .sync).s1 = ⟨D.s1.now, []⟩ := by rw [hs]; rfl
      unfold Dk.readB
      rw [if_neg nd, if_neg nd2, if_neg (show ¬ (1 : Int) = 0 by omega), if_pos rfl, if_neg (show ¬ (1 : Int) = 0 by omega), if_pos rfl]
      show ((D.step 1 .sync).s1.crash ((D.step 1 .sync).s0.crash cs).2).1 = (D.step 1 .sync).s1.now
      rw [h0, crash_synced]; rfl
  · unfold Dk.curN
    rw [if_neg nd, if_neg nd3]
    exact hc
theorem crash_le (s : Dslot) (cs : List Int) : (s.crash cs).1.length ≤ s.room := by
  have key : ∀ k, (doAll (s.acts.take k) s.lasts).length ≤ s.lasts.length + sizes (s.acts.take k) := fun k => doAll_length _ _
  unfold Dslot.crash
  simp only
  split
  · rename_i d hd
    have h1 := key (pick1 cs (s.acts.length + 1))
    obtain ⟨hi, e⟩ := List.getElem?_eq_some_iff.1 hd
    have h2 := sizes_take s.acts _ hi
    rw [e] at h2
    have h3 : (DAct.app d).size = d.length := rfl
    have h4 : (d.take (pick1 cs.tail d.length)).length ≤ d.length := by simp; omega
    simp only [List.length_append, Dslot.room]
    omega
  · have h1 := key (pick1 cs (s.acts.length + 1))
    have h2 : sizes (s.acts.take (pick1 cs (s.acts.length + 1))) ≤ sizes s.acts := by
      have : sizes (s.acts.take (pick1 cs (s.acts.length + 1))) + sizes (s.acts.drop (pick1 cs (s.acts.length + 1))) = sizes s.acts := by
        unfold sizes; rw [← List.sum_append, ← List.map_append, List.take_append_drop]
      omega
    simp only [Dslot.room]
    omega
theorem crashed_room (D : Dk) (cs : List Int) : (D.crashed cs).s0.room + (D.crashed cs).s1.room ≤ D.s0.room + D.s1.room := by
  have h1 := crash_le D.s0 cs
  have h2 := crash_le D.s1 (D.s0.crash cs).2
  show (D.s0.crash cs).1.length + sizes [] + ((D.s1.crash (D.s0.crash cs).2).1.length + sizes []) ≤ _
  have : sizes [] = 0 := rfl
  omega
set_option maxRecDepth 100000 in
set_option maxHeartbeats 8000000 in
theorem DiskLasts_walk (sv cv : Value) (ops : List Dop) (cs : List Int) (n : Int) (w : World) (n0 : -9223372036854775808 ≤ n) (n1 : n ≤ 9223372036854775807) (hS : SlR Dop.R 9 w sv ops) (hC : SlZ w cv cs) (hM : bytesD ops ≤ 1048576) (hlen : ops.length ≤ 1048576) :
    Calls Try.prog 4 #[sv, .int .i64 n, cv] w fun e w' => e = .returned (.bool true) ∧ Below w.heap.size w w' := by
  have HS := hid hS
  have HC := hid hC
  have HL := hid (runD_live ops)
  have hf := new_run_fits ops ops.length hM hlen 0 (by omega)
  rw [List.take_length] at hf
  have HF := hid hf
  obtain ⟨Cv, pc, rfl⟩ := hC.form
  obtain ⟨A, c, rfl⟩ : ∃ A c, sv = .slice A ops.length c := by obtain ⟨A, c, _, e, h, _⟩ := hS; exact ⟨A, c, e⟩
  clear hS hC hf
  go_enter Try.func4, Try.ntmps4
  go_wp2_with fail
  refine (begun_any _ ops w HS.out hM hlen).mono ?_
  rintro e w1 ⟨d, rfl, hd, hb⟩
  have HD1 := hid hd
  have HB1 := hid hb
  clear hd hb
  go_wp2_with fail
  refine (head_any w1).mono ?_
  rintro e w2 ⟨rfl, hb⟩
  have HD2 := hid (HD1.out.below hb)
  have HB2 := hid (below_then HB1.out hb)
  clear hb HD1 HB1
  go_wp2_with fail
  refine (mod_any n 2 n0 n1 (by omega) (by omega) w2).mono ?_
  rintro e w' ⟨rfl, hw⟩
  replace hw := hw.symm
  subst hw
  obtain ⟨i, hi⟩ : ∃ i : Int, (cmod n 2 : Int) = i := ⟨_, rfl⟩
  have hi01 : i = 0 ∨ i = 1 := by rcases cmod2 n with h | h <;> rw [h] at hi <;> omega
  rw [hi]
  have HI := hid hi01
  obtain ⟨hmild, _, _⟩ := runD_state Dk.new 0 0 new_mild rfl rfl ops
  obtain ⟨D, hD⟩ : ∃ D, runD Dk.new ops = D := ⟨_, rfl⟩
  rw [hD] at HL HF HD2 hmild
  obtain ⟨s1, s2, s3, s4, s5, s6, _⟩ := sync_lasts HL.out HI.out cs
  have HE := hid (HL.out.err HI.out false (fun h => by cases h))
  have q1 := step_room D i .sync
  have q4 := step_named D i .sync
  have q5 := crashed_room (D.step i .sync) cs
  have hf2 : (D.step i .sync).fits 0 := (hmild.step i .sync).fits (by have := HL.out.n; omega) (by omega) (by show 0 + bytesD ops + 0 + 0 ≤ _; omega)
  have HF2 := hid hf2
  have hroom2 := hf2.room
  obtain ⟨D2, hD2⟩ : ∃ D2, D.step i .sync = D2 := ⟨_, rfl⟩
  rw [hD2] at s1 s2 s3 s4 s5 s6 HF2 hroom2 q5
  have T1 := hid s1
  have T2 := hid s2
  have T3 := hid s3
  have T4 := hid s4
  have T5 := hid s5
  have T6 := hid s6
  have HD2e := hid hD2
  clear hi hD hi01 hf2 s1 s2 s3 s4 s5 s6 q1 q4 hmild hD2
  obtain ⟨cu, hcu⟩ : ∃ cu, D.curN = cu := ⟨_, rfl⟩
  have HCU := hid hcu
  clear hcu
  obtain ⟨S, hS, hA⟩ := HD2.out
  go_wp2_with fail
  refine (Current_any w2 S d D hA).mono ?_
  rw [HCU.out]
  rintro e w' ⟨rfl, hw⟩
  replace hw := hw.symm
  subst hw
  clear hS hA
  go_wp2_with fail
  refine (Sync_db w.heap.size w2 d D i HB2.out.size HD2.out HF.out).mono ?_
  rw [HE.out, HD2e.out]
  rintro e w3 ⟨rfl, hd3, hb3⟩
  have HD3 := hid hd3
  have HB3 := hid (HB2.out.trans hb3)
  clear hd3 hb3 HD2 HB2
  obtain ⟨S, hS, hA⟩ := HD3.out
  go_wp2_with fail
  refine (Read_any w3 S d D2 i hA (by omega)).mono ?_
  rw [T1.out]
  rintro e w4 ⟨v4, rfl, hv4, hb4⟩
  obtain ⟨A4, c4, rfl⟩ := hv4.form
  have HV4 := hid hv4.sl
  have HO4 := hid hv4
  have HD4 := hid (HD3.out.below hb4)
  have HB4 := hid (below_then HB3.out hb4)
  obtain ⟨l4, hl4⟩ : ∃ l4, D2.readB i = l4 := ⟨_, rfl⟩
  rw [hl4] at HV4 HO4 ⊢
  have HL4 := hid hl4
  clear hS hA hv4 hb4 hl4
  go_wp2_with fail
  refine (Crash_old w w4 d D2 _ cs HB4.out HD4.out HF2.out HC.out).mono ?_
  rintro e w5 ⟨fd, rfl, -, hf5, hb5, hfr5⟩
  have HF5 := hid hf5
  have HB5 := hid hb5
  have HV5 : Hid (SlB w5 (.slice A4 l4.length c4) l4) := hid (sl_fr0 HV4.out hfr5 (fun h0 k hk e => by
    have := (World.ownsRow.lt HO4.out k hk).1
    have := HD3.out.cells
    omega))
  clear hf5 hb5 hfr5
  obtain ⟨S5, hS5, hA5⟩ := HF5.out
  go_wp2_with fail
  refine (Read_any w5 S5 fd _ i hA5 (by omega)).mono ?_
  rw [T2.out, T3.out, HL4.out]
  rintro e w6 ⟨v6, rfl, hv6, hb6⟩
  obtain ⟨A6, c6, rfl⟩ := hv6.form
  have k6 := conv_str hv6.sl
  have k4 := conv_str (HV5.out.below hb6)
  have HA6 := hid (hA5.below hb6)
  have HB6 := hid (below_then HB5.out hb6)
  clear hS5 hA5 hv6 hb6
  go_wp2_with fail
  refine (Current_any w6 S5 fd _ HA6.out).mono ?_
  rw [T4.out, HCU.out]
  rintro e w' ⟨rfl, hw⟩
  replace hw := hw.symm
  subst hw
  go_wp2_with fail
  refine (Pending_any w6 S5 fd _ HA6.out (by rw [T5.out]; omega)).mono ?_
  rw [T5.out]
  rintro e w7 ⟨rfl, n7, hw⟩
  have HA7 : Hid (DAt w7 S5 fd (D2.crashed cs)) := hid (by rw [hw]; exact HA6.out.below (below_drewN (Below.refl _ _) _))
  have HB7 : Hid (Below w.heap.size w w7) := hid (by rw [hw]; exact below_drewN HB6.out _)
  clear hw
  go_wp2_with fail
  refine (Dead_any w7 S5 fd _ HA7.out).mono ?_
  rw [T6.out]
  rintro e w' ⟨rfl, hw⟩
  replace hw := hw.symm
  subst hw
  go_wp2
  go_ret
  exact ⟨rfl, HB7.out⟩
end Go.Proofs.Ytcadacljacbipaa
