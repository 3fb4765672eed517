/- What pieces leave of a slot behind a crash. No program in sight. -/
import Derived.Test.YtcadacljacbipaaDkX
import Derived.Test.YtcadacljacbipaaDkL
namespace Go.Proofs.Ytcadacljacbipaa
def ne (ps : List (List UInt8)) : List (List UInt8) := ps.filter (fun p => decide (0 < p.length))
theorem ne_flatten (ps : List (List UInt8)) : (ne ps).flatten = ps.flatten := by
  induction ps with
  | nil => rfl
  | cons p ps ih =>
    unfold ne at ih ⊢
    by_cases h : 0 < p.length
    · rw [List.filter_cons_of_pos (by simpa using h)]; simp [ih]
    · rw [List.filter_cons_of_neg (by simpa using h)]
      obtain rfl : p = [] := List.length_eq_zero_iff.1 (by omega)
      simp [ih]
def tearD (l : List UInt8) (ps : List (List UInt8)) : Dk := ⟨⟨l, (ne ps).map .app⟩, ⟨l, []⟩, 0, ps.length, 0, false, false⟩
theorem ne_snoc (ps : List (List UInt8)) (p : List UInt8) : ne (ps ++ [p]) = if 0 < p.length then ne ps ++ [p] else ne ps := by
  unfold ne
  rw [List.filter_append]
  by_cases h : 0 < p.length
  · rw [if_pos h, List.filter_cons_of_pos (by simpa using h)]; rfl
  · rw [if_neg h, List.filter_cons_of_neg (by simpa using h)]; simp
theorem tearD_err (l : List UInt8) (ps : List (List UInt8)) : (tearD l ps).err 0 false = 0 := rfl
theorem tearD_step (l : List UInt8) (ps : List (List UInt8)) (p : List UInt8) : (tearD l ps).step 0 (.append p) = tearD l (ps ++ [p]) := by
  have h1 : (tearD l ps).step 0 (.append p) = ((DOp.append p).eff 0 (tearD l ps).near).more := rfl
  rw [h1]
  by_cases h : 0 < p.length
  · rw [show (DOp.append p).eff 0 (tearD l ps).near = (tearD l ps).near.setSlot 0 (((tearD l ps).near.slot 0).do (.app p)) from if_pos h]
    unfold tearD
    rw [ne_snoc, if_pos h]
    simp [Dk.near, Dk.setSlot, Dk.slot, Dslot.do, Dk.more]
  · rw [show (DOp.append p).eff 0 (tearD l ps).near = (tearD l ps).near from if_neg h]
    unfold tearD
    rw [ne_snoc, if_neg h]
    simp [Dk.near, Dk.more]
theorem doAll_app (qs : List (List UInt8)) (l : List UInt8) : doAll (qs.map .app) l = l ++ qs.flatten := by
  induction qs generalizing l with
  | nil => simp [doAll]
  | cons q qs ih =>
    have : doAll ((q :: qs).map .app) l = doAll (qs.map .app) (l ++ q) := rfl
    rw [this, ih]; simp
theorem sizes_app (qs : List (List UInt8)) : sizes (qs.map .app) = qs.flatten.length := by
  induction qs with
  | nil => rfl
  | cons q qs ih =>
    have : sizes ((q :: qs).map DAct.app) = q.length + sizes (qs.map .app) := by simp [sizes, DAct.size]
    rw [this, ih]; simp
/-- what a crash leaves, in words of the pieces -/
theorem crash_app (l : List UInt8) (qs : List (List UInt8)) (cs : List Int) : (Dslot.crash ⟨l, qs.map .app⟩ cs).1 =
    match qs[pick1 cs (qs.length + 1)]? with
    | some d => l ++ (qs.take (pick1 cs (qs.length + 1))).flatten ++ d.take (pick1 cs.tail d.length)
    | none => l ++ (qs.take (pick1 cs (qs.length + 1))).flatten := by
  unfold Dslot.crash
  simp only [List.length_map]
  generalize pick1 cs (qs.length + 1) = k
  rw [← List.map_take, doAll_app, List.getElem?_map]
  cases qs[k]? with
  | none => rfl
  | some d => rfl
theorem take_flat (qs : List (List UInt8)) (k : Nat) (d : List UInt8) (h : qs[k]? = some d) : qs.flatten = (qs.take k).flatten ++ (d ++ (qs.drop (k + 1)).flatten) := by
  obtain ⟨hk, rfl⟩ := List.getElem?_eq_some_iff.1 h
  have e : qs = qs.take k ++ (qs[k] :: qs.drop (k + 1)) := by rw [← List.drop_eq_getElem_cons hk, List.take_append_drop]
  have h2 := congrArg List.flatten e
  rw [List.flatten_append, List.flatten_cons] at h2
  exact h2
theorem crash_prefix (l : List UInt8) (qs : List (List UInt8)) (cs : List Int) : (Dslot.crash ⟨l, qs.map .app⟩ cs).1 <+: l ++ qs.flatten ∧ l.length ≤ (Dslot.crash ⟨l, qs.map .app⟩ cs).1.length := by
  rw [crash_app]
  cases h : qs[pick1 cs (qs.length + 1)]? with
  | none =>
    simp only
    refine ⟨?_, by simp⟩
    rw [List.prefix_append_right_inj]
    conv => rhs; rw [← List.take_append_drop (pick1 cs (qs.length + 1)) qs]
    rw [List.flatten_append]
    exact List.prefix_append _ _
  | some d =>
    simp only
    refine ⟨?_, by simp⟩
    rw [List.append_assoc, List.prefix_append_right_inj, take_flat qs _ d h, List.prefix_append_right_inj]
    exact (List.take_prefix _ _).trans (List.prefix_append _ _)
/-- the choices that the chapter names -/
theorem crash_named (l : List UInt8) (qs : List (List UInt8)) (whole rest left : Nat) (hw : whole ≤ qs.length) (hsum : (qs.take whole).flatten.length + rest = left) (hleft : left ≤ qs.flatten.length) (hstop : ∀ d, qs[whole]? = some d → rest < d.length) :
    (Dslot.crash ⟨l, qs.map .app⟩ [(whole : Int), (rest : Int)]).1 = (l ++ qs.flatten).take (l.length + left) := by
  have hp : pick1 [(whole : Int), (rest : Int)] (qs.length + 1) = whole := by
    show cmod (whole : Int) (qs.length + 1) = whole
    unfold cmod
    rw [← Int.natCast_emod, Int.toNat_natCast, Nat.mod_eq_of_lt (by omega)]
  rw [crash_app, hp, List.take_length_add_append]
  cases h : qs[whole]? with
  | none =>
    have hl : qs.length ≤ whole := by
      rcases Nat.lt_or_ge whole qs.length with h2 | h2
      · rw [List.getElem?_eq_getElem h2] at h; cases h
      · exact h2
    simp only
    rw [List.take_of_length_le hl] at hsum ⊢
    rw [List.take_of_length_le (by omega)]
  | some d =>
    have hr := hstop d h
    have hp2 : pick1 [(rest : Int)] d.length = rest := by
      show cmod (rest : Int) d.length = rest
      unfold cmod
      rw [← Int.natCast_emod, Int.toNat_natCast, Nat.mod_eq_of_lt hr]
    simp only [List.tail_cons, hp2]
    rw [take_flat qs whole d h, List.append_assoc]
    congr 1
    rw [← hsum, List.take_length_add_append, List.take_append_of_le_length (by omega)]
theorem take_succ_len (qs : List (List UInt8)) (k : Nat) (d : List UInt8) (h : qs[k]? = some d) : (qs.take (k + 1)).flatten.length = (qs.take k).flatten.length + d.length := by
  obtain ⟨hk, rfl⟩ := List.getElem?_eq_some_iff.1 h
  rw [List.take_succ_eq_append_getElem hk, List.flatten_append, List.length_append]
  simp only [List.flatten_cons, List.flatten_nil, List.append_nil]
theorem take_flat_le (qs : List (List UInt8)) (k : Nat) : (qs.take k).flatten.length ≤ qs.flatten.length := by
  have : qs.flatten = (qs.take k).flatten ++ (qs.drop k).flatten := by rw [← List.flatten_append, List.take_append_drop]
  rw [this]; simp
theorem take_one (ps : List (List UInt8)) (j : Nat) (p : List UInt8) (h : ps[j]? = some p) : ps.take (j + 1) = ps.take j ++ [p] := by
  obtain ⟨hk, rfl⟩ := List.getElem?_eq_some_iff.1 h
  exact List.take_succ_eq_append_getElem hk
theorem flat_one (l : List UInt8) (ps : List (List UInt8)) (j : Nat) (p : List UInt8) (h : ps[j]? = some p) : l ++ (ps.take (j + 1)).flatten = l ++ (ps.take j).flatten ++ p := by
  rw [take_one ps j p h, List.flatten_append]
  simp
theorem lens_one (ps : List (List UInt8)) (j : Nat) (p : List UInt8) (h : ps[j]? = some p) (h0 : 0 < p.length) : (ne (ps.take (j + 1))).map List.length = (ne (ps.take j)).map List.length ++ [p.length] := by
  rw [take_one ps j p h, ne_snoc, if_pos h0, List.map_append]; rfl
theorem lens_none (ps : List (List UInt8)) (j : Nat) (p : List UInt8) (h : ps[j]? = some p) (h0 : ¬ 0 < p.length) : ne (ps.take (j + 1)) = ne (ps.take j) := by
  rw [take_one ps j p h, ne_snoc, if_neg h0]
theorem tear_pending (l : List UInt8) (ps : List (List UInt8)) : (tearD l ps).pending = (ne ps).length := by
  show ((ne ps).map DAct.app).length + 0 = _
  simp
theorem tear_read0 (l : List UInt8) (ps : List (List UInt8)) (cs : List Int) (D : Dk) (h : D.s0 = (tearD l ps).s0) (h1 : D.s1 = (tearD l ps).s1) : (D.crashed cs).readB 0 = (Dslot.crash ⟨l, (ne ps).map .app⟩ cs).1 ∧ (D.crashed cs).readE 0 = 0 ∧ (D.crashed cs).readB 1 = l ∧ (D.crashed cs).readE 1 = 0 := by
  refine ⟨?_, rfl, ?_, rfl⟩
  · show doAll [] (D.s0.crash cs).1 = _
    rw [h]; rfl
  · show doAll [] (D.s1.crash (D.s0.crash cs).2).1 = _
    rw [h1]
    generalize (D.s0.crash cs).2 = cs2
    show (Dslot.crash ⟨l, []⟩ cs2).1 = l
    unfold Dslot.crash
    simp [doAll]
theorem ne_le (ps : List (List UInt8)) : (ne ps).length ≤ ps.length := List.length_filter_le _ _
end Go.Proofs.Ytcadacljacbipaa
