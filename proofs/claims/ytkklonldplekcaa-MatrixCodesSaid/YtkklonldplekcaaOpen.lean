/- What the reading of an argument gives: slices of bytes, of rows, of structs. -/
import Derived.Test.YtkklonldplekcaaLib
import Derived.Test.YtkklonldplekcaaRows
import Derived.ProofKit
import Derived.OpenShut
namespace Go.Proofs.Ytkklonldplekcaa
open Go.RowKit Go.ChangeShapes Go.WideShapes

section
variable {H : Type} {enc : TypeId × Value → H} {P : Program} {w : World} {spare : Nat → Bool} {held : Bool} {fuel : Nat} {t e : TypeId} {cs : List Value} {x : DataW H × List MemPlace}

theorem mapM_get {α β : Type} {f : α → Option β} : ∀ {l : List α} {ys : List β}, l.mapM f = some ys → ys.length = l.length ∧ ∀ (j : Nat) (a : α), l[j]? = some a → f a = ys[j]?
  | [], ys, h => by simp at h; subst h; simp
  | a :: l, ys, h => by
    simp only [List.mapM_cons, Option.bind_eq_bind, Option.bind_eq_some_iff, Option.pure_def, Option.some.injEq] at h
    obtain ⟨b, hb, zs, hz, rfl⟩ := h
    obtain ⟨h1, h2⟩ := mapM_get hz
    refine ⟨by simp [h1], fun j a' hj => ?_⟩
    cases j with
    | zero => simp at hj; subst hj; simpa using hb
    | succ j => simpa using h2 j a' (by simpa using hj)

theorem cells_get {a : Addr} {n : Nat} {ys : List Value} (h : w.cells? 0 a n = some ys) : ys.length = n ∧ ∀ j, j < n → w.cell? (a.add j) = ys[j]? := by
  unfold World.cells? at h
  rw [if_pos (Nat.zero_le _)] at h
  obtain ⟨h1, h2⟩ := mapM_get h
  exact ⟨by simpa using h1, fun j hj => h2 j j (by simp [hj])⟩

theorem spot_none {a : Addr} {v : Value} (h : w.cell? a = some v) : a.spot = none := by
  unfold World.cell? at h
  split at h
  · split at h
    · cases h
    · rename_i hs; simpa using hs
  · cases h

theorem add_plain (b o i : Nat) : (⟨b, o, none⟩ : Addr).add i = ⟨b, o + i, none⟩ := by
  unfold Addr.add
  split
  · rename_i h; subst h; rfl
  · rfl

/-- a slice as it reads: nil, or elements in their places -/
theorem op_slice (ht : P.underlying t = some (.slice e)) (hc : 0 < P.cellsOf e) (h : DataW.trod enc P w 0 spare held fuel t cs = some x) :
    ∃ (A : Option Addr) (len cap : Nat) (elems rest : List (DataW H × List MemPlace)) (n : Nat) (ys : Nat → List Value), cs = [.slice A len cap] ∧ len ≤ cap ∧ cap ≤ maxLen ∧
      (x.1 = .slice (elems.map (·.1)) (rest.map (·.1)) ∨ (x.1 = .nil ∧ len = 0)) ∧ elems.length = len ∧ ((∀ b, spare b = true) → x.1 ≠ .nil → rest.length = cap - len) ∧
      (∀ i, i < len → ∃ y, elems[i]? = some y ∧ DataW.trod enc P w 0 spare held n e (ys i) = some y ∧ (ys i).length = P.cellsOf e) ∧ (A = none → cap = 0) ∧
      (0 < len → ∃ b off, A = some ⟨b, off, none⟩ ∧ ∀ i, i < len → ∀ j, j < P.cellsOf e → w.cell? ⟨b, off + (i * P.cellsOf e + j), none⟩ = (ys i)[j]?) := by
  rcases DataW.trod_slice ht h with ⟨rfl, rfl⟩ | ⟨a, len, cap, elems, rest, n, _, rfl, rfl, _, hl, hm, hlen, hel, hsp, hns⟩
  · exact ⟨none, 0, 0, [], [], 0, fun _ => [], rfl, Nat.le_refl _, Nat.zero_le _, .inr ⟨rfl, rfl⟩, rfl, fun _ h => absurd rfl h, fun i hi => absurd hi (by omega), fun _ => rfl, fun h => absurd h (by omega)⟩
  · have each : ∀ i, i < len → ∃ zs y, elems[i]? = some y ∧ w.cells? 0 (a.add (i * P.cellsOf e)) (P.cellsOf e) = some zs ∧ DataW.trod enc P w 0 spare held n e zs = some y := by
      intro i hi
      have h1 := hel i hi
      obtain ⟨y, hy⟩ : ∃ y, elems[i]? = some y := ⟨_, List.getElem?_eq_getElem (by omega)⟩
      rw [hy] at h1
      obtain ⟨zs, h2, h3⟩ := Option.bind_eq_some_iff.1 h1
      exact ⟨zs, y, hy, h2, h3⟩
    refine ⟨some a, len, cap, elems, rest, n, fun i => (w.cells? 0 (a.add (i * P.cellsOf e)) (P.cellsOf e)).getD [], rfl, hl, hm, .inl rfl, hlen, fun h _ => (hsp (h _)).1, fun i hi => ?_, (fun h => by cases h), fun h0 => ?_⟩
    · obtain ⟨zs, y, h1, h2, h3⟩ := each i hi
      exact ⟨y, h1, by dsimp only; rw [h2]; exact h3, by dsimp only; rw [h2]; exact (cells_get h2).1⟩
    · obtain ⟨zs, y, h1, h2, h3⟩ := each 0 h0
      have hsp : a.spot = none := by
        obtain ⟨g1, g2⟩ := cells_get h2
        have g3 := g2 0 hc
        obtain ⟨v, hv⟩ : ∃ v, zs[0]? = some v := ⟨_, List.getElem?_eq_getElem (by omega)⟩
        rw [hv] at g3
        have := spot_none g3
        simpa [Addr.add] using this
      obtain ⟨b, off, sp⟩ := a
      simp only at hsp
      subst hsp
      refine ⟨b, off, rfl, fun i hi j hj => ?_⟩
      obtain ⟨zs, y, h1, h2, h3⟩ := each i hi
      dsimp only
      rw [h2]
      have := (cells_get h2).2 j hj
      rw [add_plain, add_plain, Nat.add_assoc] at this
      exact this

/-- a slice of n elements of sz cells each -/
def SlN (w : World) (v : Value) (n sz : Nat) (f : Nat → List Value) : Prop :=
  ∃ A c, v = .slice A n c ∧ n ≤ c ∧ (A = none → c = 0) ∧ (0 < n → ∃ b off, A = some ⟨b, off, none⟩ ∧ ∀ i, i < n → ∀ j, j < sz → w.cell? ⟨b, off + (i * sz + j), none⟩ = (f i)[j]?)

theorem getD_of {α : Type} {l : List α} {i : Nat} {a d : α} (h : l[i]? = some a) : l.getD i d = a := by simp [h]

/-- what is known of a number's letters and places: the reach, the bulk -/
theorem weights_len {elems rest : List (DataW H)} (ht : P.underlying t = some (.slice e)) {R : Nat} (h : ((DataW.slice elems rest).weights P t).all (· ≤ R) = true) :
    (elems.length + rest.length) * P.bytesOf e ≤ R ∧ (DataW.weightsAll P e elems).all (· ≤ R) = true := by
  simp only [DataW.weights, ht, List.all_cons, List.all_append, Bool.and_eq_true, decide_eq_true_eq] at h
  exact ⟨h.1, h.2.1⟩
theorem weights_each {elems : List (DataW H)} {R : Nat} (h : (DataW.weightsAll P e elems).all (· ≤ R) = true) : ∀ d ∈ elems, (d.weights P e).all (· ≤ R) = true := by
  induction elems with
  | nil => intro d hd; cases hd
  | cons a r ih =>
    simp only [DataW.weightsAll, List.all_append, Bool.and_eq_true] at h
    intro d hd
    rcases List.mem_cons.1 hd with rfl | hd
    · exact h.1
    · exact ih h.2 d hd
theorem weights_eachAt {R : Nat} : ∀ {ts : List TypeId} {parts : List (DataW H)}, (DataW.weightsEach P ts parts).all (· ≤ R) = true → ∀ (i : Nat) (d : DataW H) (t : TypeId), parts[i]? = some d → ts[i]? = some t → (d.weights P t).all (· ≤ R) = true
  | [], _, _, i, d, t, _, ht => by simp at ht
  | _ :: _, [], _, i, d, t, hd, _ => by simp at hd
  | u :: ts, p :: parts, h, i, d, t, hd, ht => by
    simp only [DataW.weightsEach, List.all_append, Bool.and_eq_true] at h
    cases i with
    | zero => simp at hd ht; subst hd ht; exact h.1
    | succ i => exact weights_eachAt h.2 i d t (by simpa using hd) (by simpa using ht)
theorem weights_part {fs : Array Field} {parts : List (DataW H)} {R : Nat} (ht : P.underlying t = some (.struct fs)) (h : ((DataW.agg parts).weights P t).all (· ≤ R) = true) (i : Nat) (d : DataW H) (f : Field) (hd : parts[i]? = some d) (hf : fs[i]? = some f) : (d.weights P f.type).all (· ≤ R) = true := by
  simp only [DataW.weights, ht] at h
  exact weights_eachAt h i d f.type hd (by simp [hf])
theorem bulk_one (d : DataW H) : 1 ≤ Rows.uptoBulk d := by
  cases d with
  | lit l => cases l <;> simp [Rows.uptoBulk]
  | nil => simp [Rows.uptoBulk]
  | ptr d => simp [Rows.uptoBulk]
  | slice elems spare => simp [Rows.uptoBulk]
  | agg parts => simp [Rows.uptoBulk]
  | iface t d => simp [Rows.uptoBulk]
  | map entries => simp [Rows.uptoBulk]
  | held h => simp [Rows.uptoBulk]
theorem bulk_length (l : List (DataW H)) : l.length ≤ Rows.uptoBulkAll l := by
  induction l with
  | nil => simp [Rows.uptoBulkAll]
  | cons x r ih => have := bulk_one x; simp only [Rows.uptoBulkAll, List.length_cons]; omega

/-- bytes -/
theorem op_bytes (ht : P.underlying t = some (.slice e)) (he : P.underlying e = some (.int .u8)) (hc : P.cellsOf e = 1) (hb : P.bytesOf e = 1) (h : DataW.trod enc P w 0 spare held fuel t cs = some x) :
    ∃ (v : Value) (l : List UInt8), cs = [v] ∧ SlB w v l ∧ (∀ R, (x.1.weights P t).all (· ≤ R) = true → l.length ≤ R) ∧ l.length + 1 ≤ Rows.uptoBulk x.1 ∧ l.length ≤ maxLen := by
  obtain ⟨A, len, cap, elems, rest, n, ys, rfl, hl, hm, hx, hlen, _, hel, hnil, hcell⟩ := op_slice ht (by omega) h
  have hb' : ∀ i, i < len → ∃ b : UInt8, ys i = [B b] := by
    intro i hi
    obtain ⟨y, _, h2, _⟩ := hel i hi
    obtain ⟨z, h3, _, h4⟩ := DataW.trod_int he h2
    simp only [Lit.wf, IntKind.min, IntKind.max, IntKind.signed, IntKind.bits, Bool.and_eq_true, decide_eq_true_eq, Bool.false_eq_true, if_false] at h4
    obtain ⟨k, rfl⟩ := Int.eq_ofNat_of_zero_le (show 0 ≤ z by omega)
    have hk : k < 256 := by omega
    refine ⟨UInt8.ofNat k, ?_⟩
    rw [h3]
    simp only [B, UInt8.toNat_ofNat']
    rw [show k % 2 ^ 8 = k by omega]
  refine ⟨_, (List.range len).map fun i => if h : i < len then (hb' i h).choose else 0, rfl, ?_, ?_, ?_, by simp; omega⟩
  · refine ⟨A, cap, by simp, by simpa using hl, hnil, fun h0 => ?_⟩
    have h0' : 0 < len := by simpa using h0
    obtain ⟨b, off, hA, hcc⟩ := hcell h0'
    refine ⟨b, off, hA, fun i hi => ?_⟩
    have hi' : i < len := by simpa using hi
    have := hcc i hi' 0 (by omega)
    rw [hc, Nat.mul_one, Nat.add_zero] at this
    rw [this, (hb' i hi').choose_spec]
    simp [hi']
  · intro R hR
    rcases hx with hx | ⟨_, h0⟩
    · rw [hx] at hR
      have := (weights_len ht hR).1
      rw [hb] at this
      simp at this ⊢; omega
    · simp [h0]
  · rcases hx with hx | ⟨hx, h0⟩
    · rw [hx]
      have := bulk_length (elems.map (·.1))
      simp [Rows.uptoBulk] at this ⊢; omega
    · rw [hx]; simp [h0, Rows.uptoBulk]

theorem bulk_mem {d : DataW H} {l : List (DataW H)} (h : d ∈ l) : Rows.uptoBulk d ≤ Rows.uptoBulkAll l := by
  induction l with
  | nil => cases h
  | cons x r ih =>
    simp only [Rows.uptoBulkAll]
    rcases List.mem_cons.1 h with e | e
    · subst e; omega
    · have := ih e; omega
/-- the parts' own measures add up -/
theorem bulk_sum {α : Type} (m : α → Nat) (d0 : α) : ∀ (l : List (DataW H)) (g : Nat → α), (∀ i d, l[i]? = some d → m (g i) ≤ Rows.uptoBulk d) → (((List.range l.length).map g).map m).sum ≤ Rows.uptoBulkAll l
  | [], g, h => by simp [Rows.uptoBulkAll]
  | d :: l, g, h => by
    have h1 := h 0 d rfl
    have h2 := bulk_sum m d0 l (fun i => g (i + 1)) (fun i d' hd => h (i + 1) d' (by simpa using hd))
    simp only [List.length_cons, List.range_succ_eq_map, List.map_cons, List.map_map, List.sum_cons, Rows.uptoBulkAll] at h2 ⊢
    simp only [Function.comp_def, Nat.succ_eq_add_one] at h2 ⊢
    omega

/-- rows of bytes -/
theorem op_rows {e2 : TypeId} (ht : P.underlying t = some (.slice e)) (he : P.underlying e = some (.slice e2)) (he2 : P.underlying e2 = some (.int .u8)) (hc : P.cellsOf e = 1) (hc2 : P.cellsOf e2 = 1) (hb : P.bytesOf e = 24) (hb2 : P.bytesOf e2 = 1)
    (h : DataW.trod enc P w 0 spare held fuel t cs = some x) :
    ∃ (v : Value) (ll : List (List UInt8)), cs = [v] ∧ SlBB w v ll ∧ (∀ R, (x.1.weights P t).all (· ≤ R) = true → ll.length * 24 ≤ R ∧ ∀ i, (ll.getD i []).length ≤ R) ∧ (ll.map List.length).sum + ll.length + 1 ≤ Rows.uptoBulk x.1 ∧ ll.length ≤ maxLen := by
  obtain ⟨A, len, cap, elems, rest, n, ys, rfl, hl, hm, hx, hlen, _, hel, hnil, hcell⟩ := op_slice ht (by omega) h
  have hb' : ∀ i, i < len → ∃ (u : Value) (l : List UInt8), ys i = [u] ∧ SlB w u l ∧ (∀ R d, (elems.map (·.1))[i]? = some d → (d.weights P e).all (· ≤ R) = true → l.length ≤ R) ∧ (∀ d, (elems.map (·.1))[i]? = some d → l.length + 1 ≤ Rows.uptoBulk d) := by
    intro i hi
    obtain ⟨y, h1, h2, _⟩ := hel i hi
    obtain ⟨u, l, g1, g2, g3, g4, _⟩ := op_bytes he he2 hc2 hb2 h2
    have hd : (elems.map (·.1))[i]? = some y.1 := by simp [h1]
    exact ⟨u, l, g1, g2, fun R d hd' hR => g3 R (by rw [hd] at hd'; cases hd'; exact hR), fun d hd' => by rw [hd] at hd'; cases hd'; exact g4⟩
  let g : Nat → List UInt8 := fun i => if h : i < len then (hb' i h).choose_spec.choose else []
  have hg : ∀ i (hi : i < len), g i = (hb' i hi).choose_spec.choose := fun i hi => by simp only [g]; rw [dif_pos hi]
  refine ⟨_, (List.range len).map g, rfl, ?_, ?_, ?_, by simp; omega⟩
  · refine ⟨fun i => if h : i < len then (hb' i h).choose else undef, ⟨A, cap, by simp, by simpa using hl, hnil, fun h0 => ?_⟩, fun i hi => ?_⟩
    · have h0' : 0 < len := by simpa using h0
      obtain ⟨b, off, hA, hcc⟩ := hcell h0'
      refine ⟨b, off, hA, fun i hi => ?_⟩
      have hi' : i < len := by simpa using hi
      have := hcc i hi' 0 (by omega)
      rw [hc, Nat.mul_one, Nat.add_zero] at this
      rw [this, (hb' i hi').choose_spec.choose_spec.1]
      simp [hi']
    · have hi' : i < len := by simpa using hi
      have := (hb' i hi').choose_spec.choose_spec.2.1
      rw [← hg i hi'] at this
      simpa [hi'] using this
  · intro R hR
    rcases hx with hx | ⟨_, h0⟩
    · rw [hx] at hR
      obtain ⟨h1, h2⟩ := weights_len ht hR
      rw [hb] at h1
      refine ⟨by simp at h1 ⊢; omega, fun i => ?_⟩
      by_cases hi : i < len
      · have hd : (elems.map (·.1))[i]? = some ((elems.map (·.1))[i]'(by simp; omega)) := List.getElem?_eq_getElem _
        have := (hb' i hi).choose_spec.choose_spec.2.2.1 R _ hd (weights_each h2 _ (List.getElem_mem _))
        rw [← hg i hi] at this
        simpa [hi] using this
      · simp [hi]
    · subst h0; simp
  · rcases hx with hx | ⟨hx, h0⟩
    · rw [hx]
      have := bulk_sum (H := H) (fun l : List UInt8 => l.length + 1) [] (elems.map (·.1)) g (fun i d hd => by
        have hi : i < len := by
          rcases Nat.lt_or_ge i len with h | h
          · exact h
          · rw [List.getElem?_eq_none (by simp; omega)] at hd; cases hd
        have := (hb' i hi).choose_spec.choose_spec.2.2.2 d hd
        rw [← hg i hi] at this
        exact this)
      rw [List.length_map, hlen] at this
      have e : ∀ l : List (List UInt8), (l.map fun l => l.length + 1).sum = (l.map List.length).sum + l.length := by
        intro l
        induction l with
        | nil => rfl
        | cons a l ih => simp only [List.map_cons, List.sum_cons, List.length_cons, ih]; omega
      rw [e] at this
      simp only [Rows.uptoBulk, List.length_map, List.length_range] at this ⊢
      omega
    · subst h0; simp [hx, Rows.uptoBulk]
/-- whole numbers -/
theorem op_int {k : IntKind} (ht : P.underlying t = some (.int k)) (h : DataW.trod enc P w 0 spare held fuel t cs = some x) : ∃ n, cs = [.int k n] ∧ k.min ≤ n ∧ n ≤ k.max ∧ x.1 = .lit (.int k n) := by
  obtain ⟨n, h1, h2, h3⟩ := DataW.trod_int ht h
  simp only [Lit.wf, Bool.and_eq_true, decide_eq_true_eq] at h3
  exact ⟨n, h1, h3.1, h3.2, by rw [h2]⟩
theorem op_u32 (ht : P.underlying t = some (.int .u32)) (h : DataW.trod enc P w 0 spare held fuel t cs = some x) : ∃ n : BitVec 32, cs = [W32 n] := by
  obtain ⟨n, h1, h2, h3, _⟩ := op_int ht h
  simp only [IntKind.min, IntKind.max, IntKind.signed, IntKind.bits, Bool.false_eq_true, if_false] at h2 h3
  obtain ⟨k, rfl⟩ := Int.eq_ofNat_of_zero_le h2
  exact ⟨BitVec.ofNat 32 k, by rw [h1, W32, BitVec.toNat_ofNat, Nat.mod_eq_of_lt (by omega)]⟩
theorem op_i64 (ht : P.underlying t = some (.int .i64)) (h : DataW.trod enc P w 0 spare held fuel t cs = some x) : ∃ n : Int, cs = [.int .i64 n] ∧ -9223372036854775808 ≤ n ∧ n ≤ 9223372036854775807 := by
  obtain ⟨n, h1, h2, h3, _⟩ := op_int ht h
  simp only [IntKind.min, IntKind.max, IntKind.signed, IntKind.bits, if_true] at h2 h3
  exact ⟨n, h1, by omega, by omega⟩
theorem op_u8 (ht : P.underlying t = some (.int .u8)) (h : DataW.trod enc P w 0 spare held fuel t cs = some x) : ∃ n : UInt8, cs = [B n] := by
  obtain ⟨n, h1, h2, h3, _⟩ := op_int ht h
  simp only [IntKind.min, IntKind.max, IntKind.signed, IntKind.bits, Bool.false_eq_true, if_false] at h2 h3
  obtain ⟨k, rfl⟩ := Int.eq_ofNat_of_zero_le h2
  refine ⟨UInt8.ofNat k, by rw [h1]; simp only [B, UInt8.toNat_ofNat']; rw [show k % 2 ^ 8 = k by omega]⟩
/-- structs -/
theorem op_agg {fs : Array Field} {base : Nat} {r : Reach} {v : Value} (ht : P.underlying t = some (.struct fs)) (h : Value.okWide P w r base t v) : ∃ cs, v = .agg cs := by
  unfold Value.okWide at h
  rw [ht] at h
  obtain ⟨cs, h, _⟩ := h
  exact ⟨cs, h⟩
theorem op_struct {fs : Array Field} (ht : P.underlying t = some (.struct fs)) (h : DataW.trod enc P w 0 spare held fuel t cs = some x) :
    ∃ (xs : List (DataW H × List MemPlace)) (n : Nat), x.1 = .agg (xs.map (·.1)) ∧ cs.length = P.cellsOf t ∧ xs.length = fs.size ∧
      ∀ (i : Nat) (f : Field), fs[i]? = some f → ∃ y, xs[i]? = some y ∧ DataW.trod enc P w 0 spare held n f.type ((cs.drop f.offset).take (P.cellsOf f.type)) = some y := by
  obtain ⟨xs, n, _, rfl, hl, hx, each⟩ := DataW.trod_struct ht h
  refine ⟨xs, n, rfl, hl, hx, fun i f hf => ?_⟩
  have hi : i < fs.size := by
    rcases Nat.lt_or_ge i fs.size with h | h
    · exact h
    · rw [Array.getElem?_eq_none h] at hf; cases hf
  have := each i f hf
  obtain ⟨y, hy⟩ : ∃ y, xs[i]? = some y := ⟨_, List.getElem?_eq_getElem (by omega)⟩
  exact ⟨y, hy, by rw [this, hy]⟩
theorem len3 {α : Type} {l : Array α} (h : l.toList.length = 3) : ∃ a b c, l = #[a, b, c] := by
  obtain ⟨l⟩ := l
  match l, h with
  | [a, b, c], _ => exact ⟨a, b, c, rfl⟩
theorem len7 {α : Type} {l : Array α} (h : l.toList.length = 7) : ∃ a b c d e f g, l = #[a, b, c, d, e, f, g] := by
  obtain ⟨l⟩ := l
  match l, h with
  | [a, b, c, d, e, f, g], _ => exact ⟨a, b, c, d, e, f, g, rfl⟩
theorem len5 {α : Type} {l : Array α} (h : l.toList.length = 5) : ∃ a b c d e, l = #[a, b, c, d, e] := by
  obtain ⟨l⟩ := l
  match l, h with
  | [a, b, c, d, e], _ => exact ⟨a, b, c, d, e, rfl⟩
/-! ### arguments themselves -/
section
variable {v : Value} {d : DataW H} {ps : List MemPlace} {base : Nat} {r : Reach}
theorem arg_bytes (ht : P.underlying t = some (.slice e)) (he : P.underlying e = some (.int .u8)) (hc : P.cellsOf e = 1) (hb : P.bytesOf e = 1) (hv : Value.okWide P w r base t v) (h : DataW.Trod enc P w 0 spare held t v d ps) :
    ∃ l : List UInt8, SlB w v l ∧ (∀ R, (d.weights P t).all (· ≤ R) = true → l.length ≤ R) ∧ l.length + 1 ≤ Rows.uptoBulk d := by
  obtain ⟨a, n, c, rfl⟩ := okWide_slice ht hv
  obtain ⟨fuel, h⟩ := h
  obtain ⟨u, l, h1, h2, h3, h4, _⟩ := op_bytes ht he hc hb h
  simp only [Value.cells] at h1
  injection h1 with h1
  subst h1
  exact ⟨l, h2, h3, h4⟩
theorem arg_i64 (ht : P.underlying t = some (.int .i64)) (hv : Value.okWide P w r base t v) (h : DataW.Trod enc P w 0 spare held t v d ps) : ∃ n : Int, v = .int .i64 n ∧ -9223372036854775808 ≤ n ∧ n ≤ 9223372036854775807 := by
  obtain ⟨n, rfl, _, _, h3⟩ := open_int ht hv h
  simp only [Lit.wf, IntKind.min, IntKind.max, IntKind.signed, IntKind.bits, Bool.and_eq_true, decide_eq_true_eq, if_true] at h3
  exact ⟨n, rfl, by omega, by omega⟩
theorem arg_u32 (ht : P.underlying t = some (.int .u32)) (hv : Value.okWide P w r base t v) (h : DataW.Trod enc P w 0 spare held t v d ps) : ∃ n : BitVec 32, v = W32 n := by
  obtain ⟨n, rfl, _, _, h3⟩ := open_int ht hv h
  simp only [Lit.wf, IntKind.min, IntKind.max, IntKind.signed, IntKind.bits, Bool.and_eq_true, decide_eq_true_eq, Bool.false_eq_true, if_false] at h3
  obtain ⟨k, rfl⟩ := Int.eq_ofNat_of_zero_le h3.1
  exact ⟨BitVec.ofNat 32 k, by rw [W32, BitVec.toNat_ofNat, Nat.mod_eq_of_lt (by omega)]⟩
theorem arg_u8 (ht : P.underlying t = some (.int .u8)) (hv : Value.okWide P w r base t v) (h : DataW.Trod enc P w 0 spare held t v d ps) : ∃ n : UInt8, v = B n := by
  obtain ⟨n, rfl, _, _, h3⟩ := open_int ht hv h
  simp only [Lit.wf, IntKind.min, IntKind.max, IntKind.signed, IntKind.bits, Bool.and_eq_true, decide_eq_true_eq, Bool.false_eq_true, if_false] at h3
  obtain ⟨k, rfl⟩ := Int.eq_ofNat_of_zero_le h3.1
  refine ⟨UInt8.ofNat k, by simp only [B, UInt8.toNat_ofNat']; rw [show k % 2 ^ 8 = k by omega]⟩
end
end
end Go.Proofs.Ytkklonldplekcaa
