/- A matrix that is being made. -/
import Derived.Test.YtkklonldplekcaaMxG
import Derived.Laws.CopyOwn
namespace Go.Proofs.Ytkklonldplekcaa
open Go.RowKit
/-- a matrix that is being made: its block, its list of rows, its rows -/
structure MB (B : Nat) (w0 w : World) (ts : List Thing) (fp : Option Addr) (m R r : Nat) (vs : List Value) (M : List (List UInt8)) (N : Nat) : Prop where
  fam : Fam B w0 w ((ts ++ [blkT m (.cells #[.pointer fp, .slice (some ⟨R, 0, none⟩) r r] 104 (0, 0))]) ++ gridT (.slice (some ⟨R, 0, none⟩) r r) vs M)
  r : r = M.length
  vl : vs.length = M.length
  n : ∀ i, i < M.length → (M.getD i []).length = N
section
variable {B : Nat} {w0 w w' : World} {ts : List Thing} {fp : Option Addr} {m R r : Nat} {vs : List Value} {M : List (List UInt8)} {N fg : Nat}
theorem MB.below (h : MB B w0 w ts fp m R r vs M N) (hb : Below w.heap.size w w') : MB B w0 w' ts fp m R r vs M N := ⟨h.fam.below hb, h.r, h.vl, h.n⟩
theorem MB.box (h : MB B w0 w ts fp m R r vs M N) : w.cell? ⟨m, 0, none⟩ = some (.pointer fp) ∧ w.cell? ⟨m, 1, none⟩ = some (.slice (some ⟨R, 0, none⟩) r r) := by
  have h1 := h.fam.back.blkL 0 rfl
  exact ⟨by rw [blk_cell h1]; rfl, by rw [blk_cell h1]; rfl⟩
theorem MB.row (h : MB B w0 w ts fp m R r vs M N) (i : Nat) (hi : i < r) : ∃ v L, vs.getD i (.slice none 0 0) = v ∧ M.getD i [] = L ∧ w.cell? ⟨R, i, none⟩ = some v ∧ w.frozen? ⟨R, i, none⟩ = false ∧ OwnB w 0 v L ∧ L.length = N ∧ ((ts ++ [blkT m (.cells #[.pointer fp, .slice (some ⟨R, 0, none⟩) r r] 104 (0, 0))]) ++ gridT (.slice (some ⟨R, 0, none⟩) r r) vs M)[(ts ++ [blkT m (.cells #[.pointer fp, .slice (some ⟨R, 0, none⟩) r r] 104 (0, 0))]).length + (i + 1)]? = some (rowT v L) := by
  have hi' : i < M.length := by have := h.r; omega
  obtain ⟨c0, f0⟩ := h.fam.gridVal h.r h.vl i hi'
  exact ⟨_, _, rfl, rfl, c0, f0, h.fam.gridOwn h.vl i hi', h.n i hi', by rw [get_at]; exact grid_at h.vl hi'⟩
theorem MB.put {L : List UInt8} (h : MB B w0 w ts fp m R r vs M N) {i : Nat} (hi : i < r) (hL : L.length = N) (hf : Fam B w0 w' (((ts ++ [blkT m (.cells #[.pointer fp, .slice (some ⟨R, 0, none⟩) r r] 104 (0, 0))]) ++ gridT (.slice (some ⟨R, 0, none⟩) r r) vs M).set ((ts ++ [blkT m (.cells #[.pointer fp, .slice (some ⟨R, 0, none⟩) r r] 104 (0, 0))]).length + (i + 1)) (rowT (vs.getD i (.slice none 0 0)) L))) : MB B w0 w' ts fp m R r vs (M.set i L) N := by
  have hi' : i < M.length := by have := h.r; omega
  rw [set_at, grid_set h.vl hi' L] at hf
  refine ⟨hf, by rw [List.length_set]; exact h.r, by rw [List.length_set]; exact h.vl, fun t ht => ?_⟩
  rw [getD_set M i t L hi']
  split
  · exact hL
  · exact h.n t (by simpa using ht)
theorem MB.byte (h : MB B w0 w ts fp m R r vs M N) {i g n k : Nat} {L : List UInt8} (hi : i < r) (hv : vs.getD i (.slice none 0 0) = .slice (some ⟨g, 0, none⟩) n k) (hL : M.getD i [] = L) (j : Nat) (b : UInt8) : MB B w0 (w.setCell ⟨g, j, none⟩ (Go.Proofs.Ytkklonldplekcaa.B b)) ts fp m R r vs (M.set i (L.set j b)) N := by
  obtain ⟨v, L', e1, e2, _, _, _, li, gi⟩ := h.row i hi
  rw [hv] at e1
  rw [hL] at e2
  subst e1 e2
  obtain ⟨S, hS, _, kk⟩ := h.fam.call gi
  refine h.put hi (by rw [List.length_set]; exact li) ?_
  rw [hv]
  exact kk _ _ ⟨hS.1.set_ j b, fun x hx => .inl (hS.2 x hx)⟩ ((Fr.set_ (g := g) j _).mono fun x _ e => hS.2 x (by rw [e]; rfl))
/-- a row's bytes are others now, its block alone was written -/
theorem MB.putRow {L : List UInt8} (h : MB B w0 w ts fp m R r vs M N) {i : Nat} (hi : i < r) {v : Value} (hv : vs.getD i (.slice none 0 0) = v) (hL : L.length = N) (ho : OwnB w' 0 v L) (hf : Fr (fun k => v.ownBlock = some k) w w') : MB B w0 w' ts fp m R r vs (M.set i L) N := by
  obtain ⟨v', L', e1, e2, _, _, _, li, gi⟩ := h.row i hi
  rw [hv] at e1
  subst e1
  obtain ⟨S, hS, _, kk⟩ := h.fam.call gi
  refine h.put hi hL ?_
  rw [hv]
  exact kk _ _ ⟨ho, fun x hx => .inl (hS.2 x hx)⟩ (hf.mono fun x _ e => hS.2 x e)
/-- it is told -/
theorem MB.done (h : MB B w0 w ts (some ⟨fg, 0, none⟩) m R r vs M N) {q : UInt8} (hF : FieldAt w fg q) (hr : 0 < r ∧ r ≤ 512) (hN : 0 < N ∧ N ≤ 512) : MatAt w m q M N := by
  have h1 := h.fam.back.blkL 0 rfl
  have hr' := h.r
  refine ⟨⟨fg, _, h1, hF, h.fam.slBB h.r h.vl⟩, h.n, ⟨by omega, hN.1⟩, ⟨by omega, hN.2⟩⟩
theorem blank_mb (B : Nat) (w0 w : World) (ts : List Thing) (h : Fam B w0 w ts) (fp : Option Addr) (rows cols : Nat) (hr : rows ≤ 1024) (hc : cols ≤ 1024) :
    Calls Try.prog 67 #[.pointer fp, .int .i64 rows, .int .i64 cols] w fun e w' => ∃ m R vs, e = .returned (.pointer (some ⟨m, 0, none⟩)) ∧ MB B w0 w' ts fp m R rows vs (List.replicate rows (List.replicate cols 0)) cols :=
  (blank_any B w0 w ts h fp rows cols hr hc).mono fun e w' ⟨m, R, vs, he, hl, hf⟩ => ⟨m, R, vs, he, hf, by simp, by simpa using hl, fun i hi => by
    rw [List.getD_eq_getElem?_getD, List.getElem?_replicate, if_pos (by simpa using hi)]; simp⟩
end
/-- rows that are the rows of the one up to k, of the other from k on -/
def upTo (A C : List (List UInt8)) (k : Nat) : List (List UInt8) := A.take k ++ C.drop k
theorem upTo_set {A C : List (List UInt8)} {k : Nat} (hk : k < A.length) (hl : A.length = C.length) : (upTo A C k).set k (A.getD k []) = upTo A C (k + 1) := by
  unfold upTo
  have h1 : (A.take k).length = k := by rw [List.length_take]; omega
  have e : (A.take k ++ C.drop k).set k (A.getD k []) = A.take k ++ (C.drop k).set 0 (A.getD k []) := by
    have := List.set_append_right (s := A.take k) (t := C.drop k) k (A.getD k []) (by omega)
    rw [this, h1, Nat.sub_self]
  rw [e, List.take_succ_eq_append_getElem hk, List.append_assoc]
  congr 1
  rw [List.drop_eq_getElem_cons (show k < C.length by omega), List.getD_eq_getElem?_getD, List.getElem?_eq_getElem hk]
  rfl
theorem upTo_zero (A C : List (List UInt8)) : upTo A C 0 = C := by simp [upTo]
theorem upTo_all {A C : List (List UInt8)} {k : Nat} (hl : A.length = C.length) (hk : A.length ≤ k) : upTo A C k = A := by
  unfold upTo
  rw [List.take_of_length_le hk, List.drop_of_length_le (by omega), List.append_nil]
theorem upTo_getD {A C : List (List UInt8)} {k : Nat} (hl : A.length = C.length) (hk : k ≤ A.length) : (upTo A C k).getD k [] = C.getD k [] := by
  unfold upTo
  have h1 : (A.take k).length = k := by rw [List.length_take]; omega
  rw [List.getD_eq_getElem?_getD, List.getElem?_append_right (by omega), h1, Nat.sub_self, List.getElem?_drop, Nat.add_zero, ← List.getD_eq_getElem?_getD]
theorem mapB_one (l : List UInt8) : ∀ v ∈ l.map B, v.oneCell' = true := by
  intro v hv
  obtain ⟨b, _, rfl⟩ := List.mem_map.1 hv
  rfl
theorem sl_src {w : World} {A : Option Addr} {n c : Nat} {l : List UInt8} (h : SlB w (.slice A n c) l) (h0 : 0 < (l.map B).length) : ∃ ad, A = some ad ∧ ∀ j v, (l.map B)[j]? = some v → w.cell? (ad.add j) = some v := by
  obtain ⟨A', c', e, h1, h2, h3⟩ := h
  injection e with e1 e2 e3
  subst e1
  obtain ⟨b, off, rfl, hc⟩ := h3 (by simpa using h0)
  refine ⟨_, rfl, fun j v hj => ?_⟩
  have hjl : j < l.length := by have := (List.getElem?_eq_some_iff.1 hj).1; simpa using this
  have e : (⟨b, off, none⟩ : Addr).add j = ⟨b, off + j, none⟩ := by unfold Addr.add; split <;> simp_all
  rw [e, hc j hjl]
  rw [List.getElem?_map, List.getElem?_eq_getElem hjl] at hj
  injection hj with hj
  simp only [← hj]
  simp [hjl]
/-- the builtin copy of bytes to the head of an owned row -/
theorem wpList_copyB {w : World} {ops : Array Oper} {rest : List Oper} {o : Oper} {a : Act} {Q : Exit → Act → World → Prop} (hgd : o.guard = none) (d s : Operand)
    (ho : o.op = .call { callee := .builtin .copy, args := #[d, s], argTypes := #[22, 22] }) (v u : Value) (L K : List UInt8) (hd : a.eval d = v) (hs : a.eval s = u) (hv : OwnB w 0 v L) (hu : SlB w u K) (hkl : K.length ≤ L.length)
    (h : ∀ w', OwnB w' 0 v (K ++ L.drop K.length) → Fr (fun k => v.ownBlock = some k) w w' → wpList Try.prog ops Q rest (a.put o.dst (goInt K.length)) w') : wpList Try.prog ops Q (o :: rest) a w := by
  obtain ⟨A2, c2, rfl⟩ := hu.form
  cases K with
  | nil =>
    obtain ⟨A, c, rfl⟩ := hv.form
    exact wpList_copy_nothing hgd d s 22 22 ho 5 Try.underlying22 (by kernel_rfl) A A2 L.length c 0 c2 hd hs (Nat.zero_min _) (h w (by simpa using hv) (Fr.refl _ _))
  | cons b K =>
    have h0 : 0 < (((b :: K)).map B).length := by simp
    generalize b :: K = K1 at *
    obtain ⟨ad, rfl, hsrc⟩ := sl_src hu h0
    rw [List.length_map] at h0
    obtain ⟨hx, ⟨_, e0⟩ | ⟨g, cap, cur, rfl, hb, hg, hnc, hcm, hcs, htk⟩⟩ := hv
    · omega
    · rw [Nat.mul_one] at hcs htk
      have hcl : cur.toList.length = cur.size := Array.length_toList
      have e1 : (K1 ++ L.drop K1.length).length = L.length := by rw [List.length_append, List.length_drop]; omega
      refine wpList_copy_own hgd d s 22 22 ho 5 Try.underlying22 (by kernel_rfl) g 0 L.length cap ad K1.length c2 hd hs cur 5 hg (K1.map B) (by rw [List.length_map]; exact (Nat.min_eq_left hkl).symm) hsrc (by rw [List.length_map]; omega) (mapB_one _) ?_
      rw [List.length_map]
      refine h _ ⟨?_, .inr ⟨g, cap, _, ?_, hb, setRow_heap w g cur _ 5 (0, 0) hg, ?_, hcm, ?_, ?_⟩⟩ ⟨rfl, rfl, rfl, by simp [World.setRow], fun k hk hne => setRow_other w g k _ (fun e => hne (by rw [e]; rfl))⟩
      · simp
      · rw [e1]
      · rw [e1]; exact hnc
      · rw [List.size_toArray, List.take_zero, List.nil_append, List.length_append, List.length_map, List.length_drop]
        omega
      · rw [e1, List.take_zero, List.nil_append, Nat.zero_add, Nat.mul_one, List.map_append, List.map_drop, ← htk]
        rw [show ∀ l : List Value, l.toArray.toList = l from fun _ => rfl, List.take_append, List.length_map, List.take_of_length_le (by rw [List.length_map]; exact hkl), List.drop_take]
/-- the same as a step of a region that draws its order -/
theorem step_copyB {w : World} {ops : Array Oper} {o : Oper} {a : Act} {K0 : Act → World → Prop} {Q : Exit → Act → World → Prop} {E : Prop} (hgd : o.guard = none) (d s : Operand)
    (ho : o.op = .call { callee := .builtin .copy, args := #[d, s], argTypes := #[22, 22] }) (v u : Value) (L K : List UInt8) (hd : a.eval d = v) (hs : a.eval s = u) (hv : OwnB w 0 v L) (hu : SlB w u K) (hkl : K.length ≤ L.length)
    (h : ∀ w', OwnB w' 0 v (K ++ L.drop K.length) → Fr (fun k => v.ownBlock = some k) w w' → K0 (a.put o.dst (goInt K.length)) w') : if Region.wanted o (yielded ops a.tmps) = true then Oper.wp Try.prog o a w K0 Q else E := by
  have hw : Region.wanted o (yielded ops a.tmps) = true := by simp [Region.wanted, hgd]
  rw [if_pos hw]
  obtain ⟨A2, c2, rfl⟩ := hu.form
  cases K with
  | nil =>
    obtain ⟨A, c, rfl⟩ := hv.form
    have hrun := run_copy_none (P := Try.prog) w 22 22 o.type 5 A A2 L.length c 0 c2 Try.underlying22 (by kernel_rfl) (Nat.zero_min _)
    unfold Oper.wp
    simp [execOp, ho, resolve, invoke, builtin, hd, hs, hrun, Result.andThen]
    exact h w (by simpa using hv) (Fr.refl _ _)
  | cons b K =>
    have h0 : 0 < (((b :: K)).map B).length := by simp
    generalize b :: K = K1 at *
    obtain ⟨ad, rfl, hsrc⟩ := sl_src hu h0
    rw [List.length_map] at h0
    obtain ⟨hx, ⟨_, e0⟩ | ⟨g, cap, cur, rfl, hb, hg, hnc, hcm, hcs, htk⟩⟩ := hv
    · omega
    · rw [Nat.mul_one] at hcs htk
      have hcl : cur.toList.length = cur.size := Array.length_toList
      have e1 : (K1 ++ L.drop K1.length).length = L.length := by rw [List.length_append, List.length_drop]; omega
      have hrun := run_copy_row (P := Try.prog) w 22 22 o.type 5 g 0 L.length cap ad K1.length c2 cur 5 (K1.map B) Try.underlying22 (by kernel_rfl) hg (by rw [List.length_map]; exact (Nat.min_eq_left hkl).symm) hsrc (by rw [List.length_map]; omega) (mapB_one _)
      unfold Oper.wp
      rw [List.length_map] at hrun
      simp only [execOp, ho, resolve, invoke, builtin, Array.map] at hrun ⊢
      simp [hd, hs, hrun, Result.andThen]
      refine h _ ⟨?_, .inr ⟨g, cap, _, ?_, hb, setRow_heap w g cur _ 5 (0, 0) hg, ?_, hcm, ?_, ?_⟩⟩ ⟨rfl, rfl, rfl, by simp [World.setRow], fun k hk hne => setRow_other w g k _ (fun e => hne (by rw [e]; rfl))⟩
      · simp
      · rw [e1]
      · rw [e1]; exact hnc
      · rw [List.size_toArray, List.length_append, List.length_map, List.length_drop]
        omega
      · rw [e1, Nat.mul_one, List.map_append, List.map_drop, ← htk]
        rw [show ∀ l : List Value, l.toArray.toList = l from fun _ => rfl, List.take_append, List.length_map, List.take_of_length_le (by rw [List.length_map]; exact hkl), List.drop_take]
end Go.Proofs.Ytkklonldplekcaa
