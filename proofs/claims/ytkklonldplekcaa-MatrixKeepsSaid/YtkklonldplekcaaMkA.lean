/- The helpers of the law MatrixKeeps: apart. -/
import Derived.Test.YtkklonldplekcaaMkU
namespace Go.Proofs.Ytkklonldplekcaa
open Go.RowKit
section
variable {P : Program} (w : World)
/-- an append behind an owned row, after which the elder row can be read too -/
theorem run_app_keep (base : Nat) (t ty e : TypeId) (i : TypeInfo) (z : Value) (size bytes : Nat) (ht : P.underlying t = some (.slice e)) (hi : P.info? e = some i) (hz : i.zero = some z)
    (hsize : i.size = size) (hby : i.bytes = bytes) (hzs : z.cells.size = size) (hsz : 0 < size)
    (v : Value) (n : Nat) (xs : List Value) (hown : w.ownsRow base e size v n xs)
    (a : Addr) (m c : Nat) (news : List Value) (hl : news.length = m * size) (hnews : ∀ j u, news[j]? = some u → w.cell? (a.add j) = some u) (h1 : ∀ u ∈ news, u.oneCell' = true)
    (h63 : n + m ≤ maxLen) (hbytes : (n + m) * bytes ≤ 140737488355328) (hbase : base ≤ w.heap.size) :
    ∃ v' w', (Builtin.append_ #[t, t] ty #[v, .slice (some a) m c]).run P w = .ok v' w' ∧ w'.ownsRow base e size v' (n + m) (xs ++ news) ∧ w'.ownsRow base e size v n xs ∧ w.grownBy w' v.ownBlock ∧ (∀ k, v'.ownBlock = some k → v.ownBlock = some k ∨ w.heap.size ≤ k) := by
  have hown0 := hown
  obtain ⟨hxl, ⟨rfl, rfl⟩ | ⟨g, cap, cur, rfl, hbg, hg, hnc, hcm, hcs, htake⟩⟩ := hown
  · have hx : xs = [] := List.eq_nil_of_length_eq_zero (by simpa using hxl)
    subst hx
    obtain ⟨v', w', hr, h2, h3, _⟩ := run_append_own (P := P) w w.heap.size t ty e i z size bytes ht hi hz hsize hby hzs hsz _ _ _ (World.ownsRow_nil w _ e size) a m c news hl hnews h1 h63 hbytes (Nat.le_refl _)
    exact ⟨v', w', hr, own_base h2 hbase, World.ownsRow_nil w' _ e size, h3, fun k hk => .inr (World.ownsRow.lt h2 k hk).1⟩
  · by_cases hroom : n + m ≤ cap
    · obtain ⟨w', hr, h2, h3⟩ := run_append_fits (P := P) w base t ty e i size ht hi hsize g n cap xs hown0 a m c news hl hnews h1 hroom
      refine ⟨_, w', hr, h2, ?_, h3, fun k hk => .inl hk⟩
      obtain ⟨_, ⟨h, _⟩ | ⟨g', cap', cur', h, hb', hg', hn', hm', hs', ht'⟩⟩ := h2
      · cases h
      · injection h with e1 _ e2
        injection e1 with e1
        injection e1 with e1
        subst e1 e2
        refine ⟨hxl, .inr ⟨g, cap, cur', rfl, hbg, hg', hnc, hcm, hs', ?_⟩⟩
        have := congrArg (List.take (n * size)) ht'
        rw [List.take_take, Nat.min_eq_left (Nat.mul_le_mul_right _ (Nat.le_add_right _ _)), List.take_left' hxl] at this
        exact this
    · obtain ⟨v', w', hr, h2, h3, _⟩ := run_append_own (P := P) w base t ty e i z size bytes ht hi hz hsize hby hzs hsz _ _ _ hown0 a m c news hl hnews h1 h63 hbytes hbase
      have hsmall : n + m ≤ 9223372036854775807 := by simp only [maxLen] at h63; omega
      have hr2 := run_append_grow (P := P) w t ty e i z ht hi hz ⟨g, 0, none⟩ n cap xs (by rw [hsize]; exact hxl) (hown0.cells (g := g) rfl) a m c news (by rw [hsize]; exact hl) hnews (by omega) (by omega) (growslice_fits (by omega) (by rw [hby]; exact hbytes))
      rw [hr] at hr2
      injection hr2 with e1 e2
      refine ⟨v', w', hr, h2, own_fr hown0 (Fr.of_below ?_) (fun _ _ h => h), h3, fun k hk => .inr ?_⟩
      · rw [e2]
        exact ((Below.refl w.heap.size w).drew).alloc (Nat.le_refl _) _
      · rw [e1] at hk
        simp only [Value.ownBlock, Option.some.injEq] at hk
        omega
end
set_option maxRecDepth 100000 in
/-- one byte more behind an owned row; the elder row is read as before -/
theorem wpList_appK {w : World} {ops : Array Oper} {rest : List Oper} {o : Oper} {a : Act} {Q : Exit → Act → World → Prop} (hgd : o.guard = none) (s x : Operand)
    (ho : o.op = .call { callee := .builtin .append, args := #[s, x], argTypes := #[22, 22] })
    (v : Value) (l : List UInt8) (b : UInt8) (bk : Nat) (t : TypeId) (hs : a.eval s = v) (hx : a.eval x = .slice (some ⟨bk, 0, none⟩) 1 1) (hown : OwnB w 0 v l)
    (hb : w.heap[bk]? = some (.cells #[B b] t (0, 0))) (hl : l.length ≤ 1099511627776)
    (h : ∀ A cap w', OwnB w' 0 (.slice A (l.length + 1) cap) (l ++ [b]) → OwnB w' 0 v l → w.grownBy w' v.ownBlock → (∀ k, (Value.slice A (l.length + 1) cap).ownBlock = some k → v.ownBlock = some k ∨ w.heap.size ≤ k) → wpList Try.prog ops Q rest (a.put o.dst (.slice A (l.length + 1) cap)) w') : wpList Try.prog ops Q (o :: rest) a w :=
  wpList_plain hgd fun _ hK => by
    obtain ⟨i, hi, hz0, hz1, hz2⟩ := info_parts infoB
    obtain ⟨v', w', hrun, r1, r2, r3, r4⟩ := run_app_keep (P := Try.prog) w 0 22 o.type 5 i _ 1 1 Try.underlying22 hi hz0 hz1 hz2 rfl (by decide) v l.length (l.map B) hown ⟨bk, 0, none⟩ 1 1 [B b] rfl (World.news_of_block (cs := #[B b]) (t := t) (fr := (0, 0)) hb) (by simp [Value.oneCell']) (by unfold maxLen; omega) (by omega) (Nat.zero_le _)
    have r1' : OwnB w' 0 v' (l ++ [b]) := by unfold OwnB; rw [List.length_append, List.length_singleton, List.map_append]; exact r1
    obtain ⟨A, cap, e⟩ := r1'.form
    rw [List.length_append, List.length_singleton] at e
    subst e
    unfold Oper.wp
    simp [execOp, ho, resolve, invoke, builtin, hs, hx, hrun, Result.andThen]
    exact hK _ _ (h A cap w' r1' r2 r3 r4)
/-- the marks are written: all of the rows ahead of i, and of row i up to j -/
def Mkd (mk : Nat → UInt8) (M : List (List UInt8)) (i j : Nat) (T : List (List UInt8)) : Prop := T.length = M.length ∧ (∀ a, (T.getD a []).length = (M.getD a []).length) ∧ ∀ a b, a < M.length → b < (M.getD a []).length → (a < i ∨ a = i ∧ b < j) → ent T a b = mk a
theorem Mkd.put {mk : Nat → UInt8} {M T : List (List UInt8)} {i j : Nat} (h : Mkd mk M i j T) (hi : i < M.length) (hj : j < (M.getD i []).length) : Mkd mk M i (j + 1) (T.set i ((T.getD i []).set j (mk i))) := by
  obtain ⟨h1, h2, h3⟩ := h
  refine ⟨by rw [List.length_set]; exact h1, fun a => ?_, fun a b ha hb hab => ?_⟩
  · rw [getD_set _ _ _ _ (by omega)]
    split
    · rename_i e; rw [List.length_set, e]; exact h2 i
    · exact h2 a
  · rw [ent_byte (by omega) rfl (by rw [h2]; exact hj)]
    show (if a = i ∧ b = j then mk i else ent T a b) = mk a
    by_cases e : a = i ∧ b = j
    · rw [if_pos e, e.1]
    · rw [if_neg e]; exact h3 a b ha hb (by omega)
theorem Mkd.row {mk : Nat → UInt8} {M T : List (List UInt8)} {i j : Nat} (h : Mkd mk M i j T) (hj : (M.getD i []).length ≤ j) : Mkd mk M (i + 1) 0 T :=
  ⟨h.1, h.2.1, fun a b ha hb hab => h.2.2 a b ha hb (by
    by_cases e : a = i
    · subst e; omega
    · omega)⟩
/-- the rows; those ahead of k with one byte more, in the same blocks -/
def prT (vs us : List Value) (M : List (List UInt8)) (mk : Nat → UInt8) (k : Nat) : List Thing := (List.range M.length).map fun i => if i < k then andT (rowT (vs.getD i (.slice none 0 0)) (M.getD i [])) (rowT (us.getD i (.slice none 0 0)) (M.getD i [] ++ [mk i])) else rowT (vs.getD i (.slice none 0 0)) (M.getD i [])
theorem prT_at {vs us : List Value} {M : List (List UInt8)} {mk : Nat → UInt8} {k i : Nat} (hi : i < M.length) : (prT vs us M mk k)[i]? = some (if i < k then andT (rowT (vs.getD i (.slice none 0 0)) (M.getD i [])) (rowT (us.getD i (.slice none 0 0)) (M.getD i [] ++ [mk i])) else rowT (vs.getD i (.slice none 0 0)) (M.getD i [])) := by
  simp [prT, hi]
theorem prT_start (vs : List Value) (M : List (List UInt8)) (mk : Nat → UInt8) (hl : vs.length = M.length) : rowsT vs M = prT vs [] M mk 0 := by
  apply List.ext_getElem?
  intro i
  by_cases hi : i < M.length
  · rw [prT_at hi, if_neg (by omega)]
    exact rowsT_at vs M i _ _ (by rw [List.getD_eq_getElem?_getD, List.getElem?_eq_getElem (show i < vs.length by omega)]; rfl) (by rw [List.getD_eq_getElem?_getD, List.getElem?_eq_getElem hi]; rfl)
  · rw [List.getElem?_eq_none (by rw [rowsT_length vs M hl]; omega), List.getElem?_eq_none (by simp [prT]; omega)]
theorem prT_next {vs us : List Value} {M : List (List UInt8)} {mk : Nat → UInt8} {k : Nat} {u : Value} (hu : us.length = k) (hk : k < M.length) : (prT vs us M mk k).set k (andT (rowT (vs.getD k (.slice none 0 0)) (M.getD k [])) (rowT u (M.getD k [] ++ [mk k]))) = prT vs (us ++ [u]) M mk (k + 1) := by
  apply List.ext_getElem?
  intro i
  by_cases hi : i < M.length
  · rw [prT_at hi, List.getElem?_set]
    by_cases e : k = i
    · subst e
      rw [if_pos rfl, if_pos (by simp [prT]; omega), if_pos (by omega)]
      rw [show (us ++ [u]).getD k (.slice none 0 0) = u by rw [List.getD_eq_getElem?_getD, List.getElem?_append_right (by omega), hu, Nat.sub_self]; rfl]
    · rw [if_neg e, prT_at hi]
      by_cases h2 : i < k
      · rw [if_pos h2, if_pos (by omega)]
        rw [show (us ++ [u]).getD i (.slice none 0 0) = us.getD i (.slice none 0 0) by rw [List.getD_eq_getElem?_getD, List.getElem?_append_left (by omega), ← List.getD_eq_getElem?_getD]]
      · rw [if_neg h2, if_neg (by omega)]
  · rw [List.getElem?_eq_none (by rw [List.length_set]; simp [prT]; omega), List.getElem?_eq_none (by simp [prT]; omega)]
/-- rows, the list of them, and the list of the longer ones, of which k are made -/
def Ap2 (B : Nat) (w0 wr : World) (ts : List Thing) (Rv : Value) (vs : List Value) (M : List (List UInt8)) (mk : Nat → UInt8) (k : Nat) (mv : Value) (us : List Value) : Prop := us.length = k ∧ Fam B w0 wr (ts ++ (ownT 22 1 Rv M.length vs :: ownT 22 1 mv k us :: prT vs us M mk k))
theorem Ap2.start {B : Nat} {w0 w : World} {ts : List Thing} {Rv : Value} {vs : List Value} {M : List (List UInt8)} (mk : Nat → UInt8) (h : Fam B w0 w (ts ++ gridT Rv vs M)) (hl : vs.length = M.length) : Ap2 B w0 w ts Rv vs M mk 0 (.slice none 0 0) [] := by
  refine ⟨rfl, ?_⟩
  rw [← prT_start vs M mk hl]
  have h1 := h.add (t := ownT 22 1 (.slice none 0 0) 0 []) (Below.refl w.heap.size w) ⟨World.ownsRow_nil _ _ _ _, fun k hk => by cases hk⟩
  unfold gridT at h1
  have h2 : Fam B w0 w ((ts ++ [ownT 22 1 Rv M.length vs]) ++ rowsT vs M ++ [ownT 22 1 (.slice none 0 0) 0 []]) := by simpa using h1
  have h3 := Fam.comm h2
  simpa using h3
theorem Ap2.next {B : Nat} {w0 w wa w1 wb w2 : World} {ts : List Thing} {Rv : Value} {vs : List Value} {M : List (List UInt8)} {mk : Nat → UInt8} {k : Nat} {mv mv' v u : Value} {us : List Value} (h : Ap2 B w0 w ts Rv vs M mk k mv us) (hk : k < M.length) (hv : vs.getD k (.slice none 0 0) = v) (ha : Below w.heap.size w wa) (ho : OwnB w1 0 u (M.getD k [] ++ [mk k])) (ho2 : OwnB w1 0 v (M.getD k [])) (hg : wa.grownBy w1 v.ownBlock) (hn : ∀ j, u.ownBlock = some j → v.ownBlock = some j ∨ wa.heap.size ≤ j) (hb : Below w1.heap.size w1 wb) (hm : w2.ownsRow 0 22 1 mv' (k + 1) (us ++ [u])) (hg2 : wb.grownBy w2 mv.ownBlock) (hn2 : ∀ j, mv'.ownBlock = some j → mv.ownBlock = some j ∨ wb.heap.size ≤ j) : Ap2 B w0 w2 ts Rv vs M mk (k + 1) mv' (us ++ [u]) := by
  obtain ⟨hul, hf⟩ := h
  have hf1 := hf.below ha
  have hat : (ts ++ (ownT 22 1 Rv M.length vs :: ownT 22 1 mv k us :: prT vs us M mk k))[ts.length + (k + 2)]? = some (rowT v (M.getD k [])) := by
    rw [get_at]
    have := prT_at (vs := vs) (us := us) (mk := mk) (k := k) hk
    rw [if_neg (by omega), hv] at this
    simpa using this
  obtain ⟨S, hS, hSB, kk⟩ := hf1.call hat
  have hsz := hf1.size
  have hf2 := kk (andT (rowT v (M.getD k [])) (rowT u (M.getD k [] ++ [mk k]))) w1 ⟨⟨ho2, fun j hj => .inl (hS.2 j hj)⟩, ho, fun j hj => by
    rcases hn j hj with e | e
    · exact .inl (hS.2 j e)
    · exact .inr ⟨e, (World.ownsRow.lt ho j hj).2⟩⟩ ((Fr.of_grown hg).mono fun x _ e => hS.2 x e)
  rw [set_at] at hf2
  simp only [List.set_cons_succ] at hf2
  rw [← hv, prT_next hul hk] at hf2
  have hf3 := hf2.below hb
  have hf4 := hf3.grow (i := ts.length + 1) (by rw [get_at]; rfl) hm hg2 hn2
  rw [set_at] at hf4
  exact ⟨by simp [hul], by simpa only [List.set_cons_succ, List.set_cons_zero] using hf4⟩
/-- what is read of them -/
theorem Ap2.reads {B : Nat} {w0 w : World} {ts : List Thing} {R c : Nat} {vs us : List Value} {M : List (List UInt8)} {mk : Nat → UInt8} {k : Nat} {mv : Value} (h : Ap2 B w0 w ts (.slice (some ⟨R, 0, none⟩) M.length c) vs M mk k mv us) (hl : vs.length = M.length) {i : Nat} (hi : i < M.length) : w.cell? ⟨R, i, none⟩ = some (vs.getD i (.slice none 0 0)) ∧ OwnB w 0 (vs.getD i (.slice none 0 0)) (M.getD i []) ∧ w.ownsRow 0 22 1 mv k us ∧ (i < k → OwnB w 0 (us.getD i (.slice none 0 0)) (M.getD i [] ++ [mk i])) := by
  obtain ⟨hul, hf⟩ := h
  have ho := (hf.own (i := ts.length + 0) (by rw [get_at]; rfl)).1
  have hm := (hf.own (i := ts.length + 1) (by rw [get_at]; rfl)).1
  have hat := (get_at ts (ownT 22 1 (.slice (some ⟨R, 0, none⟩) M.length c) M.length vs :: ownT 22 1 mv k us :: prT vs us M mk k) (i + 2)).trans (prT_at (vs := vs) (us := us) (mk := mk) (k := k) hi)
  obtain ⟨S, hS, _⟩ := hf.call hat
  refine ⟨?_, ?_, hm, fun hik => ?_⟩
  · rw [World.ownsRow.cellAt ho i (by omega), List.getD_eq_getElem?_getD, List.getElem?_eq_getElem (show i < vs.length by omega)]; rfl
  · split at hS
    · exact hS.1.1
    · exact hS.1
  · rw [if_pos hik] at hS
    exact hS.2.1
end Go.Proofs.Ytkklonldplekcaa
