/- The walks of package matrix: Solve. -/
import Derived.Test.YtkklonldplekcaaMxQ
namespace Go.Proofs.Ytkklonldplekcaa
open Go.RowKit
/-- one byte more behind an owned row -/
theorem wpList_appU {w : World} {ops : Array Oper} {rest : List Oper} {o : Oper} {a : Act} {Q : Exit → Act → World → Prop} (hgd : o.guard = none) (s x : Operand)
    (ho : o.op = .call { callee := .builtin .append, args := #[s, x], argTypes := #[22, 22] })
    (v : Value) (l : List UInt8) (b : UInt8) (bk : Nat) (t : TypeId) (hs : a.eval s = v) (hx : a.eval x = .slice (some ⟨bk, 0, none⟩) 1 1) (hown : OwnB w 0 v l)
    (hb : w.heap[bk]? = some (.cells #[B b] t (0, 0))) (hl : l.length ≤ 1099511627776)
    (h : ∀ g cap w', OwnB w' 0 (.slice (some ⟨g, 0, none⟩) (l.length + 1) cap) (l ++ [b]) → w.grownBy w' v.ownBlock → (∀ k, (Value.slice (some ⟨g, 0, none⟩) (l.length + 1) cap).ownBlock = some k → v.ownBlock = some k ∨ w.heap.size ≤ k) → wpList Try.prog ops Q rest (a.put o.dst (.slice (some ⟨g, 0, none⟩) (l.length + 1) cap)) w') : wpList Try.prog ops Q (o :: rest) a w := by
  obtain ⟨i, hi, hz0, hz1, hz2⟩ := info_parts infoB
  refine wpList_append_lies w hgd s x 22 ho 0 5 i _ 1 1 Try.underlying22 hi hz0 hz1 hz2 rfl (by omega) v l.length (l.map B) hs hown ⟨bk, 0, none⟩ 1 1 [B b] hx rfl (World.news_of_block (cs := #[B b]) (t := t) (fr := (0, 0)) hb) (by simp [Value.oneCell']) (by omega) (by unfold maxLen; omega) (by omega) (Nat.zero_le _) w.heap.size rfl ?_
  intro g cap w' hown' hg hat _
  refine h g cap w' (by unfold OwnB; rw [List.length_append, List.length_singleton, List.map_append]; exact hown') hg fun k hk => ?_
  simp only [Value.ownBlock, Option.some.injEq] at hk
  subst hk
  exact hat.imp id (fun e => by omega)
theorem step_appU {w : World} {ops : Array Oper} {o : Oper} {a : Act} {K0 : Act → World → Prop} {Q : Exit → Act → World → Prop} {E : Prop} (hgd : o.guard = none) (s x : Operand)
    (ho : o.op = .call { callee := .builtin .append, args := #[s, x], argTypes := #[22, 22] })
    (v : Value) (l : List UInt8) (b : UInt8) (bk : Nat) (t : TypeId) (hs : a.eval s = v) (hx : a.eval x = .slice (some ⟨bk, 0, none⟩) 1 1) (hown : OwnB w 0 v l)
    (hb : w.heap[bk]? = some (.cells #[B b] t (0, 0))) (hl : l.length ≤ 1099511627776)
    (h : ∀ g cap w', OwnB w' 0 (.slice (some ⟨g, 0, none⟩) (l.length + 1) cap) (l ++ [b]) → w.grownBy w' v.ownBlock → (∀ k, (Value.slice (some ⟨g, 0, none⟩) (l.length + 1) cap).ownBlock = some k → v.ownBlock = some k ∨ w.heap.size ≤ k) → K0 (a.put o.dst (.slice (some ⟨g, 0, none⟩) (l.length + 1) cap)) w') : if Region.wanted o (yielded ops a.tmps) = true then Oper.wp Try.prog o a w K0 Q else E := by
  obtain ⟨i, hi, hz0, hz1, hz2⟩ := info_parts infoB
  refine step_append_lies w hgd s x 22 ho 0 5 i _ 1 1 Try.underlying22 hi hz0 hz1 hz2 rfl (by omega) v l.length (l.map B) hs hown ⟨bk, 0, none⟩ 1 1 [B b] hx rfl (World.news_of_block (cs := #[B b]) (t := t) (fr := (0, 0)) hb) (by simp [Value.oneCell']) (by omega) (by unfold maxLen; omega) (by omega) (Nat.zero_le _) w.heap.size rfl ?_
  intro g cap w' hown' hg hat _
  refine h g cap w' (by unfold OwnB; rw [List.length_append, List.length_singleton, List.map_append]; exact hown') hg fun k hk => ?_
  simp only [Value.ownBlock, Option.some.injEq] at hk
  subst hk
  exact hat.imp id (fun e => by omega)
section
variable {B : Nat} {w0 w w' : World} {ts : List Thing}
theorem Fam.growRow {v v' : Value} {l l' : List UInt8} {i : Nat} (h : Fam B w0 w ts) (hi : ts[i]? = some (rowT v l)) (ho : OwnB w' 0 v' l') (hg : w.grownBy w' v.ownBlock) (hn : ∀ k, v'.ownBlock = some k → v.ownBlock = some k ∨ w.heap.size ≤ k) : Fam B w0 w' (ts.set i (rowT v' l')) := by
  obtain ⟨S, hS, _, k⟩ := h.call hi
  refine k _ _ ⟨ho, fun j hj => ?_⟩ ((Fr.of_grown hg).mono fun j _ hj => hS.2 j hj)
  rcases hn j hj with h1 | h1
  · exact .inl (hS.2 j h1)
  · exact .inr ⟨h1, (World.ownsRow.lt ho j hj).2⟩
/-- a row grows, and its new value is put in its place -/
theorem Fam.gridGrow {R c n : Nat} {vs : List Value} {M : List (List UInt8)} {v' : Value} {l' : List UInt8} (h : Fam B w0 w (ts ++ gridT (.slice (some ⟨R, 0, none⟩) n c) vs M)) (hn : n = M.length) (hl : vs.length = M.length) {i : Nat} (hi : i < M.length) {v : Value} (hv : vs.getD i (.slice none 0 0) = v) (ho : OwnB w' 0 v' l') (hg : w.grownBy w' v.ownBlock) (hnw : ∀ k, v'.ownBlock = some k → v.ownBlock = some k ∨ w.heap.size ≤ k) : Fam B w0 (w'.setCell ⟨R, i, none⟩ v') (ts ++ gridT (.slice (some ⟨R, 0, none⟩) n c) (vs.set i v') (M.set i l')) := by
  subst hn hv
  have h1 := h.growRow (i := ts.length + (i + 1)) (by rw [get_at]; exact grid_at hl hi) ho hg hnw
  rw [set_at] at h1
  have e : (gridT (.slice (some ⟨R, 0, none⟩) M.length c) vs M).set (i + 1) (rowT v' l') = ownT 22 1 (.slice (some ⟨R, 0, none⟩) M.length c) M.length vs :: rowsT (vs.set i v') (M.set i l') := by
    unfold gridT
    rw [List.set_cons_succ, rowsT_put vs M i v' l' hl]
  rw [e] at h1
  obtain ⟨S, hS, _, kk⟩ := h1.call (i := ts.length + 0) (by rw [get_at]; rfl)
  have h2 := kk (ownT 22 1 (.slice (some ⟨R, 0, none⟩) M.length c) M.length (vs.set i v')) (w'.setCell ⟨R, i, none⟩ v') ⟨(hS.1.stored i v').1, fun j hj => .inl (hS.2 j hj)⟩ ((Fr.set_ (g := R) i v').mono fun j _ e => hS.2 j (by rw [e]; rfl))
  rw [set_at] at h2
  unfold gridT
  rw [List.length_set]
  exact h2
theorem Fam.gridGrowAt {R c n : Nat} {vs : List Value} {M : List (List UInt8)} {v' : Value} {l' : List UInt8} (h : Fam B w0 w (ts ++ gridT (.slice (some ⟨R, 0, none⟩) n c) vs M)) (hn : n = M.length) (hl : vs.length = M.length) {i : Nat} (hi : i < M.length) {v : Value} (hv : vs.getD i (.slice none 0 0) = v) (ho : OwnB w' 0 v' l') (hg : w.grownBy w' v.ownBlock) (hnw : ∀ k, v'.ownBlock = some k → v.ownBlock = some k ∨ w.heap.size ≤ k) : w'.cell? ⟨R, i, none⟩ = some v ∧ w'.frozen? ⟨R, i, none⟩ = false := by
  subst hn hv
  have h1 := h.growRow (i := ts.length + (i + 1)) (by rw [get_at]; exact grid_at hl hi) ho hg hnw
  rw [set_at] at h1
  have ho := (h1.own (i := ts.length + 0) (e := 22) (s := 1) (n := M.length) (v := .slice (some ⟨R, 0, none⟩) M.length c) (xs := vs) (by rw [get_at]; rfl)).1
  refine ⟨?_, World.ownsRow.frozenAt ho i⟩
  rw [World.ownsRow.cellAt ho i (by omega), List.getD_eq_getElem?_getD, List.getElem?_eq_getElem (show i < vs.length by omega)]; rfl
end
/-- the rows of M, those ahead of k with a byte of X more -/
def Wid (M : List (List UInt8)) (X : List UInt8) (k : Nat) (T : List (List UInt8)) : Prop := T.length = M.length ∧ ∀ a, a < M.length → T.getD a [] = if a < k then M.getD a [] ++ [X.getD a 0] else M.getD a []
theorem Wid.next {M T : List (List UInt8)} {X : List UInt8} {k : Nat} (h : Wid M X k T) (hk : k < M.length) : Wid M X (k + 1) (T.set k (T.getD k [] ++ [X.getD k 0])) := by
  obtain ⟨h1, h2⟩ := h
  refine ⟨by rw [List.length_set]; exact h1, fun a ha => ?_⟩
  rw [getD_set _ _ _ _ (by omega), h2 a ha]
  by_cases e : a = k
  · rw [if_pos e, if_pos (by omega), h2 k hk, if_neg (by omega), e]
  · rw [if_neg e]
    by_cases h3 : a < k
    · rw [if_pos h3, if_pos (by omega)]
    · rw [if_neg h3, if_neg (by omega)]
/-- what Solve answers -/
def SolE (q : UInt8) (M : List (List UInt8)) (n : Nat) (X : List UInt8) (w : World) (e : Ending) (w' : World) : Prop := Below w.heap.size w w' ∧ ∃ (B : Nat → Nat → UInt8) (piv : List Nat), Mx.Red q M.length (n + 1) (Mx.withCol n (ent M) fun i => X.getD i 0) B piv n ∧
  ((∃ i, piv.length ≤ i ∧ i < M.length ∧ B i n ≠ 0) ∧ e = .returned (.tuple #[.slice none 0 0, .int .i64 13]) ∨
   (∀ i, piv.length ≤ i → i < M.length → B i n = 0) ∧ ∃ v Y, e = .returned (.tuple #[v, .int .i64 0]) ∧ OwnB w' w.heap.size v Y ∧ Y.length = n ∧ ∀ j, j < n → Y.getD j 0 = Mx.sol piv B n j)
theorem own_at {w : World} {base e n : Nat} {v : Value} {xs : List Value} (h : w.ownsRow base e 1 v n xs) (i : Nat) (hi : i < n) : ∃ g cap, v = .slice (some ⟨g, 0, none⟩) n cap ∧ w.cell? ⟨g, i, none⟩ = xs[i]? := by
  have h0 := h
  obtain ⟨_, ⟨_, e0⟩ | ⟨g, cap, cur, rfl, _⟩⟩ := h0
  · omega
  · exact ⟨g, cap, rfl, World.ownsRow.cellAt h i (by omega)⟩
theorem own_up {w : World} {g n c base : Nat} {l : List UInt8} (h : OwnB w 0 (.slice (some ⟨g, 0, none⟩) n c) l) (hb : base ≤ g) : OwnB w base (.slice (some ⟨g, 0, none⟩) n c) l := by
  obtain ⟨h1, ⟨e, _⟩ | ⟨g', cap, cur, e, _, hg⟩⟩ := h
  · cases e
  · refine ⟨h1, .inr ⟨g', cap, cur, e, ?_, hg⟩⟩
    injection e with e1
    injection e1 with e1
    injection e1 with e1
    omega
theorem Fam.byteAt {B : Nat} {w0 w : World} {ts : List Thing} {g n c : Nat} {l : List UInt8} (h : Fam B w0 w (ts ++ [rowT (.slice (some ⟨g, 0, none⟩) n c) l])) (j : Nat) (b : UInt8) : Fam B w0 (w.setCell ⟨g, j, none⟩ (Go.Proofs.Ytkklonldplekcaa.B b)) (ts ++ [rowT (.slice (some ⟨g, 0, none⟩) n c) (l.set j b)]) := by
  obtain ⟨S, hS, _, kk⟩ := h.call (i := ts.length + 0) (by rw [get_at]; rfl)
  have h2 := kk (rowT (.slice (some ⟨g, 0, none⟩) n c) (l.set j b)) (w.setCell ⟨g, j, none⟩ (Go.Proofs.Ytkklonldplekcaa.B b)) ⟨hS.1.set_ j b, fun x hx => .inl (hS.2 x hx)⟩ ((Fr.set_ (g := g) j _).mono fun x _ e => hS.2 x (by rw [e]; rfl))
  rw [set_at] at h2
  exact h2
/-- the solution's places of the first k rows are filled -/
def SolTo (T : Nat → Nat → UInt8) (piv : List Nat) (n k : Nat) (Y : List UInt8) : Prop := Y.length = n ∧ ∀ j, j < n → Y.getD j 0 = Mx.sm (min k piv.length) fun s => if piv[s]? = some j then T s n else 0
theorem SolTo.start (T : Nat → Nat → UInt8) (piv : List Nat) (n : Nat) : SolTo T piv n 0 (List.replicate n 0) := by
  refine ⟨by simp, fun j hj => ?_⟩
  rw [Nat.zero_min, List.getD_eq_getElem?_getD, List.getElem?_replicate, if_pos hj]; rfl
theorem SolTo.past {T : Nat → Nat → UInt8} {piv : List Nat} {n k : Nat} {Y : List UInt8} (h : SolTo T piv n k Y) (hk : piv.length ≤ k) : SolTo T piv n (k + 1) Y := by
  refine ⟨h.1, fun j hj => ?_⟩
  rw [h.2 j hj, Nat.min_eq_right hk, Nat.min_eq_right (by omega)]
theorem SolTo.next {q : UInt8} {r N col n k p : Nat} {A0 T : Nat → Nat → UInt8} {piv : List Nat} {Y : List UInt8} (hr : Mx.Red q r N A0 T piv col) (h : SolTo T piv n k Y) (hp : piv[k]? = some p) (hpn : p < n) : SolTo T piv n (k + 1) (Y.set p (T k n)) := by
  have hk := (List.getElem?_eq_some_iff.1 hp).1
  refine ⟨by rw [List.length_set]; exact h.1, fun j hj => ?_⟩
  rw [Nat.min_eq_left (by omega)]
  have hY := h.2 j hj
  rw [Nat.min_eq_left (by omega)] at hY
  simp only [Mx.sm]
  rw [List.getD_eq_getElem?_getD, List.getElem?_set]
  by_cases e : p = j
  · subst e
    rw [if_pos rfl, if_pos (by rw [h.1]; exact hpn), if_pos hp, Mx.sm_null k fun s hs => ?_]
    · simp
    · rw [if_neg fun e => ?_]
      have := hr.inj e hp
      omega
  · rw [if_neg e, ← List.getD_eq_getElem?_getD, hY, if_neg (fun e2 => e (by rw [hp] at e2; injection e2)), UInt8.xor_zero]
set_option maxRecDepth 100000 in
set_option maxHeartbeats 8000000 in
theorem Solve_any (w : World) (m : Nat) (q : UInt8) (M : List (List UInt8)) (n : Nat) (h : MatAt w m q M n) (hn256 : n ≤ 256 ∧ M.length ≤ 256) (u : Value) (X : List UInt8) (hu : SlB w u X) (hx : X.length = M.length) :
    Calls Try.prog 28 #[.pointer (some ⟨m, 0, none⟩), u] w (SolE q M n X w) := by
  have hpos := h.pos
  have H := hid h
  obtain ⟨fg, R, o, c, hfd, c0, c1, hcl, hrow⟩ := h.cells
  obtain ⟨A, kk, z0, hs, hln⟩ := hrow 0 hpos.1
  rw [Nat.add_zero] at z0
  obtain ⟨Au, cu, rfl⟩ := hu.form
  have HU := hid hu
  have HFD := hid hfd
  have HC := hid (And.intro c0 c1)
  have CB := hid (Rows_any w.heap.size w w [] (Fam.start w) m q M n h)
  have hbe : ((X.length : Int) != (M.length : Int)) = false := by rw [hx]; simp
  have hbe2 : (X.length != M.length) = false := by rw [hx]; simp
  have HX := hid hx
  obtain ⟨hp1, hp2⟩ := hpos
  obtain ⟨hn1, hn2⟩ := hn256
  clear h hfd hrow hs hln hu hx
  go_enter Try.func28, Try.ntmps28
  go_wp2_with fail
  refine CB.out.mono ?_
  rintro e w3 ⟨v3, rfl, R1, r1, vs, rfl, hvl, hf1⟩
  rw [List.take_length] at hf1
  have HF1 := hid hf1
  have HVL := hid hvl
  clear c0 c1 z0 hf1 hvl CB
  go_wp2
  go_loopw [8, 34] (fun _ x wr => ∃ (k : Nat) (vs : List Value) (T : List (List UInt8)), k ≤ M.length ∧ x = .int .i64 k ∧ Wid M X k T ∧ vs.length = M.length ∧ Fam w.heap.size w wr ([] ++ gridT (.slice (some ⟨R1, 0, none⟩) M.length r1) vs T)) (fun _ x _ => M.length - (intOf x).toNat)
  case atStart => exact ⟨0, vs, M, Nat.zero_le _, rfl, ⟨rfl, fun a _ => by rw [if_neg (by omega)]⟩, HVL.out, HF1.out⟩
  case round =>
    clear HF1 HVL vs
    obtain ⟨k, vs, T, hk, rfl, hT, hvl, hf⟩ := hrel
    have HT := hid hT
    have HVL := hid hvl
    have HF := hid hf
    have HTL : Hid (T.length = M.length) := hid hT.1
    clear hT hvl hf
    by_cases hlt : k < M.length
    · obtain ⟨vk, hvk⟩ : ∃ vk, vs.getD k (.slice none 0 0) = vk := ⟨_, rfl⟩
      obtain ⟨L, hL⟩ : ∃ L, T.getD k [] = L := ⟨_, rfl⟩
      obtain ⟨y0, f0⟩ := HF.out.gridVal HTL.out.symm (by rw [HVL.out, HTL.out]) k (by have := HTL.out; omega)
      have oi := HF.out.gridOwn (by rw [HVL.out, HTL.out]) k (by have := HTL.out; omega)
      rw [hvk] at y0 oi
      rw [hL] at oi
      obtain ⟨Av, cv, rfl⟩ := oi.form
      obtain ⟨bu, ou, rfl, hbytes⟩ := (HU.out.below HF.out.base).cells (by have := HX.out; omega)
      have x0 := hbytes k (by have := HX.out; omega)
      obtain ⟨b, hb⟩ : ∃ b, X.getD k 0 = b := ⟨_, rfl⟩
      rw [hb] at x0
      have HVK := hid hvk
      have HL := hid hL
      have HBV := hid hb
      have HO := hid oi
      have HLN : Hid (L.length ≤ 1000) := hid (by rw [← hL, HT.out.2 k hlt, if_neg (by omega), H.out.len k hlt]; omega)
      have i0 : (0 : Int) ≤ (k : Int) := by omega
      have i1 : (k : Int) < (M.length : Int) := by omega
      have i2 : (k : Int) < (X.length : Int) := by have := HX.out; omega
      clear hvk hL hb oi hbytes
      go_wp2
      have y1 : ∀ ob, (wr.alloc ob).cell? ⟨R1, k, none⟩ = some (.slice Av L.length cv) := fun ob => (((Below.refl wr.heap.size wr).alloc (Nat.le_refl _) ob).cell (World.block_lt_of_cell? wr _ y0)).trans y0
      go_region_law ((refine step_appU (by rfl) (.tmp 42) (.tmp 47) (by rfl) (.slice Av L.length cv) L b wr.heap.size 5 (by rfl) (by rfl) (HO.out.alloc _).drew (heap_alloc_new wr _) (by have := HLN.out; omega) ?_; intro g9 cap9 w9 ho9 hg9 hn9; have HO9 := hid ho9; have HG9 := hid hg9; have HN9 := hid hn9; obtain ⟨c9, f9⟩ := (HF.out.below (((Below.refl wr.heap.size wr).alloc (Nat.le_refl _) _).drew)).gridGrowAt HTL.out.symm (by rw [HVL.out, HTL.out]) (by have := HTL.out; omega) HVK.out ho9 hg9 hn9; clear ho9 hg9 hn9))
      all_goals
        have R1' := hid ((HF.out.below (((Below.refl wr.heap.size wr).alloc (Nat.le_refl _) (.cells #[B b] 5 (0, 0))).drew)).gridGrow HTL.out.symm (by rw [HVL.out, HTL.out]) (show k < T.length by have := HTL.out; omega) HVK.out HO9.out HG9.out HN9.out)
        have R2' : Hid (Wid M X (k + 1) (T.set k (L ++ [b]))) := hid (by have := HT.out.next hlt; rw [HL.out, HBV.out] at this; exact this)
        clear c9 f9 y0 y1 x0 f0
        go_wp2
        go_roundw
        case rel => exact ⟨k + 1, _, _, by omega, by go_num, R2'.out, by rw [List.length_set]; exact HVL.out, R1'.out⟩
        case measure => simp [intOf]; omega
    · obtain rfl : k = M.length := by omega
      have HN1 : Hid (∀ i, i < T.length → (T.getD i []).length = n + 1) := hid fun i hi => by
        have h1 := HTL.out
        rw [HT.out.2 i (by omega), if_pos (by omega), List.length_append, H.out.len i (by omega)]; rfl
      have HEN : Hid (∀ a j, a < M.length → j < n + 1 → ent T a j = Mx.withCol n (ent M) (fun i => X.getD i 0) a j) := hid fun a j ha hj => by
        unfold ent Mx.withCol
        rw [HT.out.2 a ha, if_pos ha]
        have hl := H.out.len a ha
        by_cases h1 : j < n
        · rw [if_pos h1, List.getD_eq_getElem?_getD, List.getElem?_append_left (by omega), ← List.getD_eq_getElem?_getD]
        · rw [if_neg h1, List.getD_eq_getElem?_getD, List.getElem?_append_right (by omega), show j - (M.getD a []).length = 0 by omega]; rfl
      have CE := hid (elim_any w.heap.size w wr [] R1 M.length r1 vs T HF.out HTL.out.symm (by rw [HVL.out, HTL.out]) (n + 1) HN1.out rfl HFD.out n (by omega) (by omega) (by omega))
      have y0 : wr.cell? ⟨m, 0, none⟩ = some (.pointer (some ⟨fg, 0, none⟩)) := (HF.out.base.cell (World.block_lt_of_cell? w _ HC.out.1)).trans HC.out.1
      clear HF HVL
      go_wp2_with fail
      refine CE.out.mono ?_
      rintro e w4 ⟨pv, fb, rb, rfl, piv, vs4, T4, hred, hel⟩
      obtain ⟨A4, k4, rfl⟩ : ∃ A c, pv = Value.slice A piv.length c := own_form hel.pivs
      have HRED := hid hred
      have HEL := hid hel
      clear y0 CE hred hel
      obtain ⟨w5, hmk, ho5, hb5⟩ := make_bytes w4 n (by omega)
      have HO5 := hid ho5
      have HB5 := hid hb5
      clear ho5 hb5
      have hf5 := HEL.out.fam.add (t := rowT (.slice (some ⟨w4.heap.size, 0, none⟩) n n) (List.replicate n 0)) HB5.out ⟨own_base HO5.out (Nat.zero_le _), fun k hk => World.ownsRow.lt HO5.out k hk⟩
      obtain ⟨g, hg⟩ : ∃ g, w4.heap.size = g := ⟨_, rfl⟩
      have HGB : Hid (w.heap.size ≤ g) := hid (by rw [← hg]; exact HEL.out.fam.base.size)
      rw [hg] at hmk hf5
      have HF5 := hid hf5
      clear hf5 HO5
      clear hg
      go_wp2
      clear hmk
      go_loopw [11, 12, 62] (fun _ _ x wr => ∃ (k : Nat) (Y : List UInt8), k ≤ M.length ∧ x = .int .i64 k ∧ SolTo (ent T4) piv n k Y ∧ (∀ i, piv.length ≤ i → i < k → ent T4 i n = 0) ∧ Fam w.heap.size w wr ((Els [] fb rb fg R1 M.length r1 (.slice A4 piv.length k4) piv ++ gridT (.slice (some ⟨R1, 0, none⟩) M.length r1) vs4 T4) ++ [rowT (.slice (some ⟨g, 0, none⟩) n n) Y])) (fun _ _ x _ => M.length - (intOf x).toNat)
      case atStart => exact ⟨0, _, Nat.zero_le _, rfl, SolTo.start _ _ _, fun i h1 h2 => by omega, HF5.out⟩
      case round =>
        clear HF5 HB5
        obtain ⟨k, Y, hk, rfl, hY, hz, hf⟩ := hrel
        have HY := hid hY
        have HZ := hid hz
        have HF := hid hf
        clear hY hz hf
        by_cases hlt : k < M.length
        · obtain ⟨e0, e1⟩ := HF.out.back.gridVal HEL.out.r HEL.out.vl k (by have := HEL.out.r; omega)
          have eo := HF.out.back.gridOwn HEL.out.vl k (by have := HEL.out.r; omega)
          have eln := HEL.out.n k (by have := HEL.out.r; omega)
          obtain ⟨ge, ce, ee, ec0, ec1, ec2⟩ := eo.some_ (by omega)
          rw [ee] at e0 eo
          rw [eln] at e0 ec1
          obtain ⟨x0, _⟩ := eo.at_ n (by omega)
          obtain ⟨b, hb⟩ : ∃ b, (T4.getD k []).getD n 0 = b := ⟨_, rfl⟩
          rw [hb] at x0
          have HBV : Hid (ent T4 k n = b) := hid hb
          have i0 : (0 : Int) ≤ (k : Int) := by omega
          have i1 : (k : Int) < (M.length : Int) := by omega
          have i2 : (0 : Int) ≤ (n : Int) := by omega
          obtain ⟨N1, hN1⟩ : ∃ N1, n + 1 = N1 := ⟨_, rfl⟩
          rw [hN1] at e0 ec1
          have i3 : (n : Int) < (N1 : Int) := by omega
          clear e1 eo eln ee hb ec0 ec2 hN1
          by_cases hkp : k < piv.length
          · obtain ⟨gp, cp, ep, hpc⟩ := own_at (HF.out.back.back.own (i := 2) (e := 3) (s := 1) (n := piv.length) (v := .slice A4 piv.length k4) (xs := piv.map fun (p : Nat) => .int .i64 (p : Int)) (by unfold Els; rfl)).1 k hkp
            injection ep with ep1 ep2 ep3
            subst ep1 ep3
            obtain ⟨p, hp⟩ : ∃ p, piv[k]? = some p := ⟨_, List.getElem?_eq_getElem hkp⟩
            rw [List.getElem?_map, hp] at hpc
            have hpc : wr.cell? ⟨gp, k, none⟩ = some (.int .i64 (p : Int)) := hpc
            have hpn := HRED.out.lt k p hp
            have HP := hid hp
            obtain ⟨z0, f0⟩ := (HF.out.rowAtL 0 rfl).at_ p (by rw [HY.out.1]; exact hpn)
            have R1' := hid ((HF.out.below (Below.refl wr.heap.size wr).drew).byteAt p b)
            have R2' : Hid (SolTo (ent T4) piv n (k + 1) (Y.set p b)) := hid (by have := HY.out.next HRED.out hp hpn; rw [HBV.out] at this; exact this)
            have i4 : (0 : Int) ≤ (p : Int) := by omega
            have i5 : (p : Int) < (n : Int) := by omega
            have i6 : (k : Int) < (piv.length : Int) := by omega
            have z1 := z0
            generalize (B (Y.getD p 0)) = zb at z0
            clear hp z1
            go_upto_region 18 with (fail)
            clear e0
            go_still_tail 10, (by kernel_rfl)
            change wpList _ _ _ _ _ wr.drew
            have z2 : wr.drew.cell? ⟨g, p, none⟩ = some zb := z0
            have f2 : wr.drew.frozen? ⟨g, p, none⟩ = false := f0
            go_wp2
            go_roundw
            case rel => exact ⟨k + 1, _, by omega, by go_num, R2'.out, fun i h1 h2 => HZ.out i h1 (by omega), R1'.out⟩
            case measure => simp [intOf]; omega
          · by_cases hbz : b = 0
            · subst hbz
              have x0' : wr.cell? ⟨ge, n, none⟩ = some (.int .u8 0) := x0
              have R2' : Hid (∀ i, piv.length ≤ i → i < k + 1 → ent T4 i n = 0) := hid fun i h1 h2 => (by
                by_cases e : i = k
                · rw [e]; exact HBV.out
                · exact HZ.out i h1 (by omega))
              clear x0
              go_wp2
              go_roundw
              case rel => exact ⟨k + 1, Y, by omega, by go_num, HY.out.past (by omega), R2'.out, HF.out⟩
              case measure => simp [intOf]; omega
            · have hne : ((b.toNat : Int) != 0) = true := by rw [bne_iff_ne]; intro e; exact hbz (UInt8.toNat_inj.1 (by simpa using e))
              have hne2 : (b.toNat != 0) = true := by rw [bne_iff_ne]; intro e; exact hbz (UInt8.toNat_inj.1 (by simpa using e))
              have HE : Hid (SolE q M n X w (.returned (.tuple #[.slice none 0 0, .int .i64 13])) wr) := hid ⟨HF.out.base, ent T4, piv, red_congr HRED.out HEN.out, .inl ⟨⟨k, by omega, hlt, by rw [HBV.out]; exact hbz⟩, rfl⟩⟩
              clear hbz
              go_wp2
              go_ret2
              exact HE.out
        · have HE : Hid (SolE q M n X w (.returned (.tuple #[.slice (some ⟨g, 0, none⟩) n n, .int .i64 0])) wr) := hid ⟨HF.out.base, ent T4, piv, red_congr HRED.out HEN.out, .inr ⟨fun i h1 h2 => HZ.out i h1 (by omega), _, Y, rfl, ?_, HY.out.1, fun j hj => ?_⟩⟩
          · go_wp2
            go_ret2
            exact HE.out
          · exact own_up (HF.out.rowAtL 0 rfl) HGB.out
          · rw [HY.out.2 j hj, Nat.min_eq_right (by have := HRED.out.len; omega)]; rfl
end Go.Proofs.Ytkklonldplekcaa
