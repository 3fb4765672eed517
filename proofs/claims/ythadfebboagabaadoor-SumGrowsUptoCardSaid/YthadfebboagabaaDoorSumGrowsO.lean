/- The law's own words of calls: a struct of a kind, which one, bytes; nil sums. -/
import Derived.Test.YthadfebboagabaaDoorOpenL
import Derived.Test.YthadfebboagabaaDoorSumGrowsC
namespace Go.Proofs.YthadfebboagabaaDoor
open Go.RowKit Go.ChangeShapes Go.WideShapes
structure GOp where
  kind : Int
  on : Int
  d : List UInt8
def GOp.vals (o : GOp) (v : Value) : List Value := [.int .i64 o.kind, .int .i64 o.on, v]
def GOp.R (w : World) (ys : List Value) (o : GOp) : Prop := (∃ v, ys = o.vals v ∧ SlB w v o.d) ∧ -9223372036854775808 ≤ o.on ∧ o.on ≤ 9223372036854775807
def GOp.m (o : GOp) : Nat := o.d.length + 3
theorem GOp.R.below {w w' : World} {ys : List Value} {o : GOp} (hb : Below w.heap.size w w') (h : GOp.R w ys o) : GOp.R w' ys o := by
  obtain ⟨⟨v, h1, h2⟩, h3⟩ := h
  exact ⟨⟨v, h1, h2.below hb⟩, h3⟩
section
variable {H : Type} {enc : TypeId × Value → H} {w : World} {spare : Nat → Bool} {held : Bool}
theorem op_gop (n : Nat) (ys : List Value) (y : DataW H × List MemPlace) (h : DataW.trod enc Tryd.prog w 0 spare held n 39 ys = some y) (hl : ys.length = Tryd.prog.cellsOf 39) :
    ∃ o, GOp.R w ys o ∧ o.m ≤ Rows.uptoBulk y.1 := by
  obtain ⟨xs, m, hd, hlen, hxs, each⟩ := op_struct Tryd.underlying39 h
  rw [show Tryd.prog.cellsOf 39 = 3 by kernel_rfl] at hl
  match ys, hl with
  | [c0, c1, c2], _ =>
    obtain ⟨y0, z0, g0⟩ := each 0 _ rfl
    obtain ⟨y1, z1, g1⟩ := each 1 _ rfl
    obtain ⟨y2, z2, g2⟩ := each 2 _ rfl
    change DataW.trod enc Tryd.prog w 0 spare held m 3 (List.take (Tryd.prog.cellsOf 3) (List.drop 0 [c0, c1, c2])) = some y0 at g0
    change DataW.trod enc Tryd.prog w 0 spare held m 3 (List.take (Tryd.prog.cellsOf 3) (List.drop 1 [c0, c1, c2])) = some y1 at g1
    change DataW.trod enc Tryd.prog w 0 spare held m 33 (List.take (Tryd.prog.cellsOf 33) (List.drop 2 [c0, c1, c2])) = some y2 at g2
    rw [show Tryd.prog.cellsOf 3 = 1 by kernel_rfl] at g0 g1
    rw [show Tryd.prog.cellsOf 33 = 1 by kernel_rfl] at g2
    simp only [List.drop_succ_cons, List.drop_zero, List.take_succ_cons, List.take_zero] at g0 g1 g2
    obtain ⟨k, hk, _⟩ := op_i64 Tryd.underlying3 g0
    obtain ⟨i, hi, i0, i1⟩ := op_i64 Tryd.underlying3 g1
    obtain ⟨v, l, hv, hsl, _, hbl, _⟩ := op_bytes Tryd.underlying33 Tryd.underlying5 (by kernel_rfl) (by kernel_rfl) g2
    injection hk with hk; injection hi with hi; injection hv with hv
    subst hk hi hv
    refine ⟨⟨k, i, l⟩, ⟨⟨c2, rfl, hsl⟩, i0, i1⟩, ?_⟩
    match xs, hxs with
    | [x0, x1, x2], _ =>
      simp at z0 z1 z2
      subst z0 z1 z2
      rw [hd]
      have b0 := bulk_one x0.1
      have b1 := bulk_one x1.1
      simp only [GOp.m, List.map_cons, List.map_nil, Rows.uptoBulk, Rows.uptoBulkAll]
      omega
end
theorem gop_at {w : World} {b off c n : Nat} {ops : List GOp} (h : SlR GOp.R 3 w (.slice (some ⟨b, off, none⟩) n c) ops) (i : Nat) (o : GOp) (hi : ops[i]? = some o) :
    ∃ v, w.rangeAt b (off + i * 3) (o.vals v) ∧ SlB w v o.d := by
  obtain ⟨A, c', ys, e1, h1, h2, h3, h4⟩ := h
  injection e1 with e1 e2 e3
  have hil := (List.getElem?_eq_some_iff.1 hi).1
  obtain ⟨b', off', eA, hc⟩ := h4 (by omega)
  rw [← e1] at eA
  injection eA with eA
  injection eA with ea eb
  subst ea eb
  obtain ⟨_, ⟨v, hv, hs⟩, _⟩ := h3 i o hi
  refine ⟨v, fun j x hj => ?_, hs⟩
  have hj5 : j < 3 := (List.getElem?_eq_some_iff.1 hj).1
  have := hc i hil j hj5
  rw [hv, hj] at this
  rw [Nat.add_assoc]
  exact this
theorem gcells_at {w : World} {b p : Nat} {o : GOp} {v : Value} (h : w.rangeAt b p (o.vals v)) (W : World) (hb : Below w.heap.size w W) :
    W.cell? ⟨b, p, none⟩ = some (.int .i64 o.kind) ∧ W.cell? ⟨b, p + 1, none⟩ = some (.int .i64 o.on) ∧ W.cell? ⟨b, p + 2, none⟩ = some v := by
  have key : ∀ (j : Nat) (x : Value), (o.vals v)[j]? = some x → W.cell? ⟨b, p + j, none⟩ = some x := fun j x hx =>
    (hb.cell (World.block_lt_of_cell? w _ (h j x hx))).trans (h j x hx)
  exact ⟨key 0 _ rfl, key 1 _ rfl, key 2 _ rfl⟩
theorem Value_nil (w : World) : Calls Tryd.prog 11 #[.pointer none] w fun e w' => e = .returned (.int .u32 0) ∧ w' = w := by
  go_enter Tryd.func11, Tryd.ntmps11
  go_wp2
  go_ret
  exact ⟨rfl, rfl⟩
theorem Len_nil (w : World) : Calls Tryd.prog 12 #[.pointer none] w fun e w' => e = .returned (.int .i64 0) ∧ w' = w := by
  go_enter Tryd.func12, Tryd.ntmps12
  go_wp2
  go_ret
  exact ⟨rfl, rfl⟩
theorem Copy_nil (w : World) : Calls Tryd.prog 13 #[.pointer none] w fun e w' => e = .returned (.pointer none) ∧ w' = w := by
  go_enter Tryd.func13, Tryd.ntmps13
  go_wp2
  go_ret
  exact ⟨rfl, rfl⟩
theorem Write_nil (v : Value) (w : World) : Calls Tryd.prog 10 #[.pointer none, v] w fun e w' => e = .returned (.tuple #[]) ∧ w' = w := by
  go_enter Tryd.func10, Tryd.ntmps10
  go_wp2
  go_returns
  exact ⟨rfl, rfl⟩
theorem infoP : (Tryd.prog.info? 31).map (fun i => (i.zero, i.size, i.bytes)) = some (some (.pointer none), 1, 8) := by kernel_rfl
theorem lit_own (w : World) (v : Value) (e : TypeId) : (w.alloc (.cells #[v] e)).ownsRow w.heap.size e 1 (.slice (some ⟨w.heap.size, 0, none⟩) 1 1) 1 [v] :=
  ⟨rfl, .inr ⟨w.heap.size, 1, #[v], rfl, Nat.le_refl _, heap_alloc_new _ _, Nat.le_refl _, by unfold maxLen; omega, rfl, rfl⟩⟩
theorem Gr.start {w0 W : World} {g0 : Nat} (hb : Below w0.heap.size w0 W) (hs : SAt W g0 []) (hg : w0.heap.size ≤ g0) :
    ∃ ρ, Gr w0 ρ (.slice (some ⟨W.heap.size, 0, none⟩) 1 1) (.slice (some ⟨W.heap.size + 1, 0, none⟩) 1 1) [g0] [.slice none 0 0] [[]] ((W.alloc (.cells #[ptr g0] 31)).alloc (.cells #[.slice none 0 0] 33)) := by
  have hlt := blk_lt hs
  have b1 := (Below.refl W.heap.size W).alloc (Nat.le_refl _) (.cells #[ptr g0] 31)
  have b2 : Below (W.alloc (.cells #[ptr g0] 31)).heap.size (W.alloc (.cells #[ptr g0] 31)) ((W.alloc (.cells #[ptr g0] 31)).alloc (.cells #[.slice none 0 0] 33)) := (Below.refl _ _).alloc (Nat.le_refl _) _
  have o1 := own_base (lit_own W (ptr g0) 31) hb.size
  have o2 := own_base (lit_own (W.alloc (.cells #[ptr g0] 31)) (.slice none 0 0) 33) (Nat.le_trans hb.size b1.size)
  have hz : (W.alloc (.cells #[ptr g0] 31)).heap.size = W.heap.size + 1 := by simp
  have bb := below_then b1 b2
  refine ⟨fun k => if k = g0 then 3 else if k = W.heap.size then 1 else 2, hb.trans (bb.mono hb.size), own_block o1 fun k hk => b2.block k (World.ownsRow.lt o1 k hk).2, by rw [hz] at o2; exact o2, rfl, rfl, fun i g l h1 h2 => ?_, fun i t l h1 h2 => ?_, fun k hk => ?_, fun k hk => ?_⟩
  · cases i with
    | zero =>
      simp at h1 h2
      subst h1 h2
      exact ⟨blk_keep bb hs hlt, hg, by simp⟩
    | succ i => simp at h1
  · cases i with
    | zero =>
      simp at h1 h2
      subst h1 h2
      exact ⟨Sl.nil _ _, fun k hk => by simp [Value.ownBlock] at hk⟩
    | succ i => simp at h1
  · simp [Value.ownBlock] at hk
    subst hk
    rw [if_neg (by omega), if_pos rfl]
  · simp [Value.ownBlock] at hk
    subst hk
    rw [if_neg (by omega), if_neg (by omega)]
/-- the lists as slices -/
theorem Gr.form {w0 W : World} {ρ : Nat → Nat} {av tv : Value} {gs : List Nat} {ts : List Value} {ls : List (List UInt8)} (h : Gr w0 ρ av tv gs ts ls W) (h0 : 0 < ls.length) :
    ∃ ga ca gt ct, av = .slice (some ⟨ga, 0, none⟩) ls.length ca ∧ tv = .slice (some ⟨gt, 0, none⟩) ls.length ct ∧ ls.length ≤ ca ∧ ls.length ≤ ct ∧
      (∀ (i g : Nat), gs[i]? = some g → W.cell? ⟨ga, i, none⟩ = some (ptr g)) ∧ (∀ (i : Nat) (t : Value), ts[i]? = some t → W.cell? ⟨gt, i, none⟩ = some t) ∧ (∀ i, W.frozen? ⟨gt, i, none⟩ = false) := by
  have n1 := h.n1
  have n2 := h.n2
  have ha := h.ao
  have ht := h.tow
  rw [n1] at ha
  rw [n2] at ht
  have ha' := ha
  have ht' := ht
  obtain ⟨_, ⟨_, h1⟩ | ⟨ga, ca, cur, rfl, _, _, hca, _, _, _⟩⟩ := ha'
  · omega
  obtain ⟨_, ⟨_, h1⟩ | ⟨gt, ct, cur2, rfl, _, _, hct, _, _, _⟩⟩ := ht'
  · omega
  refine ⟨ga, ca, gt, ct, rfl, rfl, hca, hct, fun i g hi => ?_, fun i t hi => ?_, fun i => World.ownsRow.frozenAt ht i⟩
  · have hil := (List.getElem?_eq_some_iff.1 hi).1
    rw [World.ownsRow.cellAt ha i (by omega)]
    simp [hi]
  · have hil := (List.getElem?_eq_some_iff.1 hi).1
    rw [World.ownsRow.cellAt ht i (by omega), hi]
theorem Gr.cells {w0 W : World} {ρ : Nat → Nat} {ga ca gt ct n m : Nat} {gs : List Nat} {ts : List Value} {ls : List (List UInt8)} (h : Gr w0 ρ (.slice (some ⟨ga, 0, none⟩) n ca) (.slice (some ⟨gt, 0, none⟩) m ct) gs ts ls W) (i g : Nat) (t : Value) (hg : gs[i]? = some g) (ht : ts[i]? = some t) :
    W.cell? ⟨ga, i, none⟩ = some (ptr g) ∧ W.cell? ⟨gt, i, none⟩ = some t ∧ W.frozen? ⟨gt, i, none⟩ = false := by
  have hgl := (List.getElem?_eq_some_iff.1 hg).1
  have htl := (List.getElem?_eq_some_iff.1 ht).1
  obtain ⟨_, _, _, _, e1, e2, _, _, h1, h2, h3⟩ := h.form (by rw [← h.n1]; omega)
  injection e1 with e1 _ _; injection e1 with e1; injection e1 with e1
  injection e2 with e2 _ _; injection e2 with e2; injection e2 with e2
  subst e1 e2
  exact ⟨h1 i g hg, h2 i t ht, h3 i⟩
theorem Gr.get {w0 W : World} {ρ : Nat → Nat} {av tv : Value} {gs : List Nat} {ts : List Value} {ls : List (List UInt8)} (h : Gr w0 ρ av tv gs ts ls W) (i : Nat) (hi : i < ls.length) :
    ∃ g t l, gs[i]? = some g ∧ ts[i]? = some t ∧ ls[i]? = some l :=
  ⟨_, _, _, List.getElem?_eq_getElem (by rw [h.n1]; exact hi), List.getElem?_eq_getElem (by rw [h.n2]; exact hi), List.getElem?_eq_getElem hi⟩
theorem fr_cellX {X : Nat → Prop} {w w1 : World} (hf : Fr X w w1) {p : Addr} {v : Value} (h : w.cell? p = some v) (hp : ¬ X p.block) : w1.cell? p = some v := by
  rw [World.cell?_of_block (w := w) (w' := w1) (hf.block p.block (World.block_lt_of_cell? w _ h) hp), h]
/-- what one look at a sum reads -/
def Look (ga gt a g : Nat) (t : Value) (l : List UInt8) (W0 W : World) : Prop :=
  W.cell? ⟨ga, a, none⟩ = some (ptr g) ∧ W.cell? ⟨gt, a, none⟩ = some t ∧ SAt W g l ∧ SlB W t l ∧ Below W0.heap.size W0 W
theorem Gr.look {w0 W : World} {ρ : Nat → Nat} {ga ca gt ct n m : Nat} {gs : List Nat} {ts : List Value} {ls : List (List UInt8)} (h : Gr w0 ρ (.slice (some ⟨ga, 0, none⟩) n ca) (.slice (some ⟨gt, 0, none⟩) m ct) gs ts ls W) (i g : Nat) (t : Value) (l : List UInt8) (hg : gs[i]? = some g) (ht : ts[i]? = some t) (hl : ls[i]? = some l) (W' : World) (hb : Below W.heap.size W W') : Look ga gt i g t l W W' :=
  have h' := h.below hb
  ⟨(h'.cells i g t hg ht).1, (h'.cells i g t hg ht).2.1, (h'.sums i g l hg hl).1, (h'.txt i t l ht hl).1, hb⟩
theorem Look.keep {ga gt a g : Nat} {t : Value} {l : List UInt8} {W0 W W' : World} (h : Look ga gt a g t l W0 W) (hb : Below W.heap.size W W') : Look ga gt a g t l W0 W' :=
  ⟨(hb.cell (World.block_lt_of_cell? W _ h.1)).trans h.1, (hb.cell (World.block_lt_of_cell? W _ h.2.1)).trans h.2.1, blk_keep hb h.2.2.1 (blk_lt h.2.2.1), h.2.2.2.1.below hb, below_then h.2.2.2.2 hb⟩
theorem refOf_one {W : World} {t : Value} {l : List UInt8} (h : SlB W t l) (hl : l.length ≤ 140737488355328) :
    Calls Tryd.prog 17 #[.slice (some ⟨W.heap.size, 0, none⟩) 1 1] (W.alloc (.cells #[t] 33)) fun e w' => e = .returned (W32 (Crc.sumOf l)) ∧ w' = W.alloc (.cells #[t] 33) := by
  have := refOf_any _ [l] _ (lit_bb (w := W) [t] [l] rfl (fun i hi => by obtain rfl : i = 0 := (by simpa using hi); exact h)) (by simp) (fun i => by cases i <;> simp; omega)
  refine this.mono ?_
  rintro e w' ⟨rfl, rfl⟩
  exact ⟨by simp, rfl⟩
abbrev LS (ga gt a g : Nat) (t : Value) (l : List UInt8) (W0 W : World) : Prop :=
  W.cell? ⟨ga, a, none⟩ = some (ptr g) ∧ W.cell? ⟨gt, a, none⟩ = some t ∧ Hid (Look ga gt a g t l W0 W)
theorem LS.of {ga gt a g : Nat} {t : Value} {l : List UInt8} {W0 W : World} (h : Look ga gt a g t l W0 W) : LS ga gt a g t l W0 W := ⟨h.1, h.2.1, hid h⟩
theorem refOf_oneD {W : World} {t : Value} {l : List UInt8} (h : SlB W.drew t l) (hl : l.length ≤ 140737488355328) :
    Calls Tryd.prog 17 #[.slice (some ⟨W.heap.size, 0, none⟩) 1 1] (W.alloc (.cells #[t] 33)).drew fun e w' => e = .returned (W32 (Crc.sumOf l)) ∧ w' = (W.alloc (.cells #[t] 33)).drew := refOf_one (W := W.drew) h hl
theorem own_some {W : World} {base e n : Nat} {v : Value} {xs : List Value} (h : W.ownsRow base e 1 v n xs) (hn : 0 < n) : ∃ g cap, v = .slice (some ⟨g, 0, none⟩) n cap ∧ n ≤ cap := by
  obtain ⟨_, ⟨_, h0⟩ | ⟨g, cap, _, rfl, _, _, hc, _⟩⟩ := h
  · omega
  · exact ⟨g, cap, rfl, hc⟩
/-- the state behind a call of the script: where the sum that was looked for lies, and the whole -/
structure Nx (w0 : World) (av tv : Value) (ga gt a g : Nat) (t : Value) (l : List UInt8) (n s : Nat) (Wc : World) : Prop where
  look : ∀ W', Below Wc.heap.size Wc W' → Look ga gt a g t l Wc W'
  next : ∀ W', Below Wc.heap.size Wc W' → ∃ ρ gs ts ls, Gr w0 ρ av tv gs ts ls W' ∧ 0 < ls.length ∧ ls.length ≤ n ∧ ∀ l ∈ ls, l.length ≤ s
  small : l.length ≤ s
theorem Nx.of {w0 Wc : World} {ρ : Nat → Nat} {ga ca gt ct n m : Nat} {gs : List Nat} {ts : List Value} {ls : List (List UInt8)} {k s : Nat} (h : Gr w0 ρ (.slice (some ⟨ga, 0, none⟩) n ca) (.slice (some ⟨gt, 0, none⟩) m ct) gs ts ls Wc) (a g : Nat) (t : Value) (l : List UInt8)
    (hg : gs[a]? = some g) (ht : ts[a]? = some t) (hl : ls[a]? = some l) (hk : ls.length ≤ k) (hs : ∀ l ∈ ls, l.length ≤ s) : Nx w0 (.slice (some ⟨ga, 0, none⟩) n ca) (.slice (some ⟨gt, 0, none⟩) m ct) ga gt a g t l k s Wc :=
  ⟨fun W' hb => h.look a g t l hg ht hl W' hb, fun W' hb => ⟨ρ, gs, ts, ls, h.below hb, by have := (List.getElem?_eq_some_iff.1 hl).1; omega, hk, hs⟩, hs l (List.mem_of_getElem? hl)⟩
end Go.Proofs.YthadfebboagabaaDoor
