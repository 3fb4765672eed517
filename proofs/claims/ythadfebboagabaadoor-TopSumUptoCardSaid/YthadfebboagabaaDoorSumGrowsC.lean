/- A sum that grows: its methods; the state of the law SumGrows. -/
import Derived.Test.YthadfebboagabaaDoorSumAllC
import Derived.Handy
namespace Go.Proofs.YthadfebboagabaaDoor
open Go.RowKit
theorem fr_set {X : Nat → Prop} {w w1 : World} {g : Nat} (h : Fr X w w1) (hg : X g) (i : Nat) (v : Value) : Fr X w (w1.setCell ⟨g, i, none⟩ v) :=
  h.trans ((Fr.set_ i v).mono fun k _ e => .inl (by rw [e]; exact hg))
/-- a sum that grows -/
def SAt (w : World) (g : Nat) (l : List UInt8) : Prop := w.heap[g]? = some (.cells #[W32 (Crc.sumOf l), .int .i64 (l.length : Int)] 65 (0, 0))
theorem SAt.c0 {w : World} {g : Nat} {l : List UInt8} (h : SAt w g l) : w.cell? ⟨g, 0, none⟩ = some (W32 (Crc.sumOf l)) := by rw [blk_cell h]; rfl
theorem SAt.c1 {w : World} {g : Nat} {l : List UInt8} (h : SAt w g l) : w.cell? ⟨g, 1, none⟩ = some (.int .i64 (l.length : Int)) := by rw [blk_cell h]; rfl
theorem sum_nil : Crc.sumOf [] = 0#32 := by decide
theorem sum_more (l p : List UInt8) : ~~~ (Crc.crc (~~~ (Crc.sumOf l)) p) = Crc.sumOf (l ++ p) := by
  unfold Crc.sumOf
  rw [Crc.crc_append, BitVec.not_not]
set_option maxHeartbeats 1000000 in
theorem New_any (w : World) :
    Calls Tryd.prog 14 #[] w fun e w' => e = .returned (.pointer (some ⟨w.heap.size, 0, none⟩)) ∧ SAt w' w.heap.size [] ∧ Below w.heap.size w w' ∧ w'.heap.size = w.heap.size + 1 := by
  go_enter Tryd.func14, Tryd.ntmps14
  go_wp2
  go_ret
  refine ⟨rfl, ?_, (Below.refl _ _).alloc (Nat.le_refl _) _, by simp⟩
  unfold SAt
  rw [heap_alloc_new, sum_nil]; rfl
set_option maxHeartbeats 1000000 in
theorem Value_any (g : Nat) (l : List UInt8) (w : World) (h : SAt w g l) :
    Calls Tryd.prog 11 #[.pointer (some ⟨g, 0, none⟩)] w fun e w' => e = .returned (W32 (Crc.sumOf l)) ∧ w' = w := by
  have c0 := h.c0
  clear h
  go_enter Tryd.func11, Tryd.ntmps11
  go_wp2
  go_ret
  exact ⟨rfl, rfl⟩
set_option maxHeartbeats 1000000 in
theorem Len_any (g : Nat) (l : List UInt8) (w : World) (h : SAt w g l) :
    Calls Tryd.prog 12 #[.pointer (some ⟨g, 0, none⟩)] w fun e w' => e = .returned (.int .i64 (l.length : Int)) ∧ w' = w := by
  have c1 := h.c1
  clear h
  go_enter Tryd.func12, Tryd.ntmps12
  go_wp2
  go_ret
  exact ⟨rfl, rfl⟩
set_option maxHeartbeats 1000000 in
theorem Copy_any (g : Nat) (l : List UInt8) (w : World) (h : SAt w g l) :
    Calls Tryd.prog 13 #[.pointer (some ⟨g, 0, none⟩)] w fun e w' => e = .returned (.pointer (some ⟨w.heap.size, 0, none⟩)) ∧ SAt w' w.heap.size l ∧ Below w.heap.size w w' := by
  have c0 := h.c0
  have c1 := h.c1
  obtain ⟨x, hx⟩ : ∃ x, x = Crc.sumOf l := ⟨_, rfl⟩
  rw [← hx] at c0
  have HX := hid hx
  clear h hx
  go_enter Tryd.func13, Tryd.ntmps13
  go_wp2
  go_ret
  exact ⟨rfl, by unfold SAt; rw [heap_alloc_new, ← HX.out], (Below.refl _ _).alloc (Nat.le_refl _) _⟩
set_option maxHeartbeats 1000000 in
theorem Write_any (g : Nat) (l p : List UInt8) (v : Value) (w : World) (h : SAt w g l) (hT : TabAt w) (hp : SlB w v p) (hl : l.length + p.length ≤ 140737488355328) :
    Calls Tryd.prog 10 #[.pointer (some ⟨g, 0, none⟩), v] w fun e w' => e = .returned (.tuple #[]) ∧ SAt w' g (l ++ p) ∧ Fr (fun b => b = g) w w' := by
  have H := hid h
  have HT := hid hT
  have HP := hid hp
  have c0 := h.c0
  have c1 := h.c1
  have f0 := blk_frozen h 0
  have f1 := blk_frozen h 1
  have HM := hid (sum_more l p)
  obtain ⟨x, hx⟩ : ∃ x, x = Crc.sumOf l := ⟨_, rfl⟩
  rw [← hx] at c0 HM
  have HX := hid hx
  obtain ⟨A, c, rfl⟩ := hp.form
  obtain ⟨y, hy⟩ : ∃ y, y = ~~~x := ⟨_, rfl⟩
  have hn : bits .xor .u32 IntKind.u32.max (x.toNat : Int) = (y.toNat : Int) := by rw [not32 x, hy]
  rw [← hy] at HM
  clear h hT hp hx hy
  go_enter Tryd.func10, Tryd.ntmps10
  go_wp2
  clear hn
  go_loop [4, 16] (fun z i => ∃ j : Nat, j ≤ p.length ∧ i = .int .i64 j ∧ z = W32 (Crc.crc y (p.take j))) (fun _ i => p.length - (intOf i).toNat)
  case atStart => exact ⟨0, Nat.zero_le _, rfl, rfl⟩
  case round =>
    obtain ⟨j, hj, rfl, rfl⟩ := hrel
    by_cases hlt : j < p.length
    · obtain ⟨b1, off1, rfl, hc2⟩ := HP.out.cells (by omega)
      replace hc2 := hc2 j hlt
      have HS := hid (Crc.crc_snoc y p j hlt)
      generalize Crc.crc y (p.take j) = x1 at *
      generalize p.getD j 0 = b2 at *
      go_wp2_with (go_at_call 29; refine (step_any _ _ _ HT.out).mono ?_; rintro e w' ⟨rfl, rfl⟩)
      go_round
      case rel => exact ⟨j + 1, by omega, by go_num, by rw [HS.out]⟩
      case measure => simp [intOf]; omega
    · obtain rfl : j = p.length := by omega
      rw [List.take_length]
      obtain ⟨z, hz⟩ : ∃ z, z = Crc.crc y p := ⟨_, rfl⟩
      rw [← hz] at HM ⊢
      obtain ⟨r, hr⟩ : ∃ r, r = ~~~z := ⟨_, rfl⟩
      have hn : bits .xor .u32 IntKind.u32.max (z.toNat : Int) = (r.toNat : Int) := by rw [not32 z, hr]
      have HR : Hid (r = Crc.sumOf (l ++ p)) := hid (by rw [hr, HM.out])
      clear hz hr hlt
      go_wp2
      go_returns
      refine ⟨rfl, ?_, fr_set (X := fun b => b = g) (fr_set (X := fun b => b = g) (Fr.refl _ _) rfl _ _) rfl _ _⟩
      unfold SAt
      rw [blk_set (blk_set H.out _ _), ← HR.out]
      simp
theorem own_fr {X : Nat → Prop} {w w' : World} {base e s n : Nat} {v : Value} {xs : List Value} (h : w.ownsRow base e s v n xs) (hf : Fr X w w') (hx : ∀ k, v.ownBlock = some k → ¬ X k) : w'.ownsRow base e s v n xs :=
  own_block h fun k hk => hf.block k (World.ownsRow.lt h k hk).2 (hx k hk)
theorem sl_fr {X : Nat → Prop} {w w1 : World} {v : Value} {l : List UInt8} (h : SlB w v l) (hf : Fr X w w1) (hx : ∀ k, v.ownBlock = some k → ¬ X k) : SlB w1 v l := by
  obtain ⟨A, c, rfl, h1, h2, h3⟩ := h
  refine ⟨A, c, rfl, h1, h2, fun h0 => ?_⟩
  obtain ⟨b, off, rfl, hc⟩ := h3 h0
  refine ⟨b, off, rfl, fun i hi => ?_⟩
  have hb := World.block_lt_of_cell? w _ (hc i hi)
  rw [World.cell?_of_block (w := w) (w' := w1) (a := ⟨b, off + i, none⟩) (hf.block b hb (hx b rfl)), hc i hi]
abbrev ptr (g : Nat) : Value := .pointer (some ⟨g, 0, none⟩)
/-- some sums, what each was told; each block has a part of its own -/
structure Gr (w0 : World) (ρ : Nat → Nat) (av tv : Value) (gs : List Nat) (ts : List Value) (ls : List (List UInt8)) (W : World) : Prop where
  b : Below w0.heap.size w0 W
  ao : W.ownsRow w0.heap.size 31 1 av gs.length (gs.map ptr)
  tow : W.ownsRow w0.heap.size 33 1 tv ts.length ts
  n1 : gs.length = ls.length
  n2 : ts.length = ls.length
  sums : ∀ (i g : Nat) (l : List UInt8), gs[i]? = some g → ls[i]? = some l → SAt W g l ∧ w0.heap.size ≤ g ∧ ρ g = 3 + i
  txt : ∀ (i : Nat) (t : Value) (l : List UInt8), ts[i]? = some t → ls[i]? = some l → SlB W t l ∧ ∀ k, t.ownBlock = some k → ρ k = 0 ∧ k < W.heap.size
  ra : ∀ k, av.ownBlock = some k → ρ k = 1
  rt : ∀ k, tv.ownBlock = some k → ρ k = 2
section
variable {w0 W : World} {ρ : Nat → Nat} {av tv : Value} {gs : List Nat} {ts : List Value} {ls : List (List UInt8)}
theorem Gr.fr {X : Nat → Prop} {W' : World} (h : Gr w0 ρ av tv gs ts ls W) (hf : Fr X W W') (hX : ∀ k, k < W.heap.size → ¬ X k) : Gr w0 ρ av tv gs ts ls W' := by
  have hb : Below W.heap.size W W' := hf.to_below hX (Nat.le_refl _)
  exact ⟨h.b.trans (hb.mono h.b.size), own_block h.ao fun k hk => hb.block k (World.ownsRow.lt h.ao k hk).2, own_block h.tow fun k hk => hb.block k (World.ownsRow.lt h.tow k hk).2, h.n1, h.n2,
    fun i g l h1 h2 => ⟨blk_keep hb (h.sums i g l h1 h2).1 (blk_lt (h.sums i g l h1 h2).1), (h.sums i g l h1 h2).2⟩, fun i t l h1 h2 => ⟨(h.txt i t l h1 h2).1.below hb, fun k hk => ⟨((h.txt i t l h1 h2).2 k hk).1, Nat.lt_of_lt_of_le ((h.txt i t l h1 h2).2 k hk).2 hb.size⟩⟩, h.ra, h.rt⟩
theorem Gr.below {W' : World} (h : Gr w0 ρ av tv gs ts ls W) (hb : Below W.heap.size W W') : Gr w0 ρ av tv gs ts ls W' := h.fr (Fr.of_below hb) fun _ _ h => h
theorem SAt.fr {X : Nat → Prop} {w w' : World} {g : Nat} {l : List UInt8} (h : SAt w g l) (hf : Fr X w w') (hg : ¬ X g) : SAt w' g l := blk_fr hf h hg
/-- a sum is told more: its text is put anew -/
theorem Gr.wrote {W2 : World} {gt ct : Nat} (h : Gr w0 ρ av (.slice (some ⟨gt, 0, none⟩) ts.length ct) gs ts ls W) (i g : Nat) (l l' : List UInt8) (t' : Value) (hg : gs[i]? = some g) (hl : ls[i]? = some l)
    (hf : Fr (fun k => k = g) W W2) (hs : SAt W2 g l') (ht : SlB W2 t' l') (hb : ∀ k, t'.ownBlock = some k → W.heap.size ≤ k ∧ k < W2.heap.size) :
    Gr w0 (fun k => if k < W.heap.size then ρ k else 0) av (.slice (some ⟨gt, 0, none⟩) ts.length ct) gs (ts.set i t') (ls.set i l') (W2.setCell ⟨gt, i, none⟩ t') := by
  have hgt : ρ gt = 2 := h.rt gt rfl
  have hgtl : gt < W.heap.size := (World.ownsRow.lt h.tow gt rfl).2
  have hgi := h.sums i g l hg hl
  have hgl : g < W.heap.size := blk_lt hgi.1
  have hne : gt ≠ g := fun e => by have := hgi.2.2; rw [← e] at this; omega
  have hbase := (World.ownsRow.lt h.tow gt rfl).1
  have hf2 : Fr (fun k => k = g ∨ k = gt) W (W2.setCell ⟨gt, i, none⟩ t') := (hf.mono fun _ _ e => .inl e).trans ((Fr.set_ (g := gt) i t').mono fun k _ e => .inl (.inr e))
  have hown := World.ownsRow.stored (own_fr h.tow hf (fun k hk e => hne (by injection hk with hk; exact hk.trans e))) i t'
  refine ⟨h.b.trans (hf2.to_below (fun k hk e => ?_) h.b.size), own_fr h.ao hf2 (fun k hk e => ?_), ?_, by simpa using h.n1, by simpa using h.n2, fun j g' l2 h1 h2 => ?_, fun j t l2 h1 h2 => ?_, fun k hk => ?_, fun k hk => ?_⟩
  · rcases e with e | e
    · omega
    · omega
  · have := h.ra k hk
    rcases e with e | e
    · rw [e] at this; have := hgi.2.2; omega
    · rw [e] at this; omega
  · have := hown.1
    rw [List.length_set]
    exact this
  · rcases Nat.decEq j i with hji | hji
    · rw [List.getElem?_set_ne (by omega)] at h2
      have h3 := h.sums j g' l2 h1 h2
      have hlt := blk_lt h3.1
      refine ⟨h3.1.fr hf2 (fun e => ?_), h3.2.1, by rw [if_pos hlt]; exact h3.2.2⟩
      have h4 := h3.2.2
      rcases e with e | e
      · rw [e] at h4; have := hgi.2.2; omega
      · rw [e] at h4; omega
    · subst hji
      rw [hg] at h1
      injection h1 with h1
      subst h1
      have hlt := (List.getElem?_eq_some_iff.1 hl).1
      rw [List.getElem?_set_self hlt] at h2
      injection h2 with h2
      subst h2
      refine ⟨?_, hgi.2.1, by rw [if_pos hgl]; exact hgi.2.2⟩
      exact hs.fr (Fr.set_ _ _) (fun e => hne e.symm)
  · rcases Nat.decEq j i with hji | hji
    · rw [List.getElem?_set_ne (by omega)] at h1 h2
      have h3 := h.txt j t l2 h1 h2
      refine ⟨sl_fr h3.1 hf2 (fun k hk e => ?_), fun k hk => ?_⟩
      · have h4 := (h3.2 k hk).1
        rcases e with e | e
        · rw [e] at h4; have := hgi.2.2; omega
        · rw [e] at h4; omega
      · have h5 := h3.2 k hk
        exact ⟨by rw [if_pos h5.2]; exact h5.1, Nat.lt_of_lt_of_le h5.2 hf2.size⟩
    · subst hji
      have hlt := (List.getElem?_eq_some_iff.1 hl).1
      rw [List.getElem?_set_self (by rw [h.n2]; exact hlt)] at h1
      rw [List.getElem?_set_self hlt] at h2
      injection h1 with h1
      injection h2 with h2
      subst h1 h2
      refine ⟨sl_fr ht (Fr.set_ _ _) (fun k hk e => ?_), fun k hk => ?_⟩
      · have := (hb k hk).1; omega
      · have h5 := hb k hk
        exact ⟨by rw [if_neg (by omega)], by simpa using h5.2⟩
  · have hlt := (World.ownsRow.lt h.ao k hk).2
    rw [if_pos hlt]; exact h.ra k hk
  · have hlt := (World.ownsRow.lt h.tow k hk).2
    rw [if_pos hlt]; exact h.rt k hk
/-- one more sum -/
theorem Gr.copied {W2 : World} {av' tv' t : Value} (h : Gr w0 ρ av tv gs ts ls W) (i g' : Nat) (l : List UInt8) (hl : ls[i]? = some l) (ht : ts[i]? = some t)
    (hf : Fr (fun k => av.ownBlock = some k ∨ tv.ownBlock = some k) W W2) (hs : SAt W2 g' l) (hg' : W.heap.size ≤ g')
    (hao : W2.ownsRow w0.heap.size 31 1 av' (gs.length + 1) (gs.map ptr ++ [ptr g'])) (hto : W2.ownsRow w0.heap.size 33 1 tv' (ts.length + 1) (ts ++ [t]))
    (ha : ∀ k, av'.ownBlock = some k → av.ownBlock = some k ∨ (W.heap.size ≤ k ∧ k ≠ g')) (htt : ∀ k, tv'.ownBlock = some k → tv.ownBlock = some k ∨ (W.heap.size ≤ k ∧ k ≠ g' ∧ av'.ownBlock ≠ some k)) :
    ∃ ρ', Gr w0 ρ' av' tv' (gs ++ [g']) (ts ++ [t]) (ls ++ [l]) W2 := by
  have hsz := h.b.size
  have hX : ∀ k, (av.ownBlock = some k ∨ tv.ownBlock = some k) → ρ k = 1 ∨ ρ k = 2 := fun k hk => hk.imp (h.ra k) (h.rt k)
  refine ⟨fun k => if k < W.heap.size then ρ k else if k = g' then 3 + gs.length else if av'.ownBlock = some k then 1 else if tv'.ownBlock = some k then 2 else 0, ?_⟩
  refine ⟨h.b.trans (hf.to_below (fun k hk e => ?_) h.b.size), by simpa using hao, by simpa using hto, by simp [h.n1], by simp [h.n2], fun j g l2 h1 h2 => ?_, fun j t2 l2 h1 h2 => ?_, fun k hk => ?_, fun k hk => ?_⟩
  · rcases e with e | e
    · have := (World.ownsRow.lt h.ao k e).1; omega
    · have := (World.ownsRow.lt h.tow k e).1; omega
  · rcases Nat.lt_or_ge j gs.length with hj | hj
    · rw [List.getElem?_append_left hj] at h1
      rw [List.getElem?_append_left (by rw [← h.n1]; exact hj)] at h2
      have h3 := h.sums j g l2 h1 h2
      have hlt := blk_lt h3.1
      refine ⟨h3.1.fr hf (fun e => ?_), h3.2.1, by rw [if_pos hlt]; exact h3.2.2⟩
      have := hX g e
      have := h3.2.2
      omega
    · have hj2 : j = gs.length := by
        rcases Nat.lt_or_ge gs.length j with h4 | h4
        · rw [List.getElem?_eq_none (by simp; omega)] at h1; cases h1
        · omega
      subst hj2
      rw [List.getElem?_append_right (Nat.le_refl _)] at h1
      rw [List.getElem?_append_right (by rw [h.n1]; exact Nat.le_refl _)] at h2
      simp [h.n1] at h1 h2
      subst h1 h2
      exact ⟨hs, by omega, by rw [if_neg (by omega), if_pos rfl]⟩
  · have key : ∀ (j : Nat) (t2 : Value) (l2 : List UInt8), ts[j]? = some t2 → ls[j]? = some l2 → SlB W2 t2 l2 ∧ ∀ k, t2.ownBlock = some k → (if k < W.heap.size then ρ k else if k = g' then 3 + gs.length else if av'.ownBlock = some k then 1 else if tv'.ownBlock = some k then 2 else 0) = 0 ∧ k < W2.heap.size := fun j t2 l2 h1 h2 => by
      have h3 := h.txt j t2 l2 h1 h2
      refine ⟨sl_fr h3.1 hf (fun k hk e => ?_), fun k hk => ?_⟩
      · have := (h3.2 k hk).1
        have := hX k e
        omega
      · have h5 := h3.2 k hk
        exact ⟨by rw [if_pos h5.2]; exact h5.1, Nat.lt_of_lt_of_le h5.2 hf.size⟩
    rcases Nat.lt_or_ge j ts.length with hj | hj
    · rw [List.getElem?_append_left hj] at h1
      rw [List.getElem?_append_left (by rw [← h.n2]; exact hj)] at h2
      exact key j t2 l2 h1 h2
    · have hj2 : j = ts.length := by
        rcases Nat.lt_or_ge ts.length j with h4 | h4
        · rw [List.getElem?_eq_none (by simp; omega)] at h1; cases h1
        · omega
      subst hj2
      rw [List.getElem?_append_right (Nat.le_refl _)] at h1
      rw [List.getElem?_append_right (by rw [h.n2]; exact Nat.le_refl _)] at h2
      simp [h.n2] at h1 h2
      subst h1 h2
      exact key i t l ht hl
  · rcases ha k hk with e | ⟨e1, e2⟩
    · rw [if_pos (World.ownsRow.lt h.ao k e).2]; exact h.ra k e
    · rw [if_neg (by omega), if_neg e2, if_pos hk]
  · rcases htt k hk with e | ⟨e1, e2, e3⟩
    · rw [if_pos (World.ownsRow.lt h.tow k e).2]; exact h.rt k e
    · rw [if_neg (by omega), if_neg e2, if_neg e3, if_pos hk]
end
end Go.Proofs.YthadfebboagabaaDoor
