/- A slot does a loose act. -/
import Derived.Test.YtcadacljacbipaaAll2
import Derived.Deep.AppendLies
import Derived.Handy
namespace Go.Proofs.Ytcadacljacbipaa
open Go.RowKit
theorem do_mid {w1 w2 : World} {d o : Nat} {cs : Array Value} {A2 : Option Addr} {n2 k2 : Nat} {l : List UInt8} (hd1 : w1.heap[d]? = some (.cells cs 71 (0, 0))) (hb : Below w1.heap.size w1 w2) (hn : OwnB w2 w1.heap.size (.slice A2 n2 k2) l) :
    ∃ A n k, OwnB (w2.setCell ⟨d, o + 1, none⟩ (.slice A2 n2 k2)) w1.heap.size (.slice A n k) l ∧ (w2.setCell ⟨d, o + 1, none⟩ (.slice A2 n2 k2)).heap[d]? = some (.cells (cs.setIfInBounds (o + 1) (.slice A n k)) 71 (0, 0)) ∧ Fr (fun k => k = d) w1 (w2.setCell ⟨d, o + 1, none⟩ (.slice A2 n2 k2)) := by
  have hdl := blk_lt hd1
  refine ⟨A2, n2, k2, hn.fr (Fr.set_ _ _) (fun k hk e => ?_), blk_set (blk_keep hb hd1 hdl) _ _, ((Fr.of_below hb).mono (fun _ _ h => h.elim)).trans ((Fr.set_ _ _).mono fun k _ hk => .inl hk)⟩
  have := (World.ownsRow.lt hn k hk).1
  omega
theorem own_form {w : World} {base e s n : Nat} {v : Value} {xs : List Value} (h : w.ownsRow base e s v n xs) : ∃ A c, v = .slice A n c := by
  obtain ⟨_, ⟨rfl, rfl⟩ | ⟨g, cap, cur, rfl, _⟩⟩ := h
  · exact ⟨none, 0, rfl⟩
  · exact ⟨_, cap, rfl⟩
theorem infoL : (Try.prog.info? 79).map (fun i => (i.zero, i.size, i.bytes)) = some (some (.agg #[.nilFunc, .int .i64 0]), 2, 16) := by kernel_rfl
/-- what a slot is when a loose act has been done -/
structure DoneAt (w W : World) (I : Nat → Prop) (d o : Nat) (cs : Array Value) (av nv' av' : Value) (acts : List DAct) (a : DAct) (l : List UInt8) : Prop where
  at_ : W.heap[d]? = some (.cells ((cs.setIfInBounds (o + 1) nv').setIfInBounds (o + 2) av') 71 (0, 0))
  now : OwnB W w.heap.size nv' l
  acts : ActsAt W I av' (acts ++ [a])
  rb : ∀ k, av'.ownBlock = some k → av.ownBlock = some k ∨ w.heap.size ≤ k
  ne : ∀ k, av'.ownBlock = some k → nv'.ownBlock ≠ some k
  fr : Fr (fun k => k = d ∨ av.ownBlock = some k) w W
theorem do_end {w w1 wx w4 : World} {I : Nat → Prop} {d o g cap : Nat} {cs : Array Value} {av nv' f : Value} {acts : List DAct} {a : DAct} {l : List UInt8} {fs : List Value} {ob : Obj}
    (hb1 : Below w.heap.size w w1) (hfx : Fr (fun k => k = d) w1 wx) (hdx : wx.heap[d]? = some (.cells (cs.setIfInBounds (o + 1) nv') 71 (0, 0))) (hnx : OwnB wx w1.heap.size nv' l)
    (hown : w.ownsRow 0 79 2 av acts.length (actCells fs acts)) (hfl : fs.length = acts.length) (hfs : ∀ (i : Nat) (f : Value) (a : DAct), fs[i]? = some f → acts[i]? = some a → ActAt w I f a) (hf : ActAt w I f a)
    (hid_ : ¬ I d) (hdl : d < w.heap.size) (hrow : ∀ k, av.ownBlock = some k → ¬ I k ∧ k ≠ d)
    (hg : ((wx.alloc ob).drew).grownBy w4 av.ownBlock) (ho4 : w4.ownsRow 0 79 2 (.slice (some ⟨g, 0, none⟩) (acts.length + 1) cap) (acts.length + 1) (actCells fs acts ++ [f, .int .i64 a.size])) (hat : av.ownBlock = some g ∨ g = wx.heap.size + 1) :
    DoneAt w (w4.setCell ⟨d, o + 2, none⟩ (.slice (some ⟨g, 0, none⟩) (acts.length + 1) cap)) I d o cs av nv' (.slice (some ⟨g, 0, none⟩) (acts.length + 1) cap) acts a l := by
  have hs1 := hb1.size
  have hsx := hfx.size
  have hrl : ∀ k, av.ownBlock = some k → k < w.heap.size := fun k hk => (World.ownsRow.lt hown k hk).2
  have hgd : g ≠ d := by
    rcases hat with h | h
    · exact (hrow g h).2
    · omega
  have hg' : (wx.alloc ob).grownBy w4 av.ownBlock := ⟨hg.os, hg.tape, hg.output, hg.size, hg.block⟩
  have F4 : Fr (fun k => av.ownBlock = some k) wx w4 := (Fr.alloc _ wx ob).trans ((Fr.of_grown hg').mono fun k _ hk => Or.inl hk)
  have F5 : Fr (fun k => k = d ∨ av.ownBlock = some k) wx (w4.setCell ⟨d, o + 2, none⟩ (.slice (some ⟨g, 0, none⟩) (acts.length + 1) cap)) := (F4.mono fun k _ hk => .inr hk).trans ((Fr.set_ _ _).mono fun k _ hk => .inl (.inl hk))
  have F : Fr (fun k => k = d ∨ av.ownBlock = some k) w (w4.setCell ⟨d, o + 2, none⟩ (.slice (some ⟨g, 0, none⟩) (acts.length + 1) cap)) :=
    ((Fr.of_below hb1).mono fun _ _ h => h.elim).trans ((hfx.mono fun k _ hk => .inl (.inl hk)).trans (F5.mono fun k _ hk => hk.elim (fun h => .inl (.inl (.inl h))) (fun h => .inl (.inl (.inr h)))))
  have hX : ∀ k, I k → ¬ (k = d ∨ av.ownBlock = some k) := fun k hk => by
    rintro (rfl | h)
    · exact hid_ hk
    · exact (hrow k h).1 hk
  have hd4 : w4.heap[d]? = some (.cells (cs.setIfInBounds (o + 1) nv') 71 (0, 0)) := blk_fr F4 hdx (fun h => (hrow d h).2 rfl)
  refine ⟨blk_set hd4 _ _, ?_, ⟨fs ++ [f], by simp [hfl], ?_, ?_⟩, ?_, ?_, F⟩
  · refine own_base (hnx.fr F5 fun k hk => ?_) hs1
    have := (World.ownsRow.lt hnx k hk).1
    rintro (h | h)
    · omega
    · have := hrl k h; omega
  · have ho5 := own_fr ho4 (Fr.set_ (w := w4) (g := d) (o + 2) (.slice (some ⟨g, 0, none⟩) (acts.length + 1) cap)) (fun k hk e => by
      simp only [Value.ownBlock, Option.some.injEq] at hk
      omega)
    rw [List.length_append, actCells_snoc _ _ _ _ hfl]
    exact ho5
  · intro i f' a' hi ha
    rcases Nat.lt_or_ge i acts.length with h | h
    · rw [List.getElem?_append_left (by omega)] at hi
      rw [List.getElem?_append_left h] at ha
      exact (hfs i f' a' hi ha).fr F hX (fun _ h => h)
    · rw [List.getElem?_append_right (by omega)] at hi
      rw [List.getElem?_append_right h] at ha
      have e : i - acts.length = 0 := by
        have := (List.getElem?_eq_some_iff.1 ha).1
        simp at this; omega
      rw [hfl, e] at hi
      rw [e] at ha
      simp at hi ha
      subst hi ha
      exact hf.fr F hX (fun _ h => h)
  · intro k hk
    simp only [Value.ownBlock, Option.some.injEq] at hk
    subst hk
    rcases hat with h | h
    · exact .inl h
    · exact .inr (by omega)
  · intro k hk e
    simp only [Value.ownBlock, Option.some.injEq] at hk
    subst hk
    have h1 := World.ownsRow.lt hnx g e
    rcases hat with h | h
    · have := hrl g h; omega
    · omega
set_option maxRecDepth 100000 in
set_option maxHeartbeats 4000000 in
theorem do_app (w : World) (I : Nat → Prop) (d o : Nat) (cs : Array Value) (nv av : Value) (now : List UInt8) (acts : List DAct) (f : Value) (da : List UInt8)
    (hd : w.heap[d]? = some (.cells cs 71 (0, 0))) (hn : cs[o + 1]? = some nv) (ha : cs[o + 2]? = some av) (hnow : SlI w I nv now) (hacts : ActsAt w I av acts) (hf : ActAt w I f (.app da))
    (hid_ : ¬ I d) (hrow : ∀ k, av.ownBlock = some k → ¬ I k ∧ k ≠ d) (hlt : ∀ k, I k → k < w.heap.size) (hlen : now.length + da.length ≤ 140737488355328) (hal : (acts.length + 1) * 16 ≤ 140737488355328) :
    Calls Try.prog 54 #[.pointer (some ⟨d, o, none⟩), .agg #[f, .int .i64 (da.length : Int)]] w fun e w' => e = .returned (.tuple #[]) ∧ ∃ nv' av', DoneAt w w' I d o cs av nv' av' acts (.app da) (now ++ da) := by
  obtain ⟨h0, c, v, rfl, hIc, hcc, hv⟩ := hf
  have hdl := blk_lt hd
  have HD := hid hd
  have HN := hid hnow
  have HA := hid hacts
  have HV := hid hv
  have HC := hid hcc
  have HIC := hid hIc
  have HLT := hid hlt
  have HNV := hid hn
  have HAV := hid ha
  clear hd hnow hacts hv hcc hn ha
  go_enter Try.func54, Try.ntmps54
  go_upto_region 1 with (fail)
  refine Code.seen (fun W1 => W1.heap[w.heap.size]? = some (.cells #[.func (.func 55) #[] #[.pointer (some ⟨c, 0, none⟩)], .int .i64 (da.length : Int)] 79 (0, 0)) ∧ Below w.heap.size w W1 ∧ W1.heap.size = w.heap.size + 1) ⟨heap_alloc_new _ _, (Below.refl _ _).alloc (Nat.le_refl _) _, by simp⟩ fun w1 H1 => ?_
  have HB1 := hid H1.out.2.1
  have HX1 := hid H1.out.1
  have HS1 := hid H1.out.2.2
  have HD1 := hid (blk_keep HB1.out HD.out hdl)
  have HC1 := hid (blk_keep HB1.out HC.out (blk_lt HC.out))
  have c1 : w1.cell? ⟨d, o + 1, none⟩ = some nv := by rw [blk_cell HD1.out, HNV.out]
  have x0 : w1.cell? ⟨w.heap.size, 0, none⟩ = some (.func (.func 55) #[] #[.pointer (some ⟨c, 0, none⟩)]) := by rw [blk_cell HX1.out]; rfl
  have x1 : w1.cell? ⟨w.heap.size, 1, none⟩ = some (.int .i64 (da.length : Int)) := by rw [blk_cell HX1.out]; rfl
  have cc : w1.cell? ⟨c, 0, none⟩ = some v := by rw [blk_cell HC1.out]; rfl
  clear H1
  go_cut [3] (fun s3 wx => s3 = .pointer (some ⟨w.heap.size, 0, none⟩) ∧ ∃ A2 n2 k2, OwnB wx w1.heap.size (.slice A2 n2 k2) (now ++ da) ∧ wx.heap[d]? = some (.cells (cs.setIfInBounds (o + 1) (.slice A2 n2 k2)) 71 (0, 0)) ∧ Fr (fun k => k = d) w1 wx)
  case first =>
    go_region_law (first
      | (go_simp; go_at_call 55; refine (again_app nv v now da da.length c _ ((HN.out.sl.below HB1.out).drew) cc ((HV.out.sl.below HB1.out).drew) (Nat.le_refl _) hlen).mono ?_; rintro e w2 ⟨nv', rfl, hn2, hb2⟩; obtain ⟨A2, k2, rfl⟩ := hn2.form; have c2 : w2.cell? ⟨d, o + 1, none⟩ = some nv := (hb2.cell (p := ⟨d, o + 1, none⟩) (World.block_lt_of_cell? _ _ c1)).trans c1; have f2 : w2.frozen? ⟨d, o + 1, none⟩ = false := blk_frozen (blk_keep hb2 HD1.out (blk_lt HD1.out)) _; have HN2 := hid hn2; have HB2 := hid hb2; clear hn2 hb2))
    all_goals
      go_wp2_with fail
      go_meet
      exact ⟨rfl, do_mid HD1.out (below_then (drew_below w1) HB2.out) (by have := HN2.out; rw [List.take_length] at this; simpa using this)⟩
  case rest =>
    obtain ⟨rfl, A2, n2, k2, hn2, hd2, hfr2⟩ := hcut
    obtain ⟨fs, hfl, hown, hfs⟩ := HA.out
    obtain ⟨Aa, ca, rfl⟩ := own_form hown
    obtain ⟨i0, hi0, hz0, hz1, hz2⟩ := info_parts infoL
    have hbne : ∀ k, (Value.slice Aa acts.length ca).ownBlock = some k → ¬ k = d := fun k hk => (hrow k hk).2
    have OX := hid (own_fr (own_fr hown (Fr.of_below HB1.out) (fun _ _ h => h)) hfr2 hbne)
    have HD2 := hid hd2
    have HN2 := hid hn2
    have HF2 := hid hfr2
    have HOW := hid hown
    have HFS := hid hfs
    have HFL := hid hfl
    have HX2 := hid (blk_fr hfr2 HX1.out (by omega))
    have y0 : wc.cell? ⟨w.heap.size, 0, none⟩ = some (.func (.func 55) #[] #[.pointer (some ⟨c, 0, none⟩)]) := by rw [blk_cell HX2.out]; rfl
    have y1 : wc.cell? ⟨w.heap.size, 1, none⟩ = some (.int .i64 (da.length : Int)) := by rw [blk_cell HX2.out]; rfl
    have a2 : wc.cell? ⟨d, o + 2, none⟩ = some (.slice Aa acts.length ca) := by rw [blk_cell hd2, Array.getElem?_setIfInBounds_ne (by omega), HAV.out]
    have ne2 := World.new_ne wc _ a2
    have hdc := blk_lt HD2.out
    clear hn2 hd2 hfr2 hown hfs hfl c1 x0 x1 cc
    go_wp2
    go_region_law (first
      | (refine step_append_lies _ (by rfl) (.tmp 20) (.tmp 22) 66 (by rfl) 0 79 i0 _ 2 16 Try.underlying66 hi0 hz0 hz1 hz2 rfl (by omega) (.slice Aa acts.length ca) acts.length (actCells fs acts) (by rfl) ((OX.out.alloc _).drew) ⟨wc.heap.size, 0, none⟩ 1 1 [.func (.func 55) #[] #[.pointer (some ⟨c, 0, none⟩)], .int .i64 (da.length : Int)] (by rfl) (by rfl) (World.news_of_block (cs := #[.func (.func 55) #[] #[.pointer (some ⟨c, 0, none⟩)], .int .i64 (da.length : Int)]) (t := 79) (fr := (0, 0)) (heap_alloc_new wc _)) (by simp [Value.oneCell']) (by omega) (by unfold maxLen; omega) hal (Nat.zero_le _) (wc.heap.size + 1) (by simp) ?_; intro g cap w4 hown4 hgrow hat hlt4; have f4 : w4.frozen? ⟨d, o + 2, none⟩ = false := (hgrow.frozen_far ⟨d, o + 2, none⟩ (by simp; omega) (fun e => hbne d e.symm rfl)).trans ((((Below.refl wc.heap.size wc).alloc (Nat.le_refl _) _).drew.frozen (p := ⟨d, o + 2, none⟩) hdc).trans (blk_frozen HD2.out _)); have c4 : w4.cell? ⟨d, o + 2, none⟩ = some (.slice Aa acts.length ca) := (hgrow.cell_far ⟨d, o + 2, none⟩ (by simp; omega) (fun e => hbne d e.symm rfl)).trans ((((Below.refl wc.heap.size wc).alloc (Nat.le_refl _) _).drew.cell (p := ⟨d, o + 2, none⟩) hdc).trans a2)))
    all_goals
      go_wp2
      go_returns
      refine ⟨rfl, _, _, do_end HB1.out HF2.out HD2.out HN2.out HOW.out HFL.out HFS.out ⟨h0, c, v, rfl, hIc, HC.out, HV.out⟩ hid_ hdl hrow hgrow hown4 hat⟩
end Go.Proofs.Ytcadacljacbipaa
