/- Crash. -/
import Derived.Test.YtcadacljacbipaaAll10
import Derived.Laws.EntriesVeiled
namespace Go.Proofs.Ytcadacljacbipaa
open Go.RowKit
theorem Crash_nil (v : Value) (w : World) : Calls Try.prog 14 #[.pointer none, v] w fun e w' => e = .returned (.pointer none) ∧ w' = w := by
  go_enter Try.func14, Try.ntmps14
  go_wp2
  go_ret
  exact ⟨rfl, rfl⟩
theorem CrAt.start {w W : World} {S : Nat → Prop} {d : Nat} {D : Dk} {v : Value} {cs : List Int} (h : DAt w S d D) (hv : SlZ w v cs) (hvS : 0 < cs.length → ∀ k, v.ownBlock = some k → ¬ S k) (C : Array Value) (hC : C = dkCells (.slice none 0 0) (.slice none 0 0) (.slice none 0 0) (.slice none 0 0) (.slice none 0 0) (.slice none 0 0) (Dk.load [] [] D.cur))
    (hW : W = ((w.setCell ⟨d, 10, none⟩ (.bool true)).alloc (.cells #[v] 24)).alloc (.cells C 71)) : CrAt w S d w.heap.size (w.heap.size + 1) D [] [] cs W := by
  have hs : (w.setCell ⟨d, 10, none⟩ (.bool true)).heap.size = w.heap.size := by simp
  have hs2 : ((w.setCell ⟨d, 10, none⟩ (.bool true)).alloc (.cells #[v] 24)).heap.size = w.heap.size + 1 := by simp
  have hsW : W.heap.size = w.heap.size + 2 := by rw [hW]; simp
  have hb : Below (w.setCell ⟨d, 10, none⟩ (.bool true)).heap.size (w.setCell ⟨d, 10, none⟩ (.bool true)) W := by rw [hW]; exact ((Below.refl _ _).alloc (Nat.le_refl _) _).alloc (by simp) _
  have hf : Fr (fun k => k = d) w W := (Fr.set_ _ _).trans ((Fr.of_below hb).mono fun _ _ h => h.elim)
  have hdd : DAt W S d { D with dead := true } := by
    obtain ⟨I, l0, n0, a0, l1, n1, a1, hV⟩ := h
    exact DAt.below ⟨I, l0, n0, a0, l1, n1, a1, hV.turn (D' := { D with dead := true }) 10 (.bool true) rfl rfl rfl hV.cur⟩ hb
  refine ⟨hf, hdd, h.lt, ⟨v, ?_, hv.fr hf (fun h0 k hk e => hvS h0 k hk (e ▸ h.sd)), fun h0 k hk => ⟨?_, hvS h0 k hk⟩⟩, Nat.le_refl _, .slice none 0 0, .slice none 0 0, .slice none 0 0, .slice none 0 0, ?_⟩
  · rw [hW, ← hs]; exact (Below.heap_alloc _ _ _ (by simp)).trans (heap_alloc_new _ _)
  · obtain ⟨⟨A, cp, rfl, _, _, h3⟩, _⟩ := hv
    obtain ⟨b, off, rfl, hc⟩ := h3 h0
    have := World.block_lt_of_cell? w _ (hc 0 h0)
    injection hk with hk
    have hk : b = k := hk
    subst hk; exact this
  · refine ⟨?_, SlI.nil _ _, SlI.nil _ _, SlI.nil _ _, SlI.nil _ _, ⟨by omega, by omega, by omega⟩, fun k hk => hk.2.2⟩
    rw [← hC, hW, ← hs2]; exact heap_alloc_new _ _
theorem choose_at {nv : Int} (w : World) (c : Nat) (v : Value) (cs : List Int) (n : Nat) (hn : 0 < n) (hn2 : n ≤ 1125899906842624) (hc : w.heap[c]? = some (.cells #[v] 24 (0, 0))) (hv : SlZ w v cs) (hne : 0 < cs.length → v.ownBlock ≠ some c) (he : nv = (n : Int)) :
    Calls Try.prog 37 #[.int .i64 nv, .pointer (some ⟨c, 0, none⟩)] w fun e w' => e = .returned (.int .i64 (pick1 cs n : Int)) ∧ ∃ v', w'.heap[c]? = some (.cells #[v'] 24 (0, 0)) ∧ SlZ w' v' cs.tail ∧ (∀ k, v'.ownBlock = some k → v.ownBlock = some k) ∧ Fr (fun k => k = c) w w' ∧ w'.heap.size = w.heap.size := by
  subst he; exact choose_any w c v cs n hn hn2 hc hv hne
theorem CrAt.filled0 {w W W5 : World} {S : Nat → Prop} {d c fd b0 : Nat} {D : Dk} {x y z : List UInt8} {cs : List Int} {lv nv : Value} (h : CrAt w S d c fd D x y cs W) (hb : Below W.drew.heap.size W.drew W5) (hl : OwnB W b0 lv z) (hc : c < b0) (hf : fd < b0) (_ : w.heap.size ≤ b0) (hn : OwnB W5 W.drew.heap.size nv z) :
    CrAt w S d c fd D z y cs (((W5.setCell ⟨fd, 0, none⟩ lv).setCell ⟨fd, 1, none⟩ nv).setCell ⟨fd, 2, none⟩ (.slice none 0 0)) := by
  have h5 := h.below (below_then (drew_below W) hb)
  have hb' : Below W.heap.size W W5 := below_then (drew_below W) hb
  obtain ⟨l0, n0, l1, n1, hcl⟩ := h5.fd
  obtain ⟨v, e1, e2, e3⟩ := h5.lc
  have hfw := hcl.sd.1
  have hF : Fr (fun k => k = fd) W5 (((W5.setCell ⟨fd, 0, none⟩ lv).setCell ⟨fd, 1, none⟩ nv).setCell ⟨fd, 2, none⟩ (.slice none 0 0)) := (Fr.set_ _ _).trans (((Fr.set_ _ _).trans ((Fr.set_ _ _).mono fun k _ hk => .inl hk)).mono fun k _ hk => .inl hk)
  have hs5 : (((W5.setCell ⟨fd, 0, none⟩ lv).setCell ⟨fd, 1, none⟩ nv).setCell ⟨fd, 2, none⟩ (.slice none 0 0)).heap.size = W5.heap.size := by simp
  have hll := hl.below hb'
  have hdw : W.drew.heap.size = W.heap.size := rfl
  have hfW : fd < W.heap.size := by
    obtain ⟨_, _, _, _, hq⟩ := h.fd
    exact hq.lt _ hq.sd
  have hcW : c < W.heap.size := by obtain ⟨_, q, _⟩ := h.lc; exact blk_lt q
  have hww : w.heap.size ≤ W.heap.size := h.fr.size
  have hput := Cl.put0 hcl (u := lv) (v := nv) (z := z) ⟨hll.sl, fun _ k hk => by
      have := World.ownsRow.lt hll k hk
      exact ⟨⟨by omega, by omega, this.2⟩, by omega⟩⟩ ⟨hn.sl, fun _ k hk => by
      have := World.ownsRow.lt hn k hk
      exact ⟨⟨by omega, by omega, this.2⟩, by omega⟩⟩
  refine ⟨h5.fr.trans (hF.mono fun k _ e => .inr (by omega)), h5.dd.fr hF (fun k hk e => by have := h5.sl k hk; omega) (fun _ h => h) (fun k hk => by have := h5.dd.lt k hk; omega), h5.sl, ⟨v, blk_fr hF e1 (fun e => hcl.sd.2.1 e.symm), e2.fr hF (fun h0 k hk e => by have := (e3 h0 k hk).1; omega), e3⟩, h5.c0, lv, nv, l1, n1, ?_⟩
  exact hput.fr (Fr.refl (fun _ => False) _) (fun _ _ h => h) (fun k hk => ⟨hk.1, hk.2.1, by rw [hs5]; exact hk.2.2⟩) (fun k hk => hk.2.2)
theorem CrAt.filled1 {w W W5 : World} {S : Nat → Prop} {d c fd b0 : Nat} {D : Dk} {x y z : List UInt8} {cs : List Int} {lv nv : Value} (h : CrAt w S d c fd D x y cs W) (hb : Below W.drew.heap.size W.drew W5) (hl : OwnB W b0 lv z) (hc : c < b0) (hf : fd < b0) (_ : w.heap.size ≤ b0) (hn : OwnB W5 W.drew.heap.size nv z) :
    CrAt w S d c fd D x z cs (((W5.setCell ⟨fd, 3, none⟩ lv).setCell ⟨fd, 4, none⟩ nv).setCell ⟨fd, 5, none⟩ (.slice none 0 0)) := by
  have h5 := h.below (below_then (drew_below W) hb)
  have hb' : Below W.heap.size W W5 := below_then (drew_below W) hb
  obtain ⟨l0, n0, l1, n1, hcl⟩ := h5.fd
  obtain ⟨v, e1, e2, e3⟩ := h5.lc
  have hfw := hcl.sd.1
  have hF : Fr (fun k => k = fd) W5 (((W5.setCell ⟨fd, 3, none⟩ lv).setCell ⟨fd, 4, none⟩ nv).setCell ⟨fd, 5, none⟩ (.slice none 0 0)) := (Fr.set_ _ _).trans (((Fr.set_ _ _).trans ((Fr.set_ _ _).mono fun k _ hk => .inl hk)).mono fun k _ hk => .inl hk)
  have hs5 : (((W5.setCell ⟨fd, 3, none⟩ lv).setCell ⟨fd, 4, none⟩ nv).setCell ⟨fd, 5, none⟩ (.slice none 0 0)).heap.size = W5.heap.size := by simp
  have hll := hl.below hb'
  have hdw : W.drew.heap.size = W.heap.size := rfl
  have hfW : fd < W.heap.size := by
    obtain ⟨_, _, _, _, hq⟩ := h.fd
    exact hq.lt _ hq.sd
  have hcW : c < W.heap.size := by obtain ⟨_, q, _⟩ := h.lc; exact blk_lt q
  have hww : w.heap.size ≤ W.heap.size := h.fr.size
  have hput := Cl.put1 hcl (u := lv) (v := nv) (z := z) ⟨hll.sl, fun _ k hk => by
      have := World.ownsRow.lt hll k hk
      exact ⟨⟨by omega, by omega, this.2⟩, by omega⟩⟩ ⟨hn.sl, fun _ k hk => by
      have := World.ownsRow.lt hn k hk
      exact ⟨⟨by omega, by omega, this.2⟩, by omega⟩⟩
  refine ⟨h5.fr.trans (hF.mono fun k _ e => .inr (by omega)), h5.dd.fr hF (fun k hk e => by have := h5.sl k hk; omega) (fun _ h => h) (fun k hk => by have := h5.dd.lt k hk; omega), h5.sl, ⟨v, blk_fr hF e1 (fun e => hcl.sd.2.1 e.symm), e2.fr hF (fun h0 k hk e => by have := (e3 h0 k hk).1; omega), e3⟩, h5.c0, l0, n0, lv, nv, ?_⟩
  exact hput.fr (Fr.refl (fun _ => False) _) (fun _ _ h => h) (fun k hk => ⟨hk.1, hk.2.1, by rw [hs5]; exact hk.2.2⟩) (fun k hk => hk.2.2)
/-- a slot's acts and where they are told, over calls -/
structure AA (W : World) (I : Nat → Prop) (d o : Nat) (a : Value) (acts : List DAct) : Prop where
  c : W.cell? ⟨d, o, none⟩ = some a
  a : ActsAt W I a acts
  i : ∀ k, I k → k < W.heap.size
theorem AA.fr {X : Nat → Prop} {W W' : World} {I : Nat → Prop} {d o : Nat} {a : Value} {acts : List DAct} (h : AA W I d o a acts) (hf : Fr X W W') (hd : ¬ X d) (hI : ∀ k, I k → ¬ X k) (hr : ∀ k, a.ownBlock = some k → ¬ X k) : AA W' I d o a acts :=
  ⟨by rw [World.cell?_of_block (w := W) (w' := W') (a := ⟨d, o, none⟩) (hf.block d (World.block_lt_of_cell? W _ h.c) hd)]; exact h.c, h.a.fr hf hI (fun _ h => h) hr, fun k hk => Nat.lt_of_lt_of_le (h.i k hk) hf.size⟩
theorem AA.below {W W' : World} {I : Nat → Prop} {d o : Nat} {a : Value} {acts : List DAct} (h : AA W I d o a acts) (hb : Below W.heap.size W W') : AA W' I d o a acts :=
  h.fr (Fr.of_below hb) (fun h => h) (fun _ _ h => h) (fun _ _ h => h)
theorem sizes_take (al : List DAct) (q : Nat) (hq : q < al.length) : sizes (al.take q) + (al[q]).size ≤ sizes al := by
  have : sizes (al.take (q + 1)) + sizes (al.drop (q + 1)) = sizes al := by
    unfold sizes; rw [← List.sum_append, ← List.map_append, List.take_append_drop]
  have h2 : sizes (al.take (q + 1)) = sizes (al.take q) + (al[q]).size := by
    unfold sizes
    rw [List.take_succ_eq_append_getElem hq, List.map_append, List.sum_append]
    simp only [List.map_cons, List.map_nil, List.sum_cons, List.sum_nil, Nat.add_zero]
  omega
/-- an act in its place -/
theorem AA.at_ {W : World} {I : Nat → Prop} {d o n cp : Nat} {A : Option Addr} {acts : List DAct} (h : AA W I d o (.slice A n cp) acts) (i : Nat) (hi : i < acts.length) :
    ∃ g f, A = some ⟨g, 0, none⟩ ∧ W.cell? ⟨g, i * 2, none⟩ = some f ∧ W.cell? ⟨g, i * 2 + 1, none⟩ = some (.int .i64 ((acts[i]).size : Int)) ∧ ActAt W I f (acts[i]) := by
  obtain ⟨fs, hl, hown, hfs⟩ := h.a
  have hfi : fs[i]? = some (fs[i]'(by omega)) := List.getElem?_eq_getElem (by omega)
  have hai : acts[i]? = some acts[i] := List.getElem?_eq_getElem hi
  obtain ⟨h1, h2⟩ := actCells_at fs acts i _ _ hl hfi hai
  obtain ⟨_, ⟨e, h0⟩ | ⟨g, cap, cur, e, hb, hg, r⟩⟩ := id hown
  · injection e with e1 e2; omega
  · injection e with e1
    subst e1
    have hc := hown.cells (g := g) rfl
    refine ⟨g, _, rfl, ?_, ?_, hfs i _ _ hfi hai⟩
    · have := hc _ _ h1; rwa [add_plain, Nat.zero_add] at this
    · have := hc _ _ h2; rwa [add_plain, Nat.zero_add] at this
set_option maxRecDepth 100000 in
set_option maxHeartbeats 40000000 in
theorem Crash_any (w : World) (S : Nat → Prop) (d : Nat) (D : Dk) (v : Value) (cs : List Int) (h : DAt w S d D) (hf : D.fits 0) (hv : SlZ w v cs) (hvS : 0 < cs.length → ∀ k, v.ownBlock = some k → ¬ S k) :
    Calls Try.prog 14 #[.pointer (some ⟨d, 0, none⟩), v] w fun e w' => ∃ fd, e = .returned (.pointer (some ⟨fd, 0, none⟩)) ∧ Fr (fun k => k = d) w w' ∧ DAt w' S d { D with dead := true } ∧ DAt w' (fun k => Nw w w' k) fd (D.crashed cs) := by
  have hmf : ∀ (fn : Fn) (first cap : Array Value) (w : World), (Instr.makeFunc fn first cap).run Try.prog w = .ok (.func fn first cap) w := fun _ _ _ _ => rfl
  obtain ⟨A, cp, rfl⟩ := hv.form
  obtain ⟨c6, c7, c8, c9, c10, hfz⟩ := h.cells
  have f10 := hfz 10
  have hx6 : ((w.setCell ⟨d, 10, none⟩ (.bool true)).alloc (.cells #[.slice A cs.length cp] 24)).cell? ⟨d, 6, none⟩ = some (.int .i64 (D.cur : Int)) := by
    rw [World.cell?_alloc_lt _ _ _ (by have := World.block_lt_of_cell? w _ c6; simpa using this), World.cell?_setCell_other _ _ _ _ (by simp)]; exact c6
  have H := hid h
  have HV := hid hv
  have HVS := hid hvS
  have hroom := hf.room
  have hr0 : D.s0.lasts.length + sizes D.s0.acts ≤ D.s0.room := Nat.le_refl _
  have hr1 : D.s1.lasts.length + sizes D.s1.acts ≤ D.s1.room := Nat.le_refl _
  have hacts := hf.acts
  clear h hv hvS hf hfz c7 c8 c9
  go_enter Try.func14, Try.ntmps14
  go_upto_region 7 with (fail)
  refine Code.seen (fun W => CrAt w S d w.heap.size (w.heap.size + 1) D [] [] cs W) (CrAt.start H.out HV.out HVS.out _ (by rfl) rfl) fun w1 H1 => ?_
  have HLT : Hid (d < w.heap.size) := hid (H.out.lt d H.out.sd)
  clear hx6 c6 c10 f10
  go_wp2
  go_loopw [28] (fun i wr => (i = .int .i64 0 ∧ CrAt w S d w.heap.size (w.heap.size + 1) D [] [] cs wr) ∨ (i = .int .i64 1 ∧ CrAt w S d w.heap.size (w.heap.size + 1) D (D.s0.crash cs).1 [] (D.s0.crash cs).2 wr) ∨ (i = .int .i64 2 ∧ ∃ l, CrAt w S d w.heap.size (w.heap.size + 1) D (D.s0.crash cs).1 (D.s1.crash (D.s0.crash cs).2).1 l wr)) (fun i _ => 2 - (intOf i).toNat)
  case atStart => exact .inl ⟨rfl, H1.out⟩
  case round =>
    clear H1
    rcases hrel with ⟨rfl, hst⟩ | ⟨rfl, hst⟩ | ⟨rfl, hst⟩
    case inl =>
      obtain ⟨wo, rfl⟩ : ∃ wo : World, wo = wr := ⟨_, rfl⟩
      have HC := hid hst
      obtain ⟨I, l0, n0, a0, l1, n1, a1, hV⟩ := hst.dd
      obtain ⟨c0, c1, c2, c3, c4, c5⟩ := hV.cells
      have haf : ∃ Aa ca, a0 = .slice Aa D.s0.acts.length ca ∧ D.s0.acts.length ≤ ca := by
        obtain ⟨fs, _, hown, _⟩ := hV.s0.acts
        obtain ⟨_, ⟨e, h0⟩ | ⟨g, cap, cur, e, _, _, hn, _⟩⟩ := hown
        · exact ⟨none, 0, by rw [e, h0], Nat.le_of_eq h0⟩
        · exact ⟨_, cap, e, hn⟩
      obtain ⟨Aa, ca, rfl, hca⟩ := haf
      have HA : Hid (AA wo I d 2 (.slice Aa D.s0.acts.length ca) D.s0.acts) := hid ⟨c2, hV.s0.acts, fun k hk => hV.lt k (hV.is k hk)⟩
      have HIS : Hid (∀ k, I k → k < w.heap.size) := hid (fun k hk => hst.sl k (hV.is k hk))
      have HRS : Hid (∀ k, (Value.slice Aa D.s0.acts.length ca).ownBlock = some k → k < w.heap.size) := hid (fun k hk => hst.sl k (hV.r0 k hk).1)
      have K0 := hid hV.s0.lasts.sl
      have hwr : w.heap.size + 1 < wo.heap.size := by
        obtain ⟨_, _, _, _, hc⟩ := hst.fd
        exact hc.lt _ hc.sd
      clear hV hst
      go_wp2_with fail
      refine (Clone_any l0 D.s0.lasts wo K0.out (by omega)).mono ?_
      rintro e w2 ⟨b0, rfl, hb0, hB2⟩
      have HC2 := hid (HC.out.below hB2)
      have HA2 := hid (HA.out.below hB2)
      have HB0 := hid hb0
      have hsz2 := hB2.size
      have k2 := HA2.out.c
      clear hb0 hB2 c0 c1 c2 c3 c4 c5 HA HC
      go_wp2_with fail
      obtain ⟨lv, hl1, hl2, hl3⟩ := HC2.out.lc
      refine (choose_at w2 w.heap.size lv cs (D.s0.acts.length + 1) (by omega) (by omega) hl1 hl2 (fun h0 e => by have := (hl3 h0 _ e).1; omega) (by push_cast; rfl)).mono ?_
      rintro e w3 ⟨rfl, lv', g1, g2, g3, g4, g5⟩
      have HC3 := hid (HC2.out.chosen hl1 g1 g2 g3 g4 g5)
      have HB3 := hid (HB0.out.fr g4 (fun k hk e => by have := (World.ownsRow.lt HB0.out k hk).1; omega))
      have HA3 := hid (HA2.out.fr g4 (by have := HLT.out; omega) (fun k hk e => by have := HIS.out k hk; omega) (fun k hk e => by have := HRS.out k hk; omega))
      have k3 := HA3.out.c
      obtain ⟨k, hk⟩ : ∃ k, pick1 cs (D.s0.acts.length + 1) = k := ⟨_, rfl⟩
      have hkm : k ≤ D.s0.acts.length := by have := pick1_lt cs (show 0 < D.s0.acts.length + 1 by omega); omega
      rw [hk]
      have HK := hid hk
      have hsz3 : wo.heap.size ≤ w3.heap.size := by rw [g5]; exact hsz2
      clear hl1 hl2 hl3 g1 g2 g3 g4 g5 hk k2 HC2 HA2 HB0
      have hkc : (k : Int) ≤ (ca : Int) := by omega
      obtain ⟨A0, p0, rfl⟩ := HB3.out.form
      go_wp2
      go_loopw [10, 56] (fun b j W => ∃ q : Nat, q ≤ k ∧ j = .int .i64 q ∧ (∃ A n cp, b = .slice A n cp ∧ OwnB W wo.heap.size (.slice A n cp) (doAll (D.s0.acts.take q) D.s0.lasts)) ∧ Below w3.heap.size w3 W) (fun _ j _ => k - (intOf j).toNat)
      case atStart => exact ⟨0, Nat.zero_le _, rfl, ⟨_, _, _, rfl, HB3.out⟩, Below.refl _ _⟩
      case round =>
        obtain ⟨q, hq, rfl, ⟨Ab, nb, pb, rfl, hob⟩, hbw⟩ := hrel
        have HOB := hid hob
        have HBW := hid hbw
        have HAW := hid (HA3.out.below hbw)
        clear hob hbw
        by_cases hlt : q < k
        · obtain ⟨g, f, rfl, e0, e1, hact⟩ := HAW.out.at_ q (by omega)
          have HDA : Hid (doAll (D.s0.acts.take (q + 1)) D.s0.lasts = (D.s0.acts[q]'(by omega)).on (doAll (D.s0.acts.take q) D.s0.lasts)) := hid (doAll_take _ _ (by omega) _)
          have hbl := doAll_length (D.s0.acts.take q) D.s0.lasts
          have hsum := sizes_take D.s0.acts q (by omega)
          generalize D.s0.acts[q]'(by omega) = ac at *
          generalize doAll (D.s0.acts.take q) D.s0.lasts = bl at *
          cases ac with
          | app da =>
            obtain ⟨hz, c', v', rfl, hIc, hcc, hvv⟩ := hact
            have HCC := hid hcc
            have HVV := hid hvv.sl
            replace e1 : wr.cell? ⟨g, q * 2 + 1, none⟩ = some (.int .i64 (da.length : Int)) := e1
            replace hsum : sizes (D.s0.acts.take q) + da.length ≤ sizes D.s0.acts := hsum
            clear hcc hvv
            go_wp2_with fail
            refine Calls.seen (fun W1 => Below wr.heap.size wr W1) ((Below.refl _ _).alloc (Nat.le_refl _) _) fun W1 HB1 => ?_
            refine (again_app _ v' bl da da.length c' W1 (HOB.out.sl.below HB1.out) (by rw [blk_cell (blk_keep HB1.out HCC.out (blk_lt HCC.out))]; rfl) (HVV.out.below HB1.out) (Nat.le_refl _) (by omega)).mono ?_
            rintro e W2 ⟨b2, rfl, ho2, hb2⟩
            rw [List.take_length] at ho2
            obtain ⟨A2, p2, rfl⟩ := ho2.form
            rw [List.length_append] at ho2
            have HR : Hid (OwnB W2 wo.heap.size (.slice A2 (bl.length + da.length) p2) (doAll (D.s0.acts.take (q + 1)) D.s0.lasts) ∧ Below w3.heap.size w3 W2) := hid (by
              rw [HDA.out]
              have s1 := HB1.out.size
              have s2 := HBW.out.size
              exact ⟨own_base ho2 (by omega), below_then HBW.out (below_then HB1.out hb2)⟩)
            clear ho2 hb2 e0 e1
            go_wp2
            go_roundw
            case rel => exact ⟨q + 1, by omega, by go_num, ⟨_, _, _, rfl, HR.out.1⟩, HR.out.2⟩
            case measure => simp [intOf]; omega
          | wipe =>
            obtain rfl : f = .func (.func 56) #[] #[] := hact
            replace e1 : wr.cell? ⟨g, q * 2 + 1, none⟩ = some (.int .i64 0) := e1
            go_wp2_with fail
            refine Calls.seen (fun W1 => Below wr.heap.size wr W1) ((Below.refl _ _).alloc (Nat.le_refl _) _) fun W1 HB1 => ?_
            refine (again_wipe _ 0 W1).mono ?_
            rintro e W2 ⟨rfl, hw⟩
            replace hw := hw.symm
            subst hw
            have HR : Hid (OwnB W1 wo.heap.size (.slice none 0 0) (doAll (D.s0.acts.take (q + 1)) D.s0.lasts) ∧ Below w3.heap.size w3 W1) := hid (by
              rw [HDA.out]
              exact ⟨OwnB.nil _ _, below_then HBW.out HB1.out⟩)
            clear e0 e1
            go_wp2
            go_roundw
            case rel => exact ⟨q + 1, by omega, by go_num, ⟨_, _, _, rfl, HR.out.1⟩, HR.out.2⟩
            case measure => simp [intOf]; omega
        · obtain rfl : q = k := by omega
          have HCW := hid (HC3.out.below HBW.out)
          have kW := HAW.out.c
          have hbl := doAll_length (D.s0.acts.take q) D.s0.lasts
          have hst : sizes (D.s0.acts.take q) ≤ sizes D.s0.acts := by
            have : sizes (D.s0.acts.take q) + sizes (D.s0.acts.drop q) = sizes D.s0.acts := by
              unfold sizes; rw [← List.sum_append, ← List.map_append, List.take_append_drop]
            omega
          clear k3 hlt hq
          by_cases hkm2 : q < D.s0.acts.length
          case neg =>
            have HCR : Hid ((D.s0.crash cs).1 = doAll (D.s0.acts.take q) D.s0.lasts ∧ (D.s0.crash cs).2 = cs.tail) := hid (by
              unfold Dslot.crash
              simp only [HK.out]
              rw [List.getElem?_eq_none (by omega)]
              exact ⟨rfl, rfl⟩)
            obtain rfl : q = D.s0.acts.length := by omega
            generalize doAll (D.s0.acts.take D.s0.acts.length) D.s0.lasts = bl at *
            clear hkm2
            go_wp2
            obtain ⟨fl0, fn0, fl1, fn1, hcl⟩ := HCW.out.fd
            have HCA := hid hcl.at_
            have hfdlt := blk_lt hcl.at_
            clear hcl
            go_region_law (first
              | (go_simp; go_at_call 34; refine (Clone_any (.slice Ab nb pb) _ _ (HOB.out.sl.drew) (by omega)).mono ?_; rintro e W5 ⟨bn, rfl, hn5, hb5⟩; obtain ⟨A5, p5, rfl⟩ := hn5.form; have HAT := hid (blk_keep hb5 HCA.out hfdlt); have z0 : W5.cell? ⟨w.heap.size + 1, 0, none⟩ = some fl0 := (by rw [blk_cell HAT.out]; rfl); have z1 : W5.cell? ⟨w.heap.size + 1, 1, none⟩ = some fn0 := (by rw [blk_cell HAT.out]; rfl); have z2 : W5.cell? ⟨w.heap.size + 1, 2, none⟩ = some (.slice none 0 0) := (by rw [blk_cell HAT.out]; rfl); have y0 : W5.frozen? ⟨w.heap.size + 1, 0, none⟩ = false := blk_frozen HAT.out _; have y1 : W5.frozen? ⟨w.heap.size + 1, 1, none⟩ = false := blk_frozen HAT.out _; have y2 : W5.frozen? ⟨w.heap.size + 1, 2, none⟩ = false := blk_frozen HAT.out _; have HF5 := hid (HCW.out.filled0 hb5 HOB.out (by omega) (by omega) (by omega) hn5); clear hn5))
            all_goals
              go_wp2
              go_roundw
              case rel => exact .inr (.inl ⟨rfl, by rw [HCR.out.1, HCR.out.2]; exact HF5.out⟩)
              case measure => simp [intOf]
          case pos =>
            obtain ⟨g, f, rfl, e0, e1, hact⟩ := HAW.out.at_ q hkm2
            have hsum := sizes_take D.s0.acts q hkm2
            have hgq : D.s0.acts[q]? = some (D.s0.acts[q]) := List.getElem?_eq_getElem hkm2
            obtain ⟨ac, hac⟩ : ∃ ac, D.s0.acts[q] = ac := ⟨_, rfl⟩
            rw [hac] at hgq hsum e1 hact
            clear hac
            cases ac with
            | wipe =>
              have HCR : Hid ((D.s0.crash cs).1 = doAll (D.s0.acts.take q) D.s0.lasts ∧ (D.s0.crash cs).2 = cs.tail) := hid (by
                unfold Dslot.crash
                simp only [HK.out]
                rw [hgq]
                exact ⟨rfl, rfl⟩)
              replace e1 : wr.cell? ⟨g, q * 2 + 1, none⟩ = some (.int .i64 0) := e1
              clear hgq hact
              generalize doAll (D.s0.acts.take q) D.s0.lasts = bl at *
              go_wp2
              obtain ⟨fl0, fn0, fl1, fn1, hcl⟩ := HCW.out.fd
              have HCA := hid hcl.at_
              have hfdlt := blk_lt hcl.at_
              clear hcl
              go_region_law (first
                | (go_simp; go_at_call 34; refine (Clone_any (.slice Ab nb pb) _ _ (HOB.out.sl.drew) (by omega)).mono ?_; rintro e W5 ⟨bn, rfl, hn5, hb5⟩; obtain ⟨A5, p5, rfl⟩ := hn5.form; have HAT := hid (blk_keep hb5 HCA.out hfdlt); have z0 : W5.cell? ⟨w.heap.size + 1, 0, none⟩ = some fl0 := (by rw [blk_cell HAT.out]; rfl); have z1 : W5.cell? ⟨w.heap.size + 1, 1, none⟩ = some fn0 := (by rw [blk_cell HAT.out]; rfl); have z2 : W5.cell? ⟨w.heap.size + 1, 2, none⟩ = some (.slice none 0 0) := (by rw [blk_cell HAT.out]; rfl); have y0 : W5.frozen? ⟨w.heap.size + 1, 0, none⟩ = false := blk_frozen HAT.out _; have y1 : W5.frozen? ⟨w.heap.size + 1, 1, none⟩ = false := blk_frozen HAT.out _; have y2 : W5.frozen? ⟨w.heap.size + 1, 2, none⟩ = false := blk_frozen HAT.out _; have HF5 := hid (HCW.out.filled0 hb5 HOB.out (by omega) (by omega) (by omega) hn5); clear hn5))
              all_goals
                go_wp2
                go_roundw
                case rel => exact .inr (.inl ⟨rfl, by rw [HCR.out.1, HCR.out.2]; exact HF5.out⟩)
                case measure => simp [intOf]
            | app da =>
              obtain ⟨hz, c', v', rfl, hIc, hcc, hvv⟩ := hact
              have HCR : Hid ((D.s0.crash cs).1 = doAll (D.s0.acts.take q) D.s0.lasts ++ da.take (pick1 cs.tail da.length) ∧ (D.s0.crash cs).2 = cs.tail.tail) := hid (by
                unfold Dslot.crash
                simp only [HK.out]
                rw [hgq]
                exact ⟨rfl, rfl⟩)
              replace e1 : wr.cell? ⟨g, q * 2 + 1, none⟩ = some (.int .i64 (da.length : Int)) := e1
              replace hsum : sizes (D.s0.acts.take q) + da.length ≤ sizes D.s0.acts := hsum
              have HCC := hid hcc
              have HVV := hid hvv
              have HIC := hid hIc
              clear hgq hcc hvv hIc
              generalize doAll (D.s0.acts.take q) D.s0.lasts = bl at *
              go_upto_region 20 with (fail)
              refine Code.seen (fun W1 => W1.heap[wr.heap.size]? = some (.cells #[.func (.func 55) #[] #[.pointer (some ⟨c', 0, none⟩)], .int .i64 (da.length : Int)] 79 (0, 0)) ∧ Below wr.heap.size wr W1) ⟨heap_alloc_new _ _, (Below.refl _ _).alloc (Nat.le_refl _) _⟩ fun W1 H1 => ?_
              have HCW1 := hid (HCW.out.below H1.out.2)
              have HOB1 := hid (HOB.out.below H1.out.2)
              have HCC1 := hid (blk_keep H1.out.2 HCC.out (blk_lt HCC.out))
              have HVV1 : Hid (SlI W1 I v' da) := hid (HVV.out.fr (Fr.of_below H1.out.2) (fun _ _ h => h) (fun _ h => h))
              have x0 : W1.cell? ⟨wr.heap.size, 0, none⟩ = some (.func (.func 55) #[] #[.pointer (some ⟨c', 0, none⟩)]) := by rw [blk_cell H1.out.1]; rfl
              have x1 : W1.cell? ⟨wr.heap.size, 1, none⟩ = some (.int .i64 (da.length : Int)) := by rw [blk_cell H1.out.1]; rfl
              obtain ⟨lv, hl1, hl2, hl3⟩ := (HCW1.out.below (drew_below W1)).lc
              have HL1 := hid hl1
              have HL2 := hid hl2
              have HL3 := hid hl3
              have hs1 := H1.out.2.size
              have hsw := HBW.out.size
              clear hl1 hl2 hl3 e0 e1 kW HCW HOB HCC HVV
              go_wp2
              go_region_law (first
                | (go_simp; go_at_call 37; refine (choose_at _ w.heap.size lv cs.tail da.length hz (by omega) HL1.out HL2.out (fun h0 e => by have := (HL3.out h0 _ e).1; omega) rfl).mono ?_; rintro e W6 ⟨rfl, lv', g1, g2, g3, g4, g5⟩; have HCW6 := hid ((HCW1.out.below (drew_below W1)).chosen HL1.out g1 g2 g3 g4 g5); have hs6 : W6.heap.size = W1.heap.size := g5; have HOB6 := hid (HOB1.out.drew.fr g4 (fun k hk e => by have := (World.ownsRow.lt HOB1.out k hk).1; omega)); have HCC6 := hid (blk_fr g4 HCC1.out (fun e => by have := HIS.out c' HIC.out; omega)); have HVV6 := hid ((HVV1.out.fr (Fr.of_below (drew_below W1)) (fun _ _ h => h) (fun _ h => h)).fr g4 (fun k hk e => by have := HIS.out k hk; omega) (fun _ h => h)); have hpk := pick1_lt cs.tail hz; have X6 := hid (blk_fr g4 H1.out.1 (by omega)); have x60 : W6.cell? ⟨wr.heap.size, 0, none⟩ = some (.func (.func 55) #[] #[.pointer (some ⟨c', 0, none⟩)]) := (by rw [blk_cell X6.out]; rfl); clear g1 g2 g3 g4 g5)
                | (go_simp; go_at_call 55; refine (again_app _ v' bl da (pick1 cs.tail da.length) c' _ HOB6.out.sl (by rw [blk_cell HCC6.out]; rfl) HVV6.out.sl (by omega) (by omega)).mono ?_; rintro e W7 ⟨b2, rfl, ho2, hb2⟩; obtain ⟨wl, hwl⟩ : ∃ wl, bl ++ da.take (pick1 cs.tail da.length) = wl := ⟨_, rfl⟩; rw [hwl] at ho2; have hll : wl.length ≤ bl.length + da.length := (by rw [← hwl]; simp; omega); have HWL := hid hwl; obtain ⟨A7, p7, rfl⟩ := ho2.form; have HCW7 := hid (HCW6.out.below hb2); have HO7 : Hid (OwnB W7 wo.heap.size (.slice A7 wl.length p7) wl) := hid (own_base ho2 (show wo.heap.size ≤ W6.heap.size by omega)); clear ho2 hb2 hwl))
              all_goals
                go_wp2
                obtain ⟨fl0, fn0, fl1, fn1, hcl⟩ := HCW7.out.fd
                have HCA := hid hcl.at_
                have hfdlt := blk_lt hcl.at_
                clear hcl
                go_region_law (first
                  | (go_simp; go_at_call 34; refine (Clone_any (.slice A7 wl.length p7) _ _ (HO7.out.sl.drew) (by omega)).mono ?_; rintro e W5 ⟨bn, rfl, hn5, hb5⟩; obtain ⟨A5, p5, rfl⟩ := hn5.form; have HAT := hid (blk_keep hb5 HCA.out hfdlt); have z0 : W5.cell? ⟨w.heap.size + 1, 0, none⟩ = some fl0 := (by rw [blk_cell HAT.out]; rfl); have z1 : W5.cell? ⟨w.heap.size + 1, 1, none⟩ = some fn0 := (by rw [blk_cell HAT.out]; rfl); have z2 : W5.cell? ⟨w.heap.size + 1, 2, none⟩ = some (.slice none 0 0) := (by rw [blk_cell HAT.out]; rfl); have y0 : W5.frozen? ⟨w.heap.size + 1, 0, none⟩ = false := blk_frozen HAT.out _; have y1 : W5.frozen? ⟨w.heap.size + 1, 1, none⟩ = false := blk_frozen HAT.out _; have y2 : W5.frozen? ⟨w.heap.size + 1, 2, none⟩ = false := blk_frozen HAT.out _; have HF5 := hid (HCW7.out.filled0 hb5 HO7.out (by omega) (by omega) (by omega) hn5); clear hn5))
                all_goals
                  go_wp2
                  go_roundw
                  case rel => exact .inr (.inl ⟨rfl, by rw [HCR.out.1, HCR.out.2, HWL.out]; exact HF5.out⟩)
                  case measure => simp [intOf]
    case inr.inl =>
      obtain ⟨wo, rfl⟩ : ∃ wo : World, wo = wr := ⟨_, rfl⟩
      obtain ⟨bx, hbx⟩ : ∃ bx, (D.s0.crash cs).1 = bx := ⟨_, rfl⟩
      obtain ⟨cx, hcx⟩ : ∃ cx, (D.s0.crash cs).2 = cx := ⟨_, rfl⟩
      rw [hbx, hcx] at hst
      have HBX := hid hbx
      have HCX := hid hcx
      clear hbx hcx
      have HC := hid hst
      obtain ⟨I, l0, n0, a0, l1, n1, a1, hV⟩ := hst.dd
      obtain ⟨c0, c1, c2, c3, c4, c5⟩ := hV.cells
      have haf : ∃ Aa ca, a1 = .slice Aa D.s1.acts.length ca ∧ D.s1.acts.length ≤ ca := by
        obtain ⟨fs, _, hown, _⟩ := hV.s1.acts
        obtain ⟨_, ⟨e, h0⟩ | ⟨g, cap, cur, e, _, _, hn, _⟩⟩ := hown
        · exact ⟨none, 0, by rw [e, h0], Nat.le_of_eq h0⟩
        · exact ⟨_, cap, e, hn⟩
      obtain ⟨Aa, ca, rfl, hca⟩ := haf
      have HA : Hid (AA wo I d 5 (.slice Aa D.s1.acts.length ca) D.s1.acts) := hid ⟨c5, hV.s1.acts, fun k hk => hV.lt k (hV.is k hk)⟩
      have HIS : Hid (∀ k, I k → k < w.heap.size) := hid (fun k hk => hst.sl k (hV.is k hk))
      have HRS : Hid (∀ k, (Value.slice Aa D.s1.acts.length ca).ownBlock = some k → k < w.heap.size) := hid (fun k hk => hst.sl k (hV.r1 k hk).1)
      have K0 := hid hV.s1.lasts.sl
      have hwr : w.heap.size + 1 < wo.heap.size := by
        obtain ⟨_, _, _, _, hc⟩ := hst.fd
        exact hc.lt _ hc.sd
      clear hV hst
      go_wp2_with fail
      refine (Clone_any l1 D.s1.lasts wo K0.out (by omega)).mono ?_
      rintro e w2 ⟨b0, rfl, hb0, hB2⟩
      have HC2 := hid (HC.out.below hB2)
      have HA2 := hid (HA.out.below hB2)
      have HB0 := hid hb0
      have hsz2 := hB2.size
      have k2 := HA2.out.c
      clear hb0 hB2 c0 c1 c2 c3 c4 c5 HA HC
      go_wp2_with fail
      obtain ⟨lv, hl1, hl2, hl3⟩ := HC2.out.lc
      refine (choose_at w2 w.heap.size lv cx (D.s1.acts.length + 1) (by omega) (by omega) hl1 hl2 (fun h0 e => by have := (hl3 h0 _ e).1; omega) (by push_cast; rfl)).mono ?_
      rintro e w3 ⟨rfl, lv', g1, g2, g3, g4, g5⟩
      have HC3 := hid (HC2.out.chosen hl1 g1 g2 g3 g4 g5)
      have HB3 := hid (HB0.out.fr g4 (fun k hk e => by have := (World.ownsRow.lt HB0.out k hk).1; omega))
      have HA3 := hid (HA2.out.fr g4 (by have := HLT.out; omega) (fun k hk e => by have := HIS.out k hk; omega) (fun k hk e => by have := HRS.out k hk; omega))
      have k3 := HA3.out.c
      obtain ⟨k, hk⟩ : ∃ k, pick1 cx (D.s1.acts.length + 1) = k := ⟨_, rfl⟩
      have hkm : k ≤ D.s1.acts.length := by have := pick1_lt cx (show 0 < D.s1.acts.length + 1 by omega); omega
      rw [hk]
      have HK := hid hk
      have hsz3 : wo.heap.size ≤ w3.heap.size := by rw [g5]; exact hsz2
      clear hl1 hl2 hl3 g1 g2 g3 g4 g5 hk k2 HC2 HA2 HB0
      have hkc : (k : Int) ≤ (ca : Int) := by omega
      obtain ⟨A0, p0, rfl⟩ := HB3.out.form
      go_wp2
      go_loopw [10, 56] (fun b j W => ∃ q : Nat, q ≤ k ∧ j = .int .i64 q ∧ (∃ A n cp, b = .slice A n cp ∧ OwnB W wo.heap.size (.slice A n cp) (doAll (D.s1.acts.take q) D.s1.lasts)) ∧ Below w3.heap.size w3 W) (fun _ j _ => k - (intOf j).toNat)
      case atStart => exact ⟨0, Nat.zero_le _, rfl, ⟨_, _, _, rfl, HB3.out⟩, Below.refl _ _⟩
      case round =>
        obtain ⟨q, hq, rfl, ⟨Ab, nb, pb, rfl, hob⟩, hbw⟩ := hrel
        have HOB := hid hob
        have HBW := hid hbw
        have HAW := hid (HA3.out.below hbw)
        clear hob hbw
        by_cases hlt : q < k
        · obtain ⟨g, f, rfl, e0, e1, hact⟩ := HAW.out.at_ q (by omega)
          have HDA : Hid (doAll (D.s1.acts.take (q + 1)) D.s1.lasts = (D.s1.acts[q]'(by omega)).on (doAll (D.s1.acts.take q) D.s1.lasts)) := hid (doAll_take _ _ (by omega) _)
          have hbl := doAll_length (D.s1.acts.take q) D.s1.lasts
          have hsum := sizes_take D.s1.acts q (by omega)
          generalize D.s1.acts[q]'(by omega) = ac at *
          generalize doAll (D.s1.acts.take q) D.s1.lasts = bl at *
          cases ac with
          | app da =>
            obtain ⟨hz, c', v', rfl, hIc, hcc, hvv⟩ := hact
            have HCC := hid hcc
            have HVV := hid hvv.sl
            replace e1 : wr.cell? ⟨g, q * 2 + 1, none⟩ = some (.int .i64 (da.length : Int)) := e1
            replace hsum : sizes (D.s1.acts.take q) + da.length ≤ sizes D.s1.acts := hsum
            clear hcc hvv
            go_wp2_with fail
            refine Calls.seen (fun W1 => Below wr.heap.size wr W1) ((Below.refl _ _).alloc (Nat.le_refl _) _) fun W1 HB1 => ?_
            refine (again_app _ v' bl da da.length c' W1 (HOB.out.sl.below HB1.out) (by rw [blk_cell (blk_keep HB1.out HCC.out (blk_lt HCC.out))]; rfl) (HVV.out.below HB1.out) (Nat.le_refl _) (by omega)).mono ?_
            rintro e W2 ⟨b2, rfl, ho2, hb2⟩
            rw [List.take_length] at ho2
            obtain ⟨A2, p2, rfl⟩ := ho2.form
            rw [List.length_append] at ho2
            have HR : Hid (OwnB W2 wo.heap.size (.slice A2 (bl.length + da.length) p2) (doAll (D.s1.acts.take (q + 1)) D.s1.lasts) ∧ Below w3.heap.size w3 W2) := hid (by
              rw [HDA.out]
              have s1 := HB1.out.size
              have s2 := HBW.out.size
              exact ⟨own_base ho2 (by omega), below_then HBW.out (below_then HB1.out hb2)⟩)
            clear ho2 hb2 e0 e1
            go_wp2
            go_roundw
            case rel => exact ⟨q + 1, by omega, by go_num, ⟨_, _, _, rfl, HR.out.1⟩, HR.out.2⟩
            case measure => simp [intOf]; omega
          | wipe =>
            obtain rfl : f = .func (.func 56) #[] #[] := hact
            replace e1 : wr.cell? ⟨g, q * 2 + 1, none⟩ = some (.int .i64 0) := e1
            go_wp2_with fail
            refine Calls.seen (fun W1 => Below wr.heap.size wr W1) ((Below.refl _ _).alloc (Nat.le_refl _) _) fun W1 HB1 => ?_
            refine (again_wipe _ 0 W1).mono ?_
            rintro e W2 ⟨rfl, hw⟩
            replace hw := hw.symm
            subst hw
            have HR : Hid (OwnB W1 wo.heap.size (.slice none 0 0) (doAll (D.s1.acts.take (q + 1)) D.s1.lasts) ∧ Below w3.heap.size w3 W1) := hid (by
              rw [HDA.out]
              exact ⟨OwnB.nil _ _, below_then HBW.out HB1.out⟩)
            clear e0 e1
            go_wp2
            go_roundw
            case rel => exact ⟨q + 1, by omega, by go_num, ⟨_, _, _, rfl, HR.out.1⟩, HR.out.2⟩
            case measure => simp [intOf]; omega
        · obtain rfl : q = k := by omega
          have HCW := hid (HC3.out.below HBW.out)
          have kW := HAW.out.c
          have hbl := doAll_length (D.s1.acts.take q) D.s1.lasts
          have hst : sizes (D.s1.acts.take q) ≤ sizes D.s1.acts := by
            have : sizes (D.s1.acts.take q) + sizes (D.s1.acts.drop q) = sizes D.s1.acts := by
              unfold sizes; rw [← List.sum_append, ← List.map_append, List.take_append_drop]
            omega
          clear k3 hlt hq
          by_cases hkm2 : q < D.s1.acts.length
          case neg =>
            have HCR : Hid ((D.s1.crash cx).1 = doAll (D.s1.acts.take q) D.s1.lasts ∧ (D.s1.crash cx).2 = cx.tail) := hid (by
              unfold Dslot.crash
              simp only [HK.out]
              rw [List.getElem?_eq_none (by omega)]
              exact ⟨rfl, rfl⟩)
            obtain rfl : q = D.s1.acts.length := by omega
            generalize doAll (D.s1.acts.take D.s1.acts.length) D.s1.lasts = bl at *
            clear hkm2
            go_wp2
            obtain ⟨fl0, fn0, fl1, fn1, hcl⟩ := HCW.out.fd
            have HCA := hid hcl.at_
            have hfdlt := blk_lt hcl.at_
            clear hcl
            go_region_law (first
              | (go_simp; go_at_call 34; refine (Clone_any (.slice Ab nb pb) _ _ (HOB.out.sl.drew) (by omega)).mono ?_; rintro e W5 ⟨bn, rfl, hn5, hb5⟩; obtain ⟨A5, p5, rfl⟩ := hn5.form; have HAT := hid (blk_keep hb5 HCA.out hfdlt); have z0 : W5.cell? ⟨w.heap.size + 1, 3, none⟩ = some fl1 := (by rw [blk_cell HAT.out]; rfl); have z1 : W5.cell? ⟨w.heap.size + 1, 4, none⟩ = some fn1 := (by rw [blk_cell HAT.out]; rfl); have z2 : W5.cell? ⟨w.heap.size + 1, 5, none⟩ = some (.slice none 0 0) := (by rw [blk_cell HAT.out]; rfl); have y0 : W5.frozen? ⟨w.heap.size + 1, 3, none⟩ = false := blk_frozen HAT.out _; have y1 : W5.frozen? ⟨w.heap.size + 1, 4, none⟩ = false := blk_frozen HAT.out _; have y2 : W5.frozen? ⟨w.heap.size + 1, 5, none⟩ = false := blk_frozen HAT.out _; have HF5 := hid (HCW.out.filled1 hb5 HOB.out (by omega) (by omega) (by omega) hn5); clear hn5))
            all_goals
              go_wp2
              go_roundw
              case rel => exact .inr (.inr ⟨rfl, _, by rw [HBX.out, HCX.out, HCR.out.1]; exact HF5.out⟩)
              case measure => simp [intOf]
          case pos =>
            obtain ⟨g, f, rfl, e0, e1, hact⟩ := HAW.out.at_ q hkm2
            have hsum := sizes_take D.s1.acts q hkm2
            have hgq : D.s1.acts[q]? = some (D.s1.acts[q]) := List.getElem?_eq_getElem hkm2
            obtain ⟨ac, hac⟩ : ∃ ac, D.s1.acts[q] = ac := ⟨_, rfl⟩
            rw [hac] at hgq hsum e1 hact
            clear hac
            cases ac with
            | wipe =>
              have HCR : Hid ((D.s1.crash cx).1 = doAll (D.s1.acts.take q) D.s1.lasts ∧ (D.s1.crash cx).2 = cx.tail) := hid (by
                unfold Dslot.crash
                simp only [HK.out]
                rw [hgq]
                exact ⟨rfl, rfl⟩)
              replace e1 : wr.cell? ⟨g, q * 2 + 1, none⟩ = some (.int .i64 0) := e1
              clear hgq hact
              generalize doAll (D.s1.acts.take q) D.s1.lasts = bl at *
              go_wp2
              obtain ⟨fl0, fn0, fl1, fn1, hcl⟩ := HCW.out.fd
              have HCA := hid hcl.at_
              have hfdlt := blk_lt hcl.at_
              clear hcl
              go_region_law (first
                | (go_simp; go_at_call 34; refine (Clone_any (.slice Ab nb pb) _ _ (HOB.out.sl.drew) (by omega)).mono ?_; rintro e W5 ⟨bn, rfl, hn5, hb5⟩; obtain ⟨A5, p5, rfl⟩ := hn5.form; have HAT := hid (blk_keep hb5 HCA.out hfdlt); have z0 : W5.cell? ⟨w.heap.size + 1, 3, none⟩ = some fl1 := (by rw [blk_cell HAT.out]; rfl); have z1 : W5.cell? ⟨w.heap.size + 1, 4, none⟩ = some fn1 := (by rw [blk_cell HAT.out]; rfl); have z2 : W5.cell? ⟨w.heap.size + 1, 5, none⟩ = some (.slice none 0 0) := (by rw [blk_cell HAT.out]; rfl); have y0 : W5.frozen? ⟨w.heap.size + 1, 3, none⟩ = false := blk_frozen HAT.out _; have y1 : W5.frozen? ⟨w.heap.size + 1, 4, none⟩ = false := blk_frozen HAT.out _; have y2 : W5.frozen? ⟨w.heap.size + 1, 5, none⟩ = false := blk_frozen HAT.out _; have HF5 := hid (HCW.out.filled1 hb5 HOB.out (by omega) (by omega) (by omega) hn5); clear hn5))
              all_goals
                go_wp2
                go_roundw
                case rel => exact .inr (.inr ⟨rfl, _, by rw [HBX.out, HCX.out, HCR.out.1]; exact HF5.out⟩)
                case measure => simp [intOf]
            | app da =>
              obtain ⟨hz, c', v', rfl, hIc, hcc, hvv⟩ := hact
              have HCR : Hid ((D.s1.crash cx).1 = doAll (D.s1.acts.take q) D.s1.lasts ++ da.take (pick1 cx.tail da.length) ∧ (D.s1.crash cx).2 = cx.tail.tail) := hid (by
                unfold Dslot.crash
                simp only [HK.out]
                rw [hgq]
                exact ⟨rfl, rfl⟩)
              replace e1 : wr.cell? ⟨g, q * 2 + 1, none⟩ = some (.int .i64 (da.length : Int)) := e1
              replace hsum : sizes (D.s1.acts.take q) + da.length ≤ sizes D.s1.acts := hsum
              have HCC := hid hcc
              have HVV := hid hvv
              have HIC := hid hIc
              clear hgq hcc hvv hIc
              generalize doAll (D.s1.acts.take q) D.s1.lasts = bl at *
              go_upto_region 20 with (fail)
              refine Code.seen (fun W1 => W1.heap[wr.heap.size]? = some (.cells #[.func (.func 55) #[] #[.pointer (some ⟨c', 0, none⟩)], .int .i64 (da.length : Int)] 79 (0, 0)) ∧ Below wr.heap.size wr W1) ⟨heap_alloc_new _ _, (Below.refl _ _).alloc (Nat.le_refl _) _⟩ fun W1 H1 => ?_
              have HCW1 := hid (HCW.out.below H1.out.2)
              have HOB1 := hid (HOB.out.below H1.out.2)
              have HCC1 := hid (blk_keep H1.out.2 HCC.out (blk_lt HCC.out))
              have HVV1 : Hid (SlI W1 I v' da) := hid (HVV.out.fr (Fr.of_below H1.out.2) (fun _ _ h => h) (fun _ h => h))
              have x0 : W1.cell? ⟨wr.heap.size, 0, none⟩ = some (.func (.func 55) #[] #[.pointer (some ⟨c', 0, none⟩)]) := by rw [blk_cell H1.out.1]; rfl
              have x1 : W1.cell? ⟨wr.heap.size, 1, none⟩ = some (.int .i64 (da.length : Int)) := by rw [blk_cell H1.out.1]; rfl
              obtain ⟨lv, hl1, hl2, hl3⟩ := (HCW1.out.below (drew_below W1)).lc
              have HL1 := hid hl1
              have HL2 := hid hl2
              have HL3 := hid hl3
              have hs1 := H1.out.2.size
              have hsw := HBW.out.size
              clear hl1 hl2 hl3 e0 e1 kW HCW HOB HCC HVV
              go_wp2
              go_region_law (first
                | (go_simp; go_at_call 37; refine (choose_at _ w.heap.size lv cx.tail da.length hz (by omega) HL1.out HL2.out (fun h0 e => by have := (HL3.out h0 _ e).1; omega) rfl).mono ?_; rintro e W6 ⟨rfl, lv', g1, g2, g3, g4, g5⟩; have HCW6 := hid ((HCW1.out.below (drew_below W1)).chosen HL1.out g1 g2 g3 g4 g5); have hs6 : W6.heap.size = W1.heap.size := g5; have HOB6 := hid (HOB1.out.drew.fr g4 (fun k hk e => by have := (World.ownsRow.lt HOB1.out k hk).1; omega)); have HCC6 := hid (blk_fr g4 HCC1.out (fun e => by have := HIS.out c' HIC.out; omega)); have HVV6 := hid ((HVV1.out.fr (Fr.of_below (drew_below W1)) (fun _ _ h => h) (fun _ h => h)).fr g4 (fun k hk e => by have := HIS.out k hk; omega) (fun _ h => h)); have hpk := pick1_lt cx.tail hz; have X6 := hid (blk_fr g4 H1.out.1 (by omega)); have x60 : W6.cell? ⟨wr.heap.size, 0, none⟩ = some (.func (.func 55) #[] #[.pointer (some ⟨c', 0, none⟩)]) := (by rw [blk_cell X6.out]; rfl); clear g1 g2 g3 g4 g5)
                | (go_simp; go_at_call 55; refine (again_app _ v' bl da (pick1 cx.tail da.length) c' _ HOB6.out.sl (by rw [blk_cell HCC6.out]; rfl) HVV6.out.sl (by omega) (by omega)).mono ?_; rintro e W7 ⟨b2, rfl, ho2, hb2⟩; obtain ⟨wl, hwl⟩ : ∃ wl, bl ++ da.take (pick1 cx.tail da.length) = wl := ⟨_, rfl⟩; rw [hwl] at ho2; have hll : wl.length ≤ bl.length + da.length := (by rw [← hwl]; simp; omega); have HWL := hid hwl; obtain ⟨A7, p7, rfl⟩ := ho2.form; have HCW7 := hid (HCW6.out.below hb2); have HO7 : Hid (OwnB W7 wo.heap.size (.slice A7 wl.length p7) wl) := hid (own_base ho2 (show wo.heap.size ≤ W6.heap.size by omega)); clear ho2 hb2 hwl))
              all_goals
                go_wp2
                obtain ⟨fl0, fn0, fl1, fn1, hcl⟩ := HCW7.out.fd
                have HCA := hid hcl.at_
                have hfdlt := blk_lt hcl.at_
                clear hcl
                go_region_law (first
                  | (go_simp; go_at_call 34; refine (Clone_any (.slice A7 wl.length p7) _ _ (HO7.out.sl.drew) (by omega)).mono ?_; rintro e W5 ⟨bn, rfl, hn5, hb5⟩; obtain ⟨A5, p5, rfl⟩ := hn5.form; have HAT := hid (blk_keep hb5 HCA.out hfdlt); have z0 : W5.cell? ⟨w.heap.size + 1, 3, none⟩ = some fl1 := (by rw [blk_cell HAT.out]; rfl); have z1 : W5.cell? ⟨w.heap.size + 1, 4, none⟩ = some fn1 := (by rw [blk_cell HAT.out]; rfl); have z2 : W5.cell? ⟨w.heap.size + 1, 5, none⟩ = some (.slice none 0 0) := (by rw [blk_cell HAT.out]; rfl); have y0 : W5.frozen? ⟨w.heap.size + 1, 3, none⟩ = false := blk_frozen HAT.out _; have y1 : W5.frozen? ⟨w.heap.size + 1, 4, none⟩ = false := blk_frozen HAT.out _; have y2 : W5.frozen? ⟨w.heap.size + 1, 5, none⟩ = false := blk_frozen HAT.out _; have HF5 := hid (HCW7.out.filled1 hb5 HO7.out (by omega) (by omega) (by omega) hn5); clear hn5))
                all_goals
                  go_wp2
                  go_roundw
                  case rel => exact .inr (.inr ⟨rfl, _, by rw [HBX.out, HCX.out, HCR.out.1, HWL.out]; exact HF5.out⟩)
                  case measure => simp [intOf]
    case inr.inr =>
      obtain ⟨l, hst⟩ := hst
      obtain ⟨l0, n0, l1, n1, hcl⟩ := hst.fd
      have R := hid (⟨hst.fr, hst.dd, (hcl.dat H.out.ok.2.2).fr (Fr.refl (fun _ => False) _) (fun _ _ h => h) (fun k hk => ⟨hk.1, hk.2.2⟩) (fun k hk => hk.2)⟩ : Fr (fun k => k = d) w wr ∧ DAt wr S d { D with dead := true } ∧ DAt wr (fun k => Nw w wr k) (w.heap.size + 1) (D.crashed cs))
      clear hst hcl
      go_wp2
      go_ret
      exact ⟨_, rfl, R.out⟩
end Go.Proofs.Ytcadacljacbipaa
