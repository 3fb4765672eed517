/- The law's book: a list is written full and kept. -/
import Derived.Test.YtamhlfhblgmhoaaBk
namespace Go.Proofs.Ytamhlfhblgmhoaa
open Go.RowKit
theorem infoBB : (Try.prog.info? 28).map (fun i => (i.zero, i.size, i.bytes)) = some (some (.slice none 0 0), 1, 24) := by kernel_rfl
theorem lit_one (w : World) (u : Value) (t : TypeId) : Sl (w.alloc (.cells #[u] t)) (.slice (some ⟨w.heap.size, 0, none⟩) 1 1) 1 (fun _ => u) := by
  refine ⟨_, _, rfl, Nat.le_refl _, (fun h => by cases h), fun _ => ⟨w.heap.size, 0, rfl, fun i hi => ?_⟩⟩
  obtain rfl : i = 0 := by omega
  rw [cell_of_row _ _ _ _ _ _ (heap_alloc_new _ _)]; rfl
theorem fill_set (l : List UInt8) (q : Nat) (m : UInt8) (h : q < l.length) : (List.replicate q m ++ l.drop q).set q m = List.replicate (q + 1) m ++ l.drop (q + 1) := by
  rw [List.set_append_right _ _ (by simp), List.drop_eq_getElem_cons h]
  simp only [List.length_replicate, Nat.sub_self, List.set_cons_zero]
  rw [List.replicate_succ']; simp
theorem fill_length (l : List UInt8) (q : Nat) (m : UInt8) (h : q ≤ l.length) : (List.replicate q m ++ l.drop q).length = l.length := by simp; omega
/-- behind one more append the list that was handed out reads as before -/
theorem hold_step {W w5 : World} {u xv v5 : Value} {n q : Nat} {m : UInt8} (hu : SlB W u (List.replicate n m)) (huo : ∀ g off c, u = .slice (some ⟨g, off, none⟩) n c → off = 0) (ho : OwnB w5 0 v5 (List.replicate (n + q) m ++ [m]))
    (hd : (v5.ownBlock = xv.ownBlock ∧ W.grownBy w5 xv.ownBlock) ∨ (Below W.heap.size W w5 ∧ ∀ k, v5.ownBlock = some k → W.heap.size ≤ k)) : SlB w5 u (List.replicate n m) := by
  rcases hd with ⟨e, hg⟩ | ⟨hb, _⟩
  · by_cases hx : u.ownBlock = xv.ownBlock
    · obtain ⟨A, c, rfl, h1, h2, h3⟩ := hu
      rw [List.length_replicate] at *
      refine ⟨A, c, by rw [List.length_replicate], by rw [List.length_replicate]; exact h1, h2, fun h0 => ?_⟩
      rw [List.length_replicate] at h0
      obtain ⟨b, off, rfl, _⟩ := h3 h0
      obtain rfl := huo b off c rfl
      obtain ⟨g, cap, rfl, _, _, _⟩ := ho.some_ (by simp)
      have e2 : some g = some b := e.trans hx.symm
      injection e2 with e2
      subst e2
      refine ⟨g, 0, rfl, fun i hi => ?_⟩
      rw [List.length_replicate] at hi
      rw [Nat.zero_add, (ho.at_ i (by simp; omega)).1]
      have : i < n + q := by omega
      simp [List.getElem?_append, this, hi]
    · exact sl_fr hu (Fr.of_grown hg) (fun k hk h => hx (hk.trans h.symm))
  · exact hu.below hb
theorem bk_cells {W : World} {ρ : Nat → Nat} {gb : Nat} {lv mv : Value} {ls ms : List Value} (h : Bk W ρ gb lv mv ls ms) {X : Nat → Prop} {W' : World} (hf : Fr X W W') (hX : ¬ X gb) :
    W'.cell? ⟨gb, 0, none⟩ = some lv ∧ W'.cell? ⟨gb, 1, none⟩ = some mv ∧ W'.frozen? ⟨gb, 0, none⟩ = false ∧ W'.frozen? ⟨gb, 1, none⟩ = false := by
  have hh := blk_fr hf h.at_ hX
  exact ⟨by rw [blk_cell hh]; rfl, by rw [blk_cell hh]; rfl, blk_frozen hh 0, blk_frozen hh 1⟩
theorem own_some {W : World} {base e n : Nat} {v : Value} {xs : List Value} (h : W.ownsRow base e 1 v n xs) (hn : 0 < n) : ∃ g cap, v = .slice (some ⟨g, 0, none⟩) n cap ∧ n ≤ cap := by
  obtain ⟨_, ⟨_, h0⟩ | ⟨g, cap, _, rfl, _, _, hc, _⟩⟩ := h
  · omega
  · exact ⟨g, cap, rfl, hc⟩
theorem fr_cellX {X : Nat → Prop} {w w1 : World} (hf : Fr X w w1) {p : Addr} {v : Value} (h : w.cell? p = some v) (hp : ¬ X p.block) : w1.cell? p = some v := by
  rw [World.cell?_of_block (w := w) (w' := w1) (hf.block p.block (World.block_lt_of_cell? w _ h) hp), h]
theorem fr_frozen {X : Nat → Prop} {w w1 : World} (hf : Fr X w w1) {p : Addr} {v : Value} (h : w.cell? p = some v) (hz : w.frozen? p = false) (hp : ¬ X p.block) : w1.frozen? p = false := by
  rw [World.frozen?_of_block (w := w) (w' := w1) (hf.block p.block (World.block_lt_of_cell? w _ h) hp), hz]
theorem blk_of_cells {w : World} {g : Nat} {a b : Value} {t : TypeId} (h : w.heap[g]? = some (.cells #[a, b] t (0, 0))) : w.cell? ⟨g, 0, none⟩ = some a ∧ w.cell? ⟨g, 1, none⟩ = some b ∧ w.frozen? ⟨g, 0, none⟩ = false ∧ w.frozen? ⟨g, 1, none⟩ = false :=
  ⟨by rw [blk_cell h]; rfl, by rw [blk_cell h]; rfl, blk_frozen h 0, blk_frozen h 1⟩
set_option maxRecDepth 100000 in
set_option maxHeartbeats 4000000 in
theorem hold_any (W : World) (ρ : Nat → Nat) (gb : Nat) (lv mv : Value) (ls ms : List Value) (u : Value) (l : List UInt8) (h : Bk W ρ gb lv mv ls ms) (ho : OwnB W 0 u l) (hu : ∀ k, u.ownBlock = some k → 8 ≤ ρ k) (hn : ls.length ≤ 1048576) (hl : l.length ≤ 1048576000) :
    Calls Try.prog 26 #[.pointer (some ⟨gb, 0, none⟩), u] W fun r W' => r = .returned (.tuple #[]) ∧ ∃ ρ' lv' mv' x, Bk W' ρ' gb lv' mv' (ls ++ [u]) (ms ++ [x]) ∧ Fr (fun k => ρ k = 1 ∨ ρ k = 2 ∨ ρ k = 3 ∨ u.ownBlock = some k) W W' ∧ (∀ k, k < W.heap.size → u.ownBlock ≠ some k → ρ' k = ρ k) := by
  have H := hid h
  have HO := hid ho
  have HU := hid hu
  have hml := h.n
  have HML := hid hml
  obtain ⟨A, c, hlv, hc, _⟩ := row_form h.lo
  have c0 := (bk_cells h (Fr.refl (fun _ => False) W) (fun h => h)).1
  have hmk := mark_eq ls.length hn
  obtain ⟨m, hm⟩ : ∃ m, mark ls.length = m := ⟨_, rfl⟩
  have HM := hid hm
  rw [hm] at hmk
  obtain ⟨Au, cu, rfl⟩ := ho.form
  have HNG : Hid (¬ (Value.slice Au l.length cu).ownBlock = some gb) := hid (fun e => by have := hu gb e; have := h.rb; omega)
  have HNL : Hid (∀ k, lv.ownBlock = some k → (Value.slice Au l.length cu).ownBlock ≠ some k) := hid (fun k hk e => by have := hu k e; have := h.rl k hk; omega)
  have HNM : Hid (∀ k, mv.ownBlock = some k → (Value.slice Au l.length cu).ownBlock ≠ some k) := hid (fun k hk e => by have := hu k e; have := h.rm k hk; omega)
  have HLM : Hid (∀ k, mv.ownBlock = some k → lv.ownBlock ≠ some k ∧ k ≠ gb) := hid (fun k hk => ⟨fun e => by have := h.rl k e; have := h.rm k hk; omega, fun e => by have := h.rm k hk; rw [e, h.rb] at this; omega⟩)
  have HLG : Hid (∀ k, lv.ownBlock = some k → k ≠ gb) := hid (fun k hk e => by have := h.rl k hk; rw [e, h.rb] at this; omega)
  clear h ho hu hm hml
  subst hlv
  go_enter Try.func26, Try.ntmps26
  go_wp2
  go_loopw [5] (fun i wr => ∃ q : Nat, q ≤ l.length ∧ i = .int .i64 q ∧ OwnB wr 0 (.slice Au l.length cu) (List.replicate q m ++ l.drop q) ∧ Fr (fun k => (Value.slice Au l.length cu).ownBlock = some k) W wr) (fun i _ => l.length - (intOf i).toNat)
  case atStart => exact ⟨0, Nat.zero_le _, rfl, by simpa using HO.out, Fr.refl _ _⟩
  case round =>
    obtain ⟨q, hq, rfl, ho, hf⟩ := hrel
    have HO1 := hid ho
    have HF1 := hid hf
    clear ho hf
    by_cases hql : q < l.length
    · obtain ⟨gu, cc, eA, _, _, _⟩ := HO1.out.some_ (by rw [fill_length l q m hq]; omega)
      rw [fill_length l q m hq] at eA
      injection eA with eA e6 e7
      subst eA; subst e7
      clear e6
      obtain ⟨hcl, hfr⟩ := HO1.out.at_ q (by rw [fill_length l q m hq]; exact hql)
      have HS := hid (fill_set l q m hql)
      have hml := m.toNat_lt
      go_wp2
      go_roundw
      case rel => exact ⟨q + 1, by omega, by go_num, by rw [← HS.out]; exact HO1.out.set_ q m, fr_set (X := fun k => (Value.slice (some ⟨gu, 0, none⟩) l.length cu).ownBlock = some k) HF1.out rfl _ _⟩
      case measure => simp [intOf]; omega
    · obtain rfl : q = l.length := by omega
      rw [List.drop_length, List.append_nil] at HO1
      have HAT := hid (blk_fr HF1.out H.out.at_ HNG.out)
      have d0 := (blk_of_cells HAT.out).1
      have HLO := hid (own_fr H.out.lo HF1.out (fun k hk => HNL.out k hk))
      have hlu : Hid (∀ k, (Value.slice Au l.length cu).ownBlock = some k → k < W.heap.size) := hid fun k hk => (World.ownsRow.lt HO.out k hk).2
      clear hq hql c0
      go_wp2_with (at_builtin; refine wpList_appX rfl (.tmp 30) (.tmp 32) rfl Try.underlying36 infoBB rfl 0 _ _ ls.length 1 ls (fun _ => .slice Au l.length cu) rfl rfl (own_fr HLO.out (Fr.alloc (fun _ => False) wr _) (fun _ _ h => h)) (by exact lit_one wr _ _) (fun _ _ => rfl) (by omega) (by unfold maxLen; omega) (Nat.zero_le _) ?_; intro v3 w3 ho3 hg3 hp3; obtain ⟨gl, cl, rfl, hcl⟩ := own_some ho3 (by omega); have HO3 : Hid (w3.ownsRow 0 28 1 (.slice (some ⟨gl, 0, none⟩) (ls.length + 1) cl) (ls.length + 1) (ls ++ [.slice Au l.length cu])) := hid (by simpa using ho3); have HP3 : Hid ((Value.slice A ls.length c).ownBlock = some gl ∨ wr.heap.size < gl) := hid (by rcases hp3 gl rfl with h | h; (exact .inl h); (exact .inr (by simp at h; omega))); have F3 : Hid (Fr (fun k => (Value.slice A ls.length c).ownBlock = some k) wr w3) := hid ((Fr.alloc _ wr _).trans ((Fr.of_grown hg3).mono fun k _ h => .inl h)); have HAT3 := hid (blk_fr F3.out HAT.out (fun h => HLG.out gb h rfl)); have d3 := (blk_of_cells HAT3.out).1; have f3 := (blk_of_cells HAT3.out).2.2.1; clear ho3 hg3 hp3)
      have HAT4 := hid (show (w3.setCell ⟨gb, 0, none⟩ (.slice (some ⟨gl, 0, none⟩) (ls.length + 1) cl)).heap[gb]? = some (.cells #[.slice (some ⟨gl, 0, none⟩) (ls.length + 1) cl, mv] 38 (0, 0)) by rw [blk_set HAT3.out]; rfl)
      have F4 : Hid (Fr (fun k => k = gb ∨ (Value.slice A ls.length c).ownBlock = some k) wr (w3.setCell ⟨gb, 0, none⟩ (.slice (some ⟨gl, 0, none⟩) (ls.length + 1) cl))) := hid (fr_set (F3.out.mono fun _ _ h => .inr h) (.inl rfl) _ _)
      have hglg : gl ≠ gb := by
        rcases HP3.out with h | h
        · exact HLG.out gl h
        · have := blk_lt HAT.out; omega
      have HO4 := hid (own_fr HO3.out (Fr.set_ (g := gb) 0 (.slice (some ⟨gl, 0, none⟩) (ls.length + 1) cl)) (fun k hk e => by injection hk with hk; exact hglg (hk.trans e)))
      have HGL := hid hglg
      clear hglg d0 d3 f3
      generalize w3.setCell ⟨gb, 0, none⟩ (.slice (some ⟨gl, 0, none⟩) (ls.length + 1) cl) = w4 at *
      have hmb := m.toNat_lt
      have HU4 := hid (HO1.out.fr F4.out (fun k hk e => by
        rcases e with e | e
        · exact HNG.out (hk.trans (by rw [e]))
        · exact HNL.out k e hk))
      have HOFF : Hid (∀ g off c, Value.slice Au l.length cu = .slice (some ⟨g, off, none⟩) l.length c → off = 0) := hid fun g off c' e => by
        obtain ⟨_, ⟨h, _⟩ | ⟨g', cap, _, h, _⟩⟩ := HO.out
        · rw [h] at e; injection e with e1; cases e1
        · rw [h] at e; injection e with e1; injection e1 with e1; injection e1 with _ e1; exact e1.symm
      go_loopw [6, 7] (fun xv i wx => ∃ q : Nat, q ≤ 70 ∧ i = .int .i64 q ∧ OwnB wx 0 xv (List.replicate (l.length + q) m) ∧ SlB wx (.slice Au l.length cu) (List.replicate l.length m) ∧ (∀ k, xv.ownBlock = some k → (Value.slice Au l.length cu).ownBlock = some k ∨ w4.heap.size ≤ k) ∧ Fr (fun k => (Value.slice Au l.length cu).ownBlock = some k) w4 wx) (fun _ i _ => 70 - (intOf i).toNat)
      case atStart => exact ⟨0, by omega, rfl, HU4.out, HU4.out.sl, fun k hk => .inl hk, Fr.refl _ _⟩
      case round =>
        obtain ⟨q, hq, rfl, ho, hs, hb, hf⟩ := hrel
        obtain ⟨Ax, cx, ex⟩ := ho.form
        rw [List.length_replicate] at ex
        subst ex
        have HOX := hid ho
        have HSX := hid hs
        have HBX := hid hb
        have HFX := hid hf
        clear ho hs hb hf
        by_cases hql : q < 70
        · go_wp2_with (at_builtin; refine wpList_app1 rfl (.tmp 41) (.tmp 43) rfl 0 _ (List.replicate (l.length + q) m) m wr.heap.size 1 rfl rfl (HOX.out.alloc _) (by rw [cell_of_row _ _ _ _ _ _ (heap_alloc_new _ _)]; rfl) (by rw [List.length_replicate]; omega) (Nat.zero_le _) ?_; intro v5 w5 ho5 hd5; have HO5 := hid ho5; have HD5 : Hid ((v5.ownBlock = (Value.slice Ax (l.length + q) cx).ownBlock ∧ (wr.alloc (.cells #[B m] 5)).grownBy w5 (Value.slice Ax (l.length + q) cx).ownBlock) ∨ (Below (wr.alloc (.cells #[B m] 5)).heap.size (wr.alloc (.cells #[B m] 5)) w5 ∧ ∀ k, v5.ownBlock = some k → (wr.alloc (.cells #[B m] 5)).heap.size ≤ k)) := hid hd5; clear ho5 hd5)
          go_roundw
          case rel =>
            have hal : Below wr.heap.size wr (wr.alloc (.cells #[B m] 5)) := (Below.refl _ _).alloc (Nat.le_refl _) _
            have hsz := HFX.out.size
            refine ⟨q + 1, by omega, by go_num, by have := HO5.out; rw [← List.replicate_succ'] at this; rw [← Nat.add_assoc]; exact this, hold_step (HSX.out.below hal) HOFF.out HO5.out HD5.out, fun k hk => ?_, ?_⟩
            · rcases HD5.out with ⟨e, _⟩ | ⟨_, e⟩
              · exact HBX.out k (by rw [← e]; exact hk)
              · have h1 := e k hk
                have h2 := hal.size
                exact .inr (by omega)
            · refine HFX.out.trans (((Fr.of_below hal).mono fun _ _ h => h.elim).trans ?_)
              rcases HD5.out with ⟨_, e⟩ | ⟨e, _⟩
              · exact (Fr.of_grown e).mono fun k _ h => .inl (HBX.out k h)
              · exact (Fr.of_below e).mono fun _ _ h => h.elim
          case measure => simp [intOf]; omega
        · obtain rfl : q = 70 := by omega
          have HAT5 := hid (blk_fr HFX.out HAT4.out HNG.out)
          have d1 := (blk_of_cells HAT5.out).2.1
          have HMO := hid (own_fr (own_fr (own_fr H.out.mo HF1.out (fun k hk => HNM.out k hk)) F4.out (fun k hk e => by
            rcases e with e | e
            · exact (HLM.out k hk).2 e
            · exact (HLM.out k hk).1 e)) HFX.out (fun k hk => HNM.out k hk))
          have hmsl : ms.length ≤ 1048576 := by rw [HML.out]; exact hn
          clear hq hql
          go_wp2_with (at_builtin; refine wpList_appX rfl (.tmp 49) (.tmp 51) rfl Try.underlying36 infoBB rfl 0 _ _ ms.length 1 ms (fun _ => .slice Ax (l.length + 70) cx) rfl rfl (own_fr HMO.out (Fr.alloc (fun _ => False) wr _) (fun _ _ h => h)) (by exact lit_one wr _ _) (fun _ _ => rfl) (by omega) (by unfold maxLen; omega) (Nat.zero_le _) ?_; intro v6 w6 ho6 hg6 hp6; obtain ⟨gm, cm, rfl, hcm⟩ := own_some ho6 (by omega); have HO6 : Hid (w6.ownsRow 0 28 1 (.slice (some ⟨gm, 0, none⟩) (ms.length + 1) cm) (ms.length + 1) (ms ++ [.slice Ax (l.length + 70) cx])) := hid (by simpa using ho6); have HP6 : Hid (mv.ownBlock = some gm ∨ wr.heap.size < gm) := hid (by rcases hp6 gm rfl with h | h; (exact .inl h); (exact .inr (by simp at h; omega))); have F6 : Hid (Fr (fun k => mv.ownBlock = some k) wr w6) := hid ((Fr.alloc _ wr _).trans ((Fr.of_grown hg6).mono fun k _ h => .inl h)); have HAT6 := hid (blk_fr F6.out HAT5.out (fun h => (HLM.out gb h).2 rfl)); have d6 := (blk_of_cells HAT6.out).2.1; have f6 := (blk_of_cells HAT6.out).2.2.2; clear ho6 hg6 hp6)
          go_returns
          have z0 := HF1.out.size
          have z1 := F4.out.size
          have z2 := HFX.out.size
          have z3 := F6.out.size
          have F : Fr (fun k => ρ k = 1 ∨ ρ k = 2 ∨ ρ k = 3 ∨ (Value.slice Au l.length cu).ownBlock = some k) W (w6.setCell ⟨gb, 1, none⟩ (.slice (some ⟨gm, 0, none⟩) (ms.length + 1) cm)) := by
            have a1 := HF1.out.mono (Y := fun k => ρ k = 1 ∨ ρ k = 2 ∨ ρ k = 3 ∨ (Value.slice Au l.length cu).ownBlock = some k) fun k _ h => .inr (.inr (.inr h))
            have a2 := a1.trans (F4.out.mono fun k _ h => .inl (by
              rcases h with h | h
              · exact .inl (by rw [h]; exact H.out.rb)
              · exact .inr (.inl (H.out.rl k h))))
            have a3 := a2.trans (HFX.out.mono fun k _ h => .inl (.inr (.inr (.inr h))))
            have a4 := a3.trans (F6.out.mono fun k _ h => .inl (.inr (.inr (.inl (H.out.rm k h)))))
            exact fr_set a4 (.inl H.out.rb) _ _
          have gbl := blk_lt H.out.at_
          have gll := (World.ownsRow.lt HO4.out gl rfl).2
          have glu : ∀ k, (Value.slice Au l.length cu).ownBlock = some k → k ≠ gl := fun k hk e => by
            subst e
            have h1 := hlu.out k hk
            rcases HP3.out with h | h
            · exact HNL.out k h hk
            · omega
          have gmu : ∀ k, (Value.slice Au l.length cu).ownBlock = some k → k ≠ gm := fun k hk e => by
            subst e
            have h1 := hlu.out k hk
            rcases HP6.out with h | h
            · exact HNM.out k h hk
            · omega
          have glm : gl ≠ gm := fun e => by
            rcases HP6.out with h | h
            · rcases HP3.out with h3 | h3
              · exact (HLM.out gm h).1 (by rw [← e]; exact h3)
              · have := (World.ownsRow.lt H.out.mo gm h).2; omega
            · omega
          have gmg : gm ≠ gb := fun e => by
            rcases HP6.out with h | h
            · exact (HLM.out gm h).2 e
            · omega
          have Fw := Fr.set_ (w := w6) (g := gb) 1 (.slice (some ⟨gm, 0, none⟩) (ms.length + 1) cm)
          have old : ∀ (i : Nat) (v : Value), Held W ρ i v → Held (w6.setCell ⟨gb, 1, none⟩ (.slice (some ⟨gm, 0, none⟩) (ms.length + 1) cm)) (fun k => if (Value.slice Au l.length cu).ownBlock = some k then 0 else if k < W.heap.size then ρ k else if k = gl then 2 else if k = gm then 3 else 0) i v := fun i v hh => by
            obtain ⟨n, h0, h1, h2⟩ := hh
            refine ⟨n, h0, sl_fr h1 F (fun k hk hx => ?_), fun k hk => ⟨?_, Nat.lt_of_lt_of_le (h2 k hk).2 F.size⟩⟩
            · have h3 := (h2 k hk).1
              rcases hx with hx | hx | hx | hx
              · omega
              · omega
              · omega
              · have := HU.out k hx; omega
            · dsimp only
              split
              · rfl
              · rw [if_pos (h2 k hk).2]; exact (h2 k hk).1
          refine ⟨rfl, fun k => if (Value.slice Au l.length cu).ownBlock = some k then 0 else if k < W.heap.size then ρ k else if k = gl then 2 else if k = gm then 3 else 0, .slice (some ⟨gl, 0, none⟩) (ls.length + 1) cl, .slice (some ⟨gm, 0, none⟩) (ms.length + 1) cm, .slice Ax (l.length + 70) cx, ⟨?_, ?_, ?_, ?_, ?_, ?_, ?_, ?_, ?_⟩, F, ?_⟩
          · rw [blk_set HAT6.out]; rfl
          · have h1 := own_fr (own_fr (own_fr HO4.out HFX.out (fun k hk e => by injection hk with hk; exact glu k e hk.symm)) F6.out (fun k hk e => by
              simp only [Value.ownBlock, Option.some.injEq] at hk
              subst hk
              rcases HP3.out with h3 | h3
              · exact (HLM.out _ e).1 h3
              · have := (World.ownsRow.lt H.out.mo _ e).2; omega)) Fw (fun k hk e => by injection hk with hk; exact HGL.out (hk.trans e))
            rw [show (ls ++ [Value.slice Au l.length cu]).length = ls.length + 1 by simp]
            exact h1
          · have h1 := own_fr HO6.out Fw (fun k hk e => by injection hk with hk; exact gmg (hk.trans e))
            rw [show (ms ++ [Value.slice Ax (l.length + 70) cx]).length = ms.length + 1 by simp]
            exact h1
          · simp [HML.out]
          · intro i v hi
            rcases Nat.lt_trichotomy i ls.length with h | h | h
            · rw [List.getElem?_append_left h] at hi
              exact old i v (H.out.el i v hi)
            · subst h
              simp at hi
              subst hi
              refine ⟨l.length, by omega, ?_, fun k hk => ⟨by dsimp only; rw [if_pos hk], Nat.lt_of_lt_of_le (hlu.out k hk) F.size⟩⟩
              rw [HM.out]
              exact sl_fr (sl_fr HSX.out F6.out (fun k hk e => HNM.out k e hk)) Fw (fun k hk e => HNG.out (by rw [hk, e]))
            · rw [List.getElem?_eq_none (by simp; omega)] at hi; cases hi
          · intro i v hi
            rcases Nat.lt_trichotomy i ms.length with h | h | h
            · rw [List.getElem?_append_left h] at hi
              exact old i v (H.out.em i v hi)
            · subst h
              simp at hi
              subst hi
              have hxl := World.ownsRow.lt HOX.out
              have hxg : ∀ k, (Value.slice Ax (l.length + 70) cx).ownBlock = some k → k ≠ gb ∧ mv.ownBlock ≠ some k ∧ k ≠ gl ∧ k ≠ gm := fun k hk => by
                rcases HBX.out k hk with h | h
                · exact ⟨fun e => HNG.out (by rw [h, e]), fun e => HNM.out k e h, glu k h, gmu k h⟩
                · have h2 := (hxl k hk).2
                  refine ⟨by omega, fun e => by have := (World.ownsRow.lt H.out.mo k e).2; omega, by omega, fun e => ?_⟩
                  rcases HP6.out with h3 | h3
                  · have := (World.ownsRow.lt H.out.mo gm h3).2; omega
                  · omega
              refine ⟨l.length + 70, by omega, ?_, fun k hk => ⟨?_, ?_⟩⟩
              · rw [show mark ms.length = m by rw [HML.out, HM.out]]
                exact sl_fr (sl_fr HOX.out.sl F6.out (fun k hk => (hxg k hk).2.1)) Fw (fun k hk => (hxg k hk).1)
              · dsimp only
                split
                · rfl
                · rename_i hnu
                  rcases HBX.out k hk with h | h
                  · exact absurd h hnu
                  · rw [if_neg (by omega), if_neg (hxg k hk).2.2.1, if_neg (hxg k hk).2.2.2]
              · have := (hxl k hk).2
                have := Fw.size
                omega
            · rw [List.getElem?_eq_none (by simp; omega)] at hi; cases hi
          · rw [if_neg HNG.out, if_pos gbl]; exact H.out.rb
          · intro k hk
            injection hk with hk
            have hk2 : gl = k := hk
            subst hk2
            rw [if_neg (fun e => glu _ e rfl)]
            rcases HP3.out with h3 | h3
            · rw [if_pos (World.ownsRow.lt H.out.lo _ h3).2]; exact H.out.rl _ h3
            · rw [if_neg (by omega), if_pos rfl]
          · intro k hk
            injection hk with hk
            have hk2 : gm = k := hk
            subst hk2
            rw [if_neg (fun e => gmu _ e rfl)]
            rcases HP6.out with h3 | h3
            · rw [if_pos (World.ownsRow.lt H.out.mo _ h3).2]; exact H.out.rm _ h3
            · rw [if_neg (by omega), if_neg (fun e => glm e.symm), if_pos rfl]
          · intro k hk hn
            dsimp only
            rw [if_neg hn, if_pos hk]
end Go.Proofs.Ytamhlfhblgmhoaa
