/- The document's network: Flight, without, Send. -/
import Derived.Test.YtahpkknbejgnkaaDoorNetPd
namespace Go.Proofs.YtahpkknbejgnkaaDoor
open Go.RowKit
theorem rFlight_nil (w : World) : Calls Tryd.prog 20 #[.pointer none] w fun e w' => e = .returned (.slice none 0 0) ∧ w' = w := by
  go_enter Tryd.func20, Tryd.ntmps20
  go_wp2
  go_ret
  exact ⟨rfl, rfl⟩
set_option maxRecDepth 100000 in
set_option maxHeartbeats 4000000 in
theorem rFlight_any (w : World) (S : Nat → Prop) (d : Nat) (P : List Pkt) (h : RAt w S d P) (hl : ∀ p ∈ P, p.data.length ≤ 140737488355328) (hP : P.length ≤ 1099511627776) :
    Calls Tryd.prog 20 #[.pointer (some ⟨d, 0, none⟩)] w fun e w' => ∃ v, e = .returned v ∧ PAt w' (Nw w w') v P ∧ Below w.heap.size w w' := by
  obtain ⟨I, fv, vs, hN⟩ := h
  have HN := hid hN
  have HL := hid hl
  obtain ⟨Af, cf, rfl⟩ := own_form hN.pv.row
  have hdl : d < w.heap.size := hN.pv.lt d hN.sd
  have c0 : w.cell? ⟨d, 0, none⟩ = some (.slice Af P.length cf) := by rw [blk_cell hN.at_]; rfl
  obtain ⟨i0, hi0, hz0, hz1, hz2⟩ := info_parts infoK
  clear hN hl
  go_enter Tryd.func20, Tryd.ntmps20
  go_wp2
  clear c0
  go_loopw [3, 14] (fun v i wr => ∃ k : Nat, k ≤ P.length ∧ i = .int .i64 k ∧ FlR w wr v (P.take k)) (fun _ i _ => P.length - (intOf i).toNat)
  case atStart => exact ⟨0, by omega, rfl, ⟨fun _ => False, [], rfl, World.ownsRow_nil _ _ _ _, fun i u p hu hp => by simp at hu, fun _ h => h.elim, fun k hk => hk.2, fun k hk => by cases hk⟩, Below.refl _ _⟩
  case round =>
    obtain ⟨k, hk, rfl, ⟨I1, vs1, hPV⟩, hB⟩ := hrel
    have hlen : (P.take k).length = k := by rw [List.length_take]; omega
    obtain ⟨Ao, co, rfl⟩ := own_form hPV.row
    have HV := hid hPV
    have HB := hid hB
    have HLEN := hid hlen
    rw [hlen]
    clear hPV hB hlen
    by_cases hlt : k < P.length
    · obtain ⟨g, cap, e, _, _, hcap, hgl, _⟩ := HN.out.pv.lies (by omega)
      injection e with e1 e2 e3
      subst e1 e3
      obtain ⟨u0, -, hu0, hc⟩ := HN.out.pv.get k hlt
      have hpl := HL.out _ (List.getElem_mem hlt)
      have HTK := hid (List.take_succ_eq_append_getElem hlt)
      obtain ⟨p, hp⟩ : ∃ p, p = P[k] := ⟨_, rfl⟩
      rw [← hp] at hu0 hc hpl HTK
      obtain ⟨fk, fi, tk, ti, l, lost⟩ := p
      simp only at hpl
      have HV0 : Hid (SlB wr u0 l) := hid ((hu0.fr (I' := I) (Fr.of_below (HB.out.mono (Nat.le_refl _))) (fun _ _ h => h) (fun _ h => h)).sl)
      obtain ⟨A, c, rfl⟩ := HV0.out.form
      obtain ⟨x0, x1, x2, x3, x4, x5⟩ := pk6 (w := wr) (g := g) (k := k * 6) (p := ⟨fk, fi, tk, ti, l, lost⟩) (u := .slice A l.length c) (fun j v hj => (HB.out.cell (p := ⟨g, k * 6 + j, none⟩) hgl).trans (hc j v hj))
      clear hc hu0 hp
      have hk' : k < P.length := hlt
      go_upto_region 7 with (fail)
      refine Code.seen (fun W => W.heap[wr.heap.size]? = some (.cells #[.int .i64 fk, .int .i64 fi, .int .i64 tk, .int .i64 ti, .slice A l.length c, .bool lost] 32 (0, 0)) ∧ Below wr.heap.size wr W) ⟨heap_alloc_new _ _, (Below.refl _ _).alloc (Nat.le_refl _) _⟩ fun w2 Z2 => ?_
      obtain ⟨y0, y1, y2, y3, y4, y5⟩ := pk_at Z2.out.1
      clear x0 x1 x2 x3 x4 x5
      go_wp2_with fail
      refine (rcopied_at fk fi tk ti l lost _ w2 (HV0.out.below Z2.out.2) hpl).mono ?_
      rintro e w3 ⟨u, rfl, hu, hb3⟩
      obtain ⟨Au, cu, rfl⟩ := hu.form
      have HU := hid hu
      have HB3 := hid (below_then Z2.out.2 hb3)
      have HOX := hid (own_fr HV.out.row (Fr.of_below HB3.out) (fun _ _ h => h))
      have HS2 := hid Z2.out.2.size
      rw [HLEN.out] at HOX
      clear hu hb3 y0 y1 y2 y3 y4 y5 Z2
      go_wp2_with (at_builtin; refine wpList_append_lies _ rfl (.tmp 18) (.tmp 21) 25 rfl 0 32 i0 _ 6 64 Tryd.underlying25 hi0 hz0 hz1 hz2 rfl (by omega) (.slice Ao k co) k _ rfl (HOX.out.alloc _) ⟨w3.heap.size, 0, none⟩ 1 1 [.int .i64 fk, .int .i64 fi, .int .i64 tk, .int .i64 ti, .slice Au l.length cu, .bool lost] rfl rfl (World.news_of_block (cs := #[.int .i64 fk, .int .i64 fi, .int .i64 tk, .int .i64 ti, .slice Au l.length cu, .bool lost]) (t := 32) (fr := (0, 0)) (heap_alloc_new w3 _)) (by simp [Value.oneCell']) (by omega) (by unfold maxLen; omega) (by omega) (Nat.zero_le _) (w3.heap.size + 1) (by simp) ?_; intro g2 cap2 w5 hown5 hgrow hat hlt5; have H5 := hid (FlR.more (p := ⟨fk, fi, tk, ti, l, lost⟩) HV.out HB.out HB3.out (own_base HU.out HS2.out) ((Below.refl _ _).alloc (Nat.le_refl _) _) (by rw [HLEN.out]; exact hown5) (by rw [HLEN.out]; exact hgrow) (hat.imp (fun e => by rw [HLEN.out]; exact e) (fun e => by rw [e]; simp))); clear hown5 hgrow hat hlt5)
      go_roundw
      case rel => exact ⟨k + 1, by omega, by go_num, by rw [HTK.out]; have := H5.out; rw [HLEN.out] at this; exact this⟩
      case measure => simp [intOf]; omega
    · have hk2 : k = P.length := by omega
      have HK2 := hid hk2
      have hge : P.length ≤ k := by omega
      clear hk2
      go_wp2
      go_ret
      exact ⟨_, rfl, ⟨I1, vs1, by have := HV.out; rw [HLEN.out] at this; rw [List.take_of_length_le (by have := HK2.out; omega)] at this; exact this⟩, HB.out⟩
/-- a list whose bytes lie where those of another do -/
def WoR (w wr : World) (I : Nat → Prop) (v : Value) (Q : List Pkt) : Prop := (∃ vs, PV wr (fun k => I k ∨ Nw w wr k) I v vs Q ∧ (∀ k, v.ownBlock = some k → w.heap.size ≤ k)) ∧ Below w.heap.size w wr
theorem WoR.more {w wr w3 w4 : World} {I : Nat → Prop} {g cap : Nat} {v u : Value} {vs : List Value} {Q : List Pkt} {p : Pkt} (h : PV wr (fun k => I k ∨ Nw w wr k) I v vs Q) (hv : ∀ k, v.ownBlock = some k → w.heap.size ≤ k) (hB : Below w.heap.size w wr) (hu : SlI wr I u p.data) (hb3 : Below wr.heap.size wr w3)
    (hown : w4.ownsRow 0 32 6 (.slice (some ⟨g, 0, none⟩) (Q.length + 1) cap) (Q.length + 1) (pktCells vs Q ++ p.cells u)) (hg : w3.grownBy w4 v.ownBlock) (hat : v.ownBlock = some g ∨ wr.heap.size ≤ g) : WoR w w4 I (.slice (some ⟨g, 0, none⟩) (Q.length + 1) cap) (Q ++ [p]) := by
  have h1 := h.more (Below.refl _ _) hu (fun k hk => .inl hk) hb3 hown hg hat
  refine ⟨⟨_, ⟨h1.1.len, h1.1.row, fun i u p hu hp => ⟨(h1.1.each i u p hu hp).sl, fun h0 k hk => ((h1.1.each i u p hu hp).i h0 k hk).elim id id⟩, fun k hk => .inl hk, fun k hk => ?_, fun k hk => ⟨?_, fun e => (h1.1.r k hk).2 (.inl e)⟩⟩, fun k hk => ?_⟩, hB.trans (h1.2.to_below (B := w.heap.size) (fun k hk e => by have := hv k e; omega) hB.size)⟩
  · rcases hk with hk | hk
    · have := h.lt k (.inl hk); have := h1.2.size; omega
    · exact hk.2
  · rcases (h1.1.r k hk).1 with (hk1 | hk1) | hk1
    · exact .inl hk1
    · exact .inr ⟨hk1.1, Nat.lt_of_lt_of_le hk1.2 h1.2.size⟩
    · exact .inr ⟨Nat.le_trans hB.size hk1.1, hk1.2⟩
  · injection hk with hk
    have hk : g = k := hk
    subst hk
    rcases hat with h2 | h2
    · exact hv g h2
    · exact Nat.le_trans hB.size h2
theorem WoR.next {w wr wr' : World} {I : Nat → Prop} {v : Value} {Q : List Pkt} (h : WoR w wr I v Q) (hb : Below wr.heap.size wr wr') : WoR w wr' I v Q := by
  obtain ⟨⟨vs, h1, h2⟩, h3⟩ := h
  have h4 := h1.below hb
  exact ⟨⟨vs, ⟨h4.len, h4.row, h4.each, fun k hk => .inl hk, fun k hk => hk.elim (fun h => h4.lt k (.inl h)) (fun h => h.2), fun k hk => ⟨((h4.r k hk).1).imp id (fun h => ⟨h.1, Nat.lt_of_lt_of_le h.2 hb.size⟩), (h4.r k hk).2⟩⟩, h2⟩, below_then h3 hb⟩
/-- the first k without number i -/
def woT (P : List Pkt) (i k : Nat) : List Pkt := if i < k then (P.take k).eraseIdx i else P.take k
theorem woT_skip (P : List Pkt) (i : Nat) (hi : i < P.length) : woT P i (i + 1) = woT P i i := by
  unfold woT
  rw [if_pos (by omega), if_neg (by omega), List.eraseIdx_eq_take_drop_succ, List.take_take, List.drop_of_length_le (by simp; omega), List.append_nil, Nat.min_eq_left (by omega)]
theorem woT_skip2 (P : List Pkt) (i k : Nat) (hi : i < P.length) (h : k = i) : woT P i (k + 1) = woT P i k := by subst h; exact woT_skip P k hi
theorem woT_more (P : List Pkt) (i k : Nat) (hk : k < P.length) (h : k ≠ i) : woT P i (k + 1) = woT P i k ++ [P[k]] := by
  unfold woT
  rw [List.take_succ_eq_append_getElem hk]
  by_cases h1 : i < k
  · rw [if_pos (by omega), if_pos h1, List.eraseIdx_append_of_lt_length (by rw [List.length_take]; omega)]
  · rw [if_neg (by omega), if_neg h1]
theorem woT_all (P : List Pkt) (i : Nat) (hi : i < P.length) : woT P i P.length = P.eraseIdx i := by
  unfold woT; rw [if_pos hi, List.take_length]
theorem woT_len (P : List Pkt) (i k : Nat) : (woT P i k).length ≤ k := by
  unfold woT
  split
  · rw [List.length_eraseIdx, List.length_take]; split <;> omega
  · rw [List.length_take]; omega
set_option maxRecDepth 100000 in
set_option maxHeartbeats 4000000 in
theorem without_any (w : World) (S I : Nat → Prop) (d : Nat) (fv : Value) (vs : List Value) (P : List Pkt) (i : Nat) (h : HV 61 w S I d fv vs P) (hi : i < P.length) (hP : P.length ≤ 1099511627776) :
    Calls Tryd.prog 41 #[.pointer (some ⟨d, 0, none⟩), .int .i64 (i : Int)] w fun e w' => ∃ v, e = .returned v ∧ WoR w w' I v (P.eraseIdx i) := by
  have HN := hid h
  obtain ⟨g, cap, rfl, hSg, hIg, hcap, hgl, _⟩ := h.pv.lies (by omega)
  have c0 : w.cell? ⟨d, 0, none⟩ = some (.slice (some ⟨g, 0, none⟩) P.length cap) := by rw [blk_cell h.at_]; rfl
  obtain ⟨i0, hi0, hz0, hz1, hz2⟩ := info_parts infoK
  clear h
  go_enter Tryd.func41, Tryd.ntmps41
  go_wp2
  clear c0
  go_loopw [5, 13] (fun v i' wr => ∃ k : Nat, k ≤ P.length ∧ i' = .int .i64 k ∧ WoR w wr I v (woT P i k)) (fun _ i _ => P.length - (intOf i).toNat)
  case atStart => exact ⟨0, by omega, rfl, ⟨[], ⟨by simp [woT], by simp [woT, pktCells]; exact World.ownsRow_nil _ _ _ _, fun i u p hu hp => by simp at hu, fun k hk => .inl hk, fun k hk => hk.elim (fun h => HN.out.pv.lt k (HN.out.pv.it k h)) (fun h => h.2), fun k hk => by cases hk⟩, fun k hk => by cases hk⟩, Below.refl _ _⟩
  case round =>
    obtain ⟨k, hk, rfl, hW⟩ := hrel
    have HW := hid hW
    obtain ⟨⟨vs1, hPV, hv1⟩, hB⟩ := hW
    obtain ⟨Ao, co, rfl⟩ := own_form hPV.row
    obtain ⟨n, hlen⟩ : ∃ n, (woT P i k).length = n := ⟨_, rfl⟩
    have hnk : n ≤ k := by rw [← hlen]; exact woT_len P i k
    have HV := hid hPV
    have HV1 := hid hv1
    have HB := hid hB
    have HLEN := hid hlen
    rw [hlen] at HV1 ⊢
    clear hPV hB hlen hv1
    by_cases hlt : k < P.length
    · obtain ⟨u0, -, hu0, hc⟩ := HN.out.pv.get k hlt
      have HTK := hid (woT_more P i k hlt)
      obtain ⟨p, hp⟩ : ∃ p, p = P[k] := ⟨_, rfl⟩
      rw [← hp] at hu0 hc HTK
      obtain ⟨fk, fi, tk, ti, l, lost⟩ := p
      have HV0 : Hid (SlI wr I u0 l) := hid (hu0.fr (I' := I) (Fr.of_below (HB.out.mono (Nat.le_refl _))) (fun _ _ h => h) (fun _ h => h))
      obtain ⟨A, c, rfl⟩ := HV0.out.sl.form
      obtain ⟨x0, x1, x2, x3, x4, x5⟩ := pk6 (w := wr) (g := g) (k := k * 6) (p := ⟨fk, fi, tk, ti, l, lost⟩) (u := .slice A l.length c) (fun j v hj => (HB.out.cell (p := ⟨g, k * 6 + j, none⟩) hgl).trans (hc j v hj))
      clear hc hu0 hp
      have i1 : (k : Int) < (P.length : Int) := by omega
      go_upto_region 5 with (fail)
      refine Code.seen (fun W => W.heap[wr.heap.size]? = some (.cells #[.int .i64 fk, .int .i64 fi, .int .i64 tk, .int .i64 ti, .slice A l.length c, .bool lost] 32 (0, 0)) ∧ Below wr.heap.size wr W) ⟨heap_alloc_new _ _, (Below.refl _ _).alloc (Nat.le_refl _) _⟩ fun w2 Z2 => ?_
      obtain ⟨y0, y1, y2, y3, y4, y5⟩ := pk_at Z2.out.1
      clear x0 x1 x2 x3 x4 x5
      have HOX := hid (own_fr HV.out.row (Fr.of_below Z2.out.2) (fun _ _ h => h))
      rw [HLEN.out] at HOX
      by_cases hki : k = i
      · have hq1 : ((k : Int) != (i : Int)) = false := by rw [hki]; simp
        have hq2 : (k != i) = false := by rw [hki]; simp
        have HKI := hid hki
        clear hki
        go_wp2
        go_roundw
        case rel => exact ⟨k + 1, by omega, by go_num, by rw [woT_skip2 P i k hi HKI.out]; have := HW.out.next Z2.out.2; rw [HLEN.out] at this; exact this⟩
        case measure => simp [intOf]; omega
      · have hq1 : ((k : Int) != (i : Int)) = true := by rw [bne_iff_ne]; omega
        have hq2 : (k != i) = true := by rw [bne_iff_ne]; exact hki
        have HKI := hid (HTK.out hki)
        clear hki
        go_wp2_with (at_builtin; refine wpList_append_lies _ rfl (.tmp 21) (.tmp 23) 25 rfl 0 32 i0 _ 6 64 Tryd.underlying25 hi0 hz0 hz1 hz2 rfl (by omega) (.slice Ao n co) n _ rfl (HOX.out.alloc _) ⟨w2.heap.size, 0, none⟩ 1 1 [.int .i64 fk, .int .i64 fi, .int .i64 tk, .int .i64 ti, .slice A l.length c, .bool lost] rfl rfl (World.news_of_block (cs := #[.int .i64 fk, .int .i64 fi, .int .i64 tk, .int .i64 ti, .slice A l.length c, .bool lost]) (t := 32) (fr := (0, 0)) (heap_alloc_new w2 _)) (by simp [Value.oneCell']) (by omega) (by unfold maxLen; omega) (by omega) (Nat.zero_le _) (w2.heap.size + 1) (by simp) ?_; intro g2 cap2 w5 hown5 hgrow hat hlt5; have H5 := hid (WoR.more (p := ⟨fk, fi, tk, ti, l, lost⟩) HV.out (by rw [HLEN.out]; exact HV1.out) HB.out HV0.out (Z2.out.2.trans ((Below.refl w2.heap.size w2).alloc (Nat.le_refl _) _ |>.mono Z2.out.2.size)) (by rw [HLEN.out]; exact hown5) (by rw [HLEN.out]; exact hgrow) (hat.imp (fun e => by rw [HLEN.out]; exact e) (fun e => by rw [e]; have := Z2.out.2.size; simp; omega))); clear hown5 hgrow hat hlt5)
        clear y0 y1 y2 y3 y4 y5
        go_roundw
        case rel => exact ⟨k + 1, by omega, by go_num, by rw [HKI.out]; have := H5.out; rw [HLEN.out] at this; exact this⟩
        case measure => simp [intOf]; omega
    · have hk2 : k = P.length := by omega
      have HK2 := hid hk2
      have hge : P.length ≤ k := by omega
      clear hk2
      go_wp2
      go_ret
      refine ⟨_, rfl, ?_⟩
      have hw := HV.out
      have e := woT_all P i hi
      rw [← HK2.out] at e
      rw [e] at hw HLEN
      rw [HLEN.out] at hw
      exact ⟨⟨vs1, hw, HV1.out⟩, HB.out⟩
end Go.Proofs.YtahpkknbejgnkaaDoor
