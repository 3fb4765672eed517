/- Flight: all in flight, copied. -/
import Derived.Test.YtahpkknbejgnkaaDoorNetJ
namespace Go.Proofs.YtahpkknbejgnkaaDoor
open Go.RowKit
theorem make_pkts0 (w : World) (n : Nat) (hn : n ≤ 1099511627776) : ∃ w', (Instr.makeSlice 25 (.int .i64 0) (.int .i64 (n : Int))).run Tryd.prog w = .ok (.slice (some ⟨w.heap.size, 0, none⟩) 0 n) w' ∧
    w'.ownsRow w.heap.size 32 6 (.slice (some ⟨w.heap.size, 0, none⟩) 0 n) 0 [] ∧ Below w.heap.size w w' := by
  obtain ⟨i, hi, hz0, hz1, hz2⟩ := info_parts infoK
  obtain ⟨w', h1, h2, h3⟩ := run_make_own (P := Tryd.prog) w w.heap.size 25 32 i _ 6 Tryd.underlying25 hi hz0 hz1 .i64 .i64 n (by rw [hz2]; omega) (by unfold maxLen; omega) (Nat.le_refl _)
  exact ⟨w', h1, h2, (Below.refl _ _).grown h3 (Nat.le_refl _) (fun k hk => by cases hk)⟩
theorem Flight_nil (w : World) : Calls Tryd.prog 19 #[.pointer none] w fun e w' => e = .returned (.slice none 0 0) ∧ w' = w := by
  go_enter Tryd.func19, Tryd.ntmps19
  go_wp2
  go_ret
  exact ⟨rfl, rfl⟩
/-- the list so far -/
def FlR (w wr : World) (v : Value) (Q : List Pkt) : Prop := (∃ I vs, PV wr (Nw w wr) I v vs Q) ∧ Below w.heap.size w wr
theorem FlR.more {w wr w2 w3 w4 : World} {g cap : Nat} {v u : Value} {vs : List Value} {Q : List Pkt} {p : Pkt} {I : Nat → Prop} (h : PV wr (Nw w wr) I v vs Q) (hB : Below w.heap.size w wr) (hb : Below wr.heap.size wr w2) (hu : OwnB w2 wr.heap.size u p.data) (hb3 : Below w2.heap.size w2 w3)
    (hown : w4.ownsRow 0 32 6 (.slice (some ⟨g, 0, none⟩) (Q.length + 1) cap) (Q.length + 1) (pktCells vs Q ++ p.cells u)) (hg : w3.grownBy w4 v.ownBlock) (hat : v.ownBlock = some g ∨ g = w3.heap.size) : FlR w w4 (.slice (some ⟨g, 0, none⟩) (Q.length + 1) cap) (Q ++ [p]) := by
  have h1 := h.more hb (J := fun k => u.ownBlock = some k ∧ wr.heap.size ≤ k ∧ k < w2.heap.size) ⟨hu.sl, fun _ k hk => ⟨hk, World.ownsRow.lt hu k hk⟩⟩ (fun k hk => .inr hk.2) hb3 hown hg (hat.imp id (fun e => by have := hb3.size; omega))
  refine ⟨⟨_, _, h1.1.fr (Fr.refl (fun _ => False) _) (fun _ _ h => h) (fun k hk => ?_) (fun k hk => hk.2)⟩, hB.trans (h1.2.to_below (B := w.heap.size) (fun k hk e => ?_) hB.size)⟩
  · rcases hk with hk | hk
    · exact ⟨hk.1, Nat.lt_of_lt_of_le hk.2 h1.2.size⟩
    · exact ⟨Nat.le_trans hB.size hk.1, hk.2⟩
  · have := (h.r k e).1.1; omega
set_option maxRecDepth 100000 in
set_option maxHeartbeats 4000000 in
theorem Flight_any (w : World) (S : Nat → Prop) (d : Nat) (P : List Pkt) (h : NAt w S d P) (hl : ∀ p ∈ P, p.data.length ≤ 140737488355328) (hP : P.length ≤ 1099511627776) :
    Calls Tryd.prog 19 #[.pointer (some ⟨d, 0, none⟩)] w fun e w' => ∃ v, e = .returned v ∧ PAt w' (Nw w w') v P ∧ Below w.heap.size w w' := by
  obtain ⟨I, fv, vs, hN⟩ := h
  have HN := hid hN
  have HL := hid hl
  obtain ⟨Af, cf, rfl⟩ := own_form hN.row
  have hdl : d < w.heap.size := hN.lt d hN.sd
  have c0 : w.cell? ⟨d, 0, none⟩ = some (.slice Af P.length cf) := by rw [blk_cell hN.at_]; rfl
  obtain ⟨w1, hmk, ho, hb⟩ := make_pkts0 w P.length hP
  have HB1 := hid hb
  have HO1 := hid ho
  have c1 : w1.cell? ⟨d, 0, none⟩ = some (.slice Af P.length cf) := (hb.cell (p := ⟨d, 0, none⟩) hdl).trans c0
  obtain ⟨i0, hi0, hz0, hz1, hz2⟩ := info_parts infoK
  clear hN hl hb ho
  go_enter Tryd.func19, Tryd.ntmps19
  go_wp2
  clear c0 c1 hmk
  go_loopw [3, 19] (fun v i wr => ∃ k : Nat, k ≤ P.length ∧ i = .int .i64 k ∧ FlR w wr v (P.take k)) (fun _ i _ => P.length - (intOf i).toNat)
  case atStart => exact ⟨0, by omega, rfl, ⟨fun _ => False, [], rfl, own_base HO1.out (Nat.zero_le _), fun i u p hu hp => by simp at hu, fun _ h => h.elim, fun k hk => hk.2, fun k hk => ⟨⟨(World.ownsRow.lt HO1.out k hk).1, (World.ownsRow.lt HO1.out k hk).2⟩, fun h => h⟩⟩, HB1.out⟩
  case round =>
    obtain ⟨k, hk, rfl, ⟨I1, vs1, hPV⟩, hB⟩ := hrel
    obtain ⟨Ao, co, rfl⟩ := own_form hPV.row
    have HV := hid hPV
    have HB := hid hB
    have hlen : (P.take k).length = k := by rw [List.length_take]; omega
    have HLEN := hid hlen
    rw [hlen]
    clear hPV hB hlen
    by_cases hlt : k < P.length
    · obtain ⟨g, cap, e, _, _, hcap, hgl, _⟩ := (show PV w S I (.slice Af P.length cf) vs P from ⟨HN.out.len, HN.out.row, HN.out.each, HN.out.is, HN.out.lt, fun k hk => ⟨(HN.out.r k hk).1, (HN.out.r k hk).2.1⟩⟩).lies (by omega)
      injection e with e1 e2 e3
      subst e1 e3
      obtain ⟨u0, hu0, hc⟩ := HN.out.get k hlt
      have hpl := HL.out _ (List.getElem_mem hlt)
      have HTK := hid (List.take_succ_eq_append_getElem hlt)
      obtain ⟨p, hp⟩ : ∃ p, p = P[k] := ⟨_, rfl⟩
      rw [← hp] at hu0 hc hpl HTK
      obtain ⟨fk, fi, tk, ti, l, lost⟩ := p
      simp only at hpl
      have HV0 : Hid (SlB wr u0 l) := hid ((hu0.fr (I' := I) (Fr.of_below (HB.out.mono (Nat.le_refl _))) (fun _ _ h => h) (fun _ h => h)).sl)
      obtain ⟨A, c, rfl⟩ := HV0.out.form
      obtain ⟨x0, x1, x2, x3, x4, x5⟩ := pk6 (w := wr) (g := g) (k := k * 6) (p := ⟨fk, fi, tk, ti, l, lost⟩) (u := .slice A l.length c) (fun j v hj => (HB.out.cell (p := ⟨g, k * 6 + j, none⟩) hgl).trans (hc j v hj))
      clear hc hu0 hp
      have hk' : k < P.length := hlt
      go_upto_region 7 with (fail)
      refine Code.seen (fun W => W.heap[wr.heap.size]? = some (.cells #[.int .i64 fk, .int .i64 fi, .int .i64 tk, .int .i64 ti, .slice A l.length c, .bool lost] 32 (0, 0)) ∧ Below wr.heap.size wr W) ⟨heap_alloc_new _ _, (Below.refl _ _).alloc (Nat.le_refl _) _⟩ fun w2 Z2 => ?_
      obtain ⟨y0, y1, y2, y3, y4, y5⟩ := pk_at Z2.out.1
      clear x0 x1 x2 x3 x4 x5
      go_wp2_with fail
      refine (copied_at fk fi tk ti l lost _ w2 (HV0.out.below Z2.out.2) hpl).mono ?_
      rintro e w3 ⟨u, rfl, hu, hb3⟩
      obtain ⟨Au, cu, rfl⟩ := hu.form
      have HU := hid hu
      have HB3 := hid (below_then Z2.out.2 hb3)
      have HOX := hid (own_fr HV.out.row (Fr.of_below HB3.out) (fun _ _ h => h))
      have HS2 := hid Z2.out.2.size
      rw [HLEN.out] at HOX
      clear hu hb3 y0 y1 y2 y3 y4 y5 Z2
      go_wp2_with (at_builtin; refine wpList_append_lies _ rfl (.tmp 23) (.tmp 26) 25 rfl 0 32 i0 _ 6 64 Tryd.underlying25 hi0 hz0 hz1 hz2 rfl (by omega) (.slice Ao k co) k _ rfl (HOX.out.alloc _) ⟨w3.heap.size, 0, none⟩ 1 1 [.int .i64 fk, .int .i64 fi, .int .i64 tk, .int .i64 ti, .slice Au l.length cu, .bool lost] rfl rfl (World.news_of_block (cs := #[.int .i64 fk, .int .i64 fi, .int .i64 tk, .int .i64 ti, .slice Au l.length cu, .bool lost]) (t := 32) (fr := (0, 0)) (heap_alloc_new w3 _)) (by simp [Value.oneCell']) (by omega) (by unfold maxLen; omega) (by omega) (Nat.zero_le _) (w3.heap.size + 1) (by simp) ?_; intro g2 cap2 w5 hown5 hgrow hat hlt5; have H5 := hid (FlR.more (p := ⟨fk, fi, tk, ti, l, lost⟩) HV.out HB.out HB3.out (own_base HU.out HS2.out) ((Below.refl _ _).alloc (Nat.le_refl _) _) (by rw [HLEN.out]; exact hown5) (by rw [HLEN.out]; exact hgrow) (hat.imp (fun e => by rw [HLEN.out]; exact e) (fun e => by rw [e]; simp))); clear hown5 hgrow hat hlt5)
      go_roundw
      case rel => exact ⟨k + 1, by omega, by go_num, by rw [HTK.out]; have := H5.out; rw [HLEN.out] at this; exact this⟩
      case measure => simp [intOf]; omega
    · have hk2 : k = P.length := by omega
      have HK2 := hid hk2
      have hge : P.length ≤ k := by omega
      clear hk2
      go_wp2
      go_ret
      exact ⟨_, rfl, ⟨I1, vs1, by have := HV.out; rw [HLEN.out] at this; rw [List.take_of_length_le (by have := HK2.out; omega)] at this; exact this⟩, HB.out⟩
end Go.Proofs.YtahpkknbejgnkaaDoor
