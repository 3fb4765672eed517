/- burst, cut, lose; what befalls; Copy. -/
import Derived.Test.YtahpkknbejgnkaaDoorNetPa
namespace Go.Proofs.YtahpkknbejgnkaaDoor
open Go.RowKit
set_option maxRecDepth 100000 in
set_option maxHeartbeats 4000000 in
theorem lose_at (w : World) (S : Nat → Prop) (d : Nat) (P : List Pkt) (i : Nat) (p : Pkt) (a : Int) (pat : Int) (h : NAt w S d P) (hp : P[i]? = some p) :
    Calls Tryd.prog 64 #[.pointer (some ⟨d, 0, none⟩), .int .i64 (i : Int), .int .i64 a, .int .u32 pat] w fun e w' => e = .returned (.int .i64 0) ∧ Nt w w' S d (P.set i p.lose) := by
  have hi := (List.getElem?_eq_some_iff.1 hp).1
  obtain ⟨I, fv, vs, hN⟩ := h
  obtain ⟨g, cap, rfl, hSg, hIg, hcap, hgl, hcell⟩ := hN.hv.pv.lies (by omega)
  have c0 : w.cell? ⟨d, 0, none⟩ = some (.slice (some ⟨g, 0, none⟩) P.length cap) := by rw [blk_cell hN.at_]; rfl
  obtain ⟨u, hu, _, hc⟩ := hN.hv.pv.get i hi
  have c5 : w.cell? ⟨g, i * 6 + 5, none⟩ = some (.bool P[i].lost) := (pk6 hc).2.2.2.2.2
  have f5 : w.frozen? ⟨g, i * 6 + 5, none⟩ = false := by
    obtain ⟨_, ⟨h0, _⟩ | ⟨g', cap', cur, e, _, hg, _⟩⟩ := hN.row
    · cases h0
    · injection e with e1; injection e1 with e1; injection e1 with e1; subst e1; exact blk_frozen hg _
  have hgd := (hN.r g rfl).2.2
  have R := hid (hN.hv.turn ((Fr.set_ (g := g) (i * 6 + 5) (.bool true)).mono fun k _ e => ⟨e ▸ hSg, fun e2 => hgd (e ▸ e2)⟩) (hN.hv.pv.lose hp) (fun k hk => .inl hk) hN.id)
  have i0 : (0 : Int) ≤ (i : Int) := by omega
  have i1 : (i : Int) < (P.length : Int) := by omega
  clear hN hcell hu hc hp
  go_enter Tryd.func64, Tryd.ntmps64
  go_wp2
  go_ret
  exact ⟨rfl, Nt.iff.2 R.out⟩
def cutE (n : Int) : Int := if n < 0 then 1 else 0
def Pkt.cut (p : Pkt) (n : Int) : Pkt := p.with_ (p.data.take n.toNat)
theorem cut_neg (w : World) (d : Nat) (i : Int) (n : Int) (pat : Int) (hn : n < 0) :
    Calls Tryd.prog 63 #[.pointer (some ⟨d, 0, none⟩), .int .i64 i, .int .i64 n, .int .u32 pat] w fun e w' => e = .returned (.int .i64 1) ∧ w' = w := by
  go_enter Tryd.func63, Tryd.ntmps63
  go_wp2
  go_ret
  exact ⟨rfl, rfl⟩
set_option maxRecDepth 100000 in
set_option maxHeartbeats 4000000 in
theorem cut_at (w : World) (S : Nat → Prop) (d : Nat) (P : List Pkt) (i : Nat) (p : Pkt) (n : Int) (pat : Int) (h : NAt w S d P) (hp : P[i]? = some p) (hn : 0 ≤ n) (hn2 : n ≤ 9223372036854775807) (hl : p.data.length ≤ 140737488355328) :
    Calls Tryd.prog 63 #[.pointer (some ⟨d, 0, none⟩), .int .i64 (i : Int), .int .i64 n, .int .u32 pat] w fun e w' => e = .returned (.int .i64 0) ∧ Nt w w' S d (P.set i (p.cut n)) := by
  have hi := (List.getElem?_eq_some_iff.1 hp).1
  obtain ⟨I, fv, vs, hN⟩ := h
  obtain ⟨g, cap, rfl, hSg, hIg, hcap, hgl, hcell⟩ := hN.hv.pv.lies (by omega)
  have c0 : w.cell? ⟨d, 0, none⟩ = some (.slice (some ⟨g, 0, none⟩) P.length cap) := by rw [blk_cell hN.at_]; rfl
  obtain ⟨u, hu, hsu, hc⟩ := hN.hv.pv.get i hi
  obtain ⟨hi', hpe⟩ := List.getElem?_eq_some_iff.1 hp
  rw [hpe] at hsu hc
  obtain ⟨A, c, rfl⟩ := hsu.sl.form
  have c4 : w.cell? ⟨g, i * 6 + 4, none⟩ = some (.slice A p.data.length c) := (pk6 hc).2.2.2.2.1
  have f4 : w.frozen? ⟨g, i * 6 + 4, none⟩ = false := by
    obtain ⟨_, ⟨h0, _⟩ | ⟨g', cap', cur, e, _, hg, _⟩⟩ := hN.row
    · cases h0
    · injection e with e1; injection e1 with e1; injection e1 with e1; subst e1; exact blk_frozen hg _
  have hgd := (hN.r g rfl).2.2
  obtain ⟨k, hk⟩ : ∃ k, k = min n.toNat p.data.length := ⟨_, rfl⟩
  have hkl : k ≤ p.data.length := by omega
  have hkc : k ≤ c := by
    obtain ⟨_, _, e, h1, _⟩ := hsu.sl
    injection e with e1 e2 e3
    omega
  have ht : p.data.take n.toNat = p.data.take k := by
    rcases Nat.le_total p.data.length n.toNat with h | h
    · rw [List.take_of_length_le h, List.take_of_length_le (by omega)]
    · rw [show k = n.toNat by omega]
  have hnew : SlI w I (.slice A k c) (p.data.take k) := by
    have h1 : SlB w (.slice A (p.data.take k).length c) (p.data.take k) := by rw [List.length_take, Nat.min_eq_left hkl]; exact hsu.sl.take_ k hkl hkc
    rw [List.length_take, Nat.min_eq_left hkl] at h1
    exact ⟨h1, fun h0 k' hk' => hsu.i (by rw [List.length_take] at h0; omega) k' (by cases A <;> exact hk')⟩
  have hpv := hN.hv.pv.data (u := .slice A k c) hp (Below.refl _ _) hnew (fun k hk => .inl hk)
  have R := hid (hN.hv.turn ((Fr.set_ (g := g) (i * 6 + 4) (.slice A k c)).mono fun k _ e => ⟨e ▸ hSg, fun e2 => hgd (e ▸ e2)⟩) hpv (fun k hk => hk.elim .inl fun h => by have := h.1; have := h.2; omega) (fun e => e.elim hN.id hN.id))
  have HT := hid ht
  have hmin : (if (p.data.length : Int) < n then (p.data.length : Int) else n) = (k : Int) := by split <;> omega
  have hmin2 : (if n < (p.data.length : Int) then n else (p.data.length : Int)) = (k : Int) := by split <;> omega
  have i0 : (0 : Int) ≤ (i : Int) := by omega
  have i1 : (i : Int) < (P.length : Int) := by omega
  have k1 : (k : Int) ≤ (c : Int) := by omega
  clear hN hcell hu hc hp hk ht hnew hpv hsu hpe
  generalize hlen : p.data.length = n2 at *
  clear hlen
  go_enter Tryd.func63, Tryd.ntmps63
  go_upto_region 4 with (fail)
  go_region
  all_goals
    go_wp2
    go_ret
    refine ⟨rfl, Nt.iff.2 ?_⟩
    unfold Pkt.cut
    rw [HT.out]
    exact R.out.then_ (drew_below _)
theorem burst_neg (w : World) (S : Nat → Prop) (d : Nat) (P : List Pkt) (i : Nat) (p : Pkt) (n : Int) (pat : BitVec 32) (h : NAt w S d P) (hp : P[i]? = some p) (hn : n < 0) :
    Calls Tryd.prog 62 #[.pointer (some ⟨d, 0, none⟩), .int .i64 (i : Int), .int .i64 n, W32 pat] w fun e w' => e = .returned (.int .i64 1) ∧ w' = w := by
  have hi := (List.getElem?_eq_some_iff.1 hp).1
  obtain ⟨I, fv, vs, hN⟩ := h
  obtain ⟨g, cap, rfl, hSg, hIg, hcap, hgl, hcell⟩ := hN.hv.pv.lies (by omega)
  have c0 : w.cell? ⟨d, 0, none⟩ = some (.slice (some ⟨g, 0, none⟩) P.length cap) := by rw [blk_cell hN.at_]; rfl
  obtain ⟨u, hu, hsu, hc⟩ := hN.hv.pv.get i hi
  obtain ⟨A, c, rfl⟩ := hsu.sl.form
  have c4 : w.cell? ⟨g, i * 6 + 4, none⟩ = some (.slice A P[i].data.length c) := (pk6 hc).2.2.2.2.1
  have i0 : (0 : Int) ≤ (i : Int) := by omega
  have i1 : (i : Int) < (P.length : Int) := by omega
  generalize P[i].data.length = ln at *
  clear hN hcell hu hc hp hsu
  go_enter Tryd.func62, Tryd.ntmps62
  go_wp2_with fail
  refine (Turn_neg _ n pat hn w ⟨_, _, _, rfl⟩).mono ?_
  rintro e w1 ⟨rfl, rfl⟩
  go_wp2
  go_ret
  exact ⟨rfl, rfl⟩
set_option maxRecDepth 100000 in
set_option maxHeartbeats 4000000 in
theorem burst_at (w : World) (S : Nat → Prop) (d : Nat) (P : List Pkt) (i : Nat) (p : Pkt) (n : Nat) (pat : BitVec 32) (h : NAt w S d P) (hp : P[i]? = some p) (hn2 : n ≤ 9223372036854775807) (hl : p.data.length ≤ 140737488355328) :
    Calls Tryd.prog 62 #[.pointer (some ⟨d, 0, none⟩), .int .i64 (i : Int), .int .i64 (n : Int), W32 pat] w fun e w' => e = .returned (.int .i64 0) ∧ Nt w w' S d (P.set i (p.with_ (Crc.turn n pat p.data))) := by
  have hi := (List.getElem?_eq_some_iff.1 hp).1
  obtain ⟨I, fv, vs, hN⟩ := h
  have HN := hid hN
  obtain ⟨g, cap, rfl, hSg, hIg, hcap, hgl, hcell⟩ := hN.hv.pv.lies (by omega)
  have c0 : w.cell? ⟨d, 0, none⟩ = some (.slice (some ⟨g, 0, none⟩) P.length cap) := by rw [blk_cell hN.at_]; rfl
  obtain ⟨u, hu, hsu, hc⟩ := hN.hv.pv.get i hi
  obtain ⟨hi', hpe⟩ := List.getElem?_eq_some_iff.1 hp
  rw [hpe] at hsu hc
  obtain ⟨A, c, rfl⟩ := hsu.sl.form
  have c4 : w.cell? ⟨g, i * 6 + 4, none⟩ = some (.slice A p.data.length c) := (pk6 hc).2.2.2.2.1
  have f4 : w.frozen? ⟨g, i * 6 + 4, none⟩ = false := by
    obtain ⟨_, ⟨h0, _⟩ | ⟨g', cap', cur, e, _, hg, _⟩⟩ := hN.row
    · cases h0
    · injection e with e1; injection e1 with e1; injection e1 with e1; subst e1; exact blk_frozen hg _
  have hgd := (hN.r g rfl).2.2
  have hdl := hN.lt d hN.sd
  have HP := hid hp
  have HL := hid (show SlB w (.slice A p.data.length c) p.data from hsu.sl)
  have i0 : (0 : Int) ≤ (i : Int) := by omega
  have i1 : (i : Int) < (P.length : Int) := by omega
  have HLE : Hid ((Crc.turn n pat p.data).length = p.data.length) := hid (Crc.turn_length _ _ _)
  clear hN hcell hu hc hp hsu hpe
  go_enter Tryd.func62, Tryd.ntmps62
  go_wp2_with fail
  refine (Turn_any (.slice A p.data.length c) p.data n pat hn2 w HL.out hl).mono ?_
  rintro e w1 ⟨u, rfl, hu, hb⟩
  obtain ⟨A1, c1, rfl⟩ := hu.form
  have HU := hid hu
  have HB := hid hb
  have k0 : w1.cell? ⟨d, 0, none⟩ = some (.slice (some ⟨g, 0, none⟩) P.length cap) := (hb.cell (p := ⟨d, 0, none⟩) hdl).trans c0
  have k4 : w1.cell? ⟨g, i * 6 + 4, none⟩ = some (.slice A p.data.length c) := (hb.cell (p := ⟨g, i * 6 + 4, none⟩) hgl).trans c4
  have l4 : w1.frozen? ⟨g, i * 6 + 4, none⟩ = false := (hb.frozen (p := ⟨g, i * 6 + 4, none⟩) hgl).trans f4
  have hpv := HN.out.hv.pv.data (u := .slice A1 (Crc.turn n pat p.data).length c1) (J := fun k => (Value.slice A1 (Crc.turn n pat p.data).length c1).ownBlock = some k ∧ w.heap.size ≤ k ∧ k < w1.heap.size) HP.out hb ⟨hu.sl, fun _ k hk => ⟨hk, World.ownsRow.lt hu k hk⟩⟩ (fun k hk => .inr hk.2)
  have R := hid (HN.out.hv.turn (((Fr.of_below hb).mono fun _ _ h => h.elim).trans ((Fr.set_ (g := g) (i * 6 + 4) (.slice A1 (Crc.turn n pat p.data).length c1)).mono fun k _ e => .inl ⟨e ▸ hSg, fun e2 => hgd (e ▸ e2)⟩)) hpv (fun k hk => hk.elim .inl fun h => .inr ⟨h.1, by simpa using h.2⟩) (fun e => e.elim HN.out.id (fun e => by have := e.2.1; omega)))
  clear c0 c4 f4 hu hb hpv
  go_wp2
  go_ret
  exact ⟨rfl, Nt.iff.2 R.out⟩
end Go.Proofs.YtahpkknbejgnkaaDoor
