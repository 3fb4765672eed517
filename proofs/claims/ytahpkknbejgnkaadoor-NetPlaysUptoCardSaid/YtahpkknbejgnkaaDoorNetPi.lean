/- The document's network: Lose, Cut, Burst of one that is there; Copy. -/
import Derived.Test.YtahpkknbejgnkaaDoorNetPh
namespace Go.Proofs.YtahpkknbejgnkaaDoor
open Go.RowKit
theorem HV.fz {t : TypeId} {w : World} {S I : Nat → Prop} {d g n c : Nat} {vs : List Value} {P : List Pkt} (h : HV t w S I d (.slice (some ⟨g, 0, none⟩) n c) vs P) : ∀ i, w.frozen? ⟨g, i, none⟩ = false := by
  obtain ⟨_, ⟨h0, _⟩ | ⟨g', cap', cur, e, _, hg, _⟩⟩ := h.pv.row
  · cases h0
  · injection e with e1; injection e1 with e1; injection e1 with e1; subst e1; exact fun i => blk_frozen hg i
set_option maxRecDepth 100000 in
set_option maxHeartbeats 4000000 in
theorem rLose_ok (w : World) (S : Nat → Prop) (d : Nat) (P : List Pkt) (i : Nat) (p : Pkt) (h : RAt w S d P) (hp : P[i]? = some p) :
    Calls Tryd.prog 35 #[.pointer (some ⟨d, 0, none⟩), .int .i64 (i : Int)] w fun e w' => e = .returned (.int .i64 0) ∧ RAtt w w' S d (P.set i p.lose) := by
  have hi := (List.getElem?_eq_some_iff.1 hp).1
  have H := hid (there_yes w S d P i h hi)
  obtain ⟨I, fv, vs, hN⟩ := h
  obtain ⟨g, cap, rfl, hSg, hIg, hcap, hgl, hcell⟩ := hN.pv.lies (by omega)
  have c0 : w.cell? ⟨d, 0, none⟩ = some (.slice (some ⟨g, 0, none⟩) P.length cap) := by rw [blk_cell hN.at_]; rfl
  obtain ⟨u, hu, _, hc⟩ := hN.pv.get i hi
  have c5 : w.cell? ⟨g, i * 6 + 5, none⟩ = some (.bool P[i].lost) := (pk6 hc).2.2.2.2.2
  have f5 := hN.fz (i * 6 + 5)
  have hgd := hN.rd g rfl
  have R := hid (hN.turn ((Fr.set_ (g := g) (i * 6 + 5) (.bool true)).mono fun k _ e => ⟨e ▸ hSg, fun e2 => hgd (e ▸ e2)⟩) (hN.pv.lose hp) (fun k hk => .inl hk) hN.id)
  have i0 : (0 : Int) ≤ (i : Int) := by omega
  have i1 : (i : Int) < (P.length : Int) := by omega
  clear hN hcell hu hc hp
  go_enter Tryd.func35, Tryd.ntmps35
  go_wp2_with fail
  refine H.out.mono ?_
  rintro e w' ⟨rfl, hw⟩
  replace hw := hw.symm
  subst hw
  go_wp2
  go_ret
  exact ⟨rfl, R.out⟩
theorem cut_all {P : List Pkt} {i : Nat} {p : Pkt} (hp : P[i]? = some p) (n : Int) (hn : (p.data.length : Int) ≤ n) : P.set i (p.cut n) = P := by
  have e : p.cut n = p := by
    unfold Pkt.cut Pkt.with_
    rw [List.take_of_length_le (by omega)]
  rw [e]
  obtain ⟨hi, hpe⟩ := List.getElem?_eq_some_iff.1 hp
  rw [← hpe]
  exact List.set_getElem_self _
set_option maxRecDepth 100000 in
set_option maxHeartbeats 4000000 in
theorem rCut_ok (w : World) (S : Nat → Prop) (d : Nat) (P : List Pkt) (i : Nat) (p : Pkt) (n : Int) (h : RAt w S d P) (hp : P[i]? = some p) (hn : 0 ≤ n) (hn2 : n ≤ 9223372036854775807) (hl : p.data.length ≤ 140737488355328) :
    Calls Tryd.prog 33 #[.pointer (some ⟨d, 0, none⟩), .int .i64 (i : Int), .int .i64 n] w fun e w' => e = .returned (.int .i64 0) ∧ RAtt w w' S d (P.set i (p.cut n)) := by
  have hi := (List.getElem?_eq_some_iff.1 hp).1
  have H := hid (there_yes w S d P i h hi)
  have HH := hid h
  obtain ⟨I, fv, vs, hN⟩ := h
  obtain ⟨g, cap, rfl, hSg, hIg, hcap, hgl, hcell⟩ := hN.pv.lies (by omega)
  have c0 : w.cell? ⟨d, 0, none⟩ = some (.slice (some ⟨g, 0, none⟩) P.length cap) := by rw [blk_cell hN.at_]; rfl
  obtain ⟨u, hu, hsu, hc⟩ := hN.pv.get i hi
  obtain ⟨hi', hpe⟩ := List.getElem?_eq_some_iff.1 hp
  rw [hpe] at hsu hc
  obtain ⟨A, c, rfl⟩ := hsu.sl.form
  have c4 : w.cell? ⟨g, i * 6 + 4, none⟩ = some (.slice A p.data.length c) := (pk6 hc).2.2.2.2.1
  have f4 := hN.fz (i * 6 + 4)
  have hgd := hN.rd g rfl
  have i0 : (0 : Int) ≤ (i : Int) := by omega
  have i1 : (i : Int) < (P.length : Int) := by omega
  by_cases hnl : n < (p.data.length : Int)
  · obtain ⟨k, rfl⟩ : ∃ k : Nat, n = (k : Int) := ⟨n.toNat, by omega⟩
    have hkl : k ≤ p.data.length := by omega
    have hkc : k ≤ c := by
      obtain ⟨_, _, e, h1, _⟩ := hsu.sl
      injection e with e1 e2 e3
      omega
    have hnew : SlI w I (.slice A k c) (p.data.take k) := by
      have h1 : SlB w (.slice A (p.data.take k).length c) (p.data.take k) := by rw [List.length_take, Nat.min_eq_left hkl]; exact hsu.sl.take_ k hkl hkc
      rw [List.length_take, Nat.min_eq_left hkl] at h1
      exact ⟨h1, fun h0 k' hk' => hsu.i (by rw [List.length_take] at h0; omega) k' (by cases A <;> exact hk')⟩
    have hpv := hN.pv.data (u := .slice A k c) hp (Below.refl _ _) hnew (fun k hk => .inl hk)
    have R := hid (hN.turn ((Fr.set_ (g := g) (i * 6 + 4) (.slice A k c)).mono fun k _ e => ⟨e ▸ hSg, fun e2 => hgd (e ▸ e2)⟩) hpv (fun k hk => hk.elim .inl fun h => by have := h.1; have := h.2; omega) (fun e => e.elim hN.id hN.id))
    have HE : Hid (p.cut (k : Int) = p.with_ (p.data.take k)) := hid (by unfold Pkt.cut; rw [Int.toNat_natCast])
    have k1 : (k : Int) ≤ (c : Int) := by omega
    clear hN hcell hu hc hp hnew hpv hsu hpe
    generalize hlen : p.data.length = n2 at *
    clear hlen
    go_enter Tryd.func33, Tryd.ntmps33
    go_wp2_with fail
    refine H.out.mono ?_
    rintro e w' ⟨rfl, hw⟩
    replace hw := hw.symm
    subst hw
    go_upto_region 8 with (fail)
    go_region
    all_goals
      go_wp2
      go_ret
      refine ⟨rfl, ?_⟩
      rw [HE.out]
      exact R.out.then_ (drew_below _)
  · have HE := hid (cut_all hp n (by omega))
    have hnl2 : (p.data.length : Int) ≤ n := by omega
    clear hN hcell hu hc hp hsu hpe
    generalize hlen : p.data.length = n2 at *
    clear hlen
    go_enter Tryd.func33, Tryd.ntmps33
    go_wp2_with fail
    refine H.out.mono ?_
    rintro e w' ⟨rfl, hw⟩
    replace hw := hw.symm
    subst hw
    go_wp2
    go_ret
    refine ⟨rfl, ?_⟩
    rw [HE.out]
    exact Ht.stay (Below.refl _ _) HH.out
set_option maxRecDepth 100000 in
set_option maxHeartbeats 4000000 in
theorem rBurst_ok (w : World) (S : Nat → Prop) (d : Nat) (P : List Pkt) (i : Nat) (p : Pkt) (n : Nat) (pat : BitVec 32) (h : RAt w S d P) (hp : P[i]? = some p) (hn2 : n ≤ 9223372036854775807) (hl : p.data.length ≤ 140737488355328) :
    Calls Tryd.prog 31 #[.pointer (some ⟨d, 0, none⟩), .int .i64 (i : Int), .int .i64 (n : Int), W32 pat] w fun e w' => e = .returned (.int .i64 0) ∧ RAtt w w' S d (P.set i (p.with_ (Crc.turn n pat p.data))) := by
  have hi := (List.getElem?_eq_some_iff.1 hp).1
  have H := hid (there_yes w S d P i h hi)
  obtain ⟨I, fv, vs, hN⟩ := h
  have HN := hid hN
  obtain ⟨g, cap, rfl, hSg, hIg, hcap, hgl, hcell⟩ := hN.pv.lies (by omega)
  have c0 : w.cell? ⟨d, 0, none⟩ = some (.slice (some ⟨g, 0, none⟩) P.length cap) := by rw [blk_cell hN.at_]; rfl
  obtain ⟨u, hu, hsu, hc⟩ := hN.pv.get i hi
  obtain ⟨hi', hpe⟩ := List.getElem?_eq_some_iff.1 hp
  rw [hpe] at hsu hc
  obtain ⟨A, c, rfl⟩ := hsu.sl.form
  have c4 : w.cell? ⟨g, i * 6 + 4, none⟩ = some (.slice A p.data.length c) := (pk6 hc).2.2.2.2.1
  have f4 := hN.fz (i * 6 + 4)
  have hgd := hN.rd g rfl
  have hdl := hN.pv.lt d hN.sd
  have HP := hid hp
  have HL := hid (show SlB w (.slice A p.data.length c) p.data from hsu.sl)
  have i0 : (0 : Int) ≤ (i : Int) := by omega
  have i1 : (i : Int) < (P.length : Int) := by omega
  clear hN hcell hu hc hp hsu hpe
  go_enter Tryd.func31, Tryd.ntmps31
  go_wp2_with fail
  refine H.out.mono ?_
  rintro e w' ⟨rfl, hw⟩
  replace hw := hw.symm
  subst hw
  go_upto_region 7 with (fail)
  go_region_law (go_simp; go_at_call 42; refine (Turned_any (.slice A p.data.length c) p.data n pat hn2 w.drew (HL.out.drew) hl).mono ?_; rintro e w1 ⟨u, rfl, hu, hb0⟩; obtain ⟨A1, c1, rfl⟩ := hu.form; have HU := hid hu; have hb := below_then (drew_below w) hb0; have HB := hid hb; have k0 : w1.cell? ⟨d, 0, none⟩ = some (.slice (some ⟨g, 0, none⟩) P.length cap) := (hb.cell (p := ⟨d, 0, none⟩) hdl).trans c0; have k4 : w1.cell? ⟨g, i * 6 + 4, none⟩ = some (.slice A p.data.length c) := (hb.cell (p := ⟨g, i * 6 + 4, none⟩) hgl).trans c4; have l4 : w1.frozen? ⟨g, i * 6 + 4, none⟩ = false := (hb.frozen (p := ⟨g, i * 6 + 4, none⟩) hgl).trans f4; clear hu hb hb0)
  all_goals
    have hpv := HN.out.pv.data (u := .slice A1 (Crc.turn n pat p.data).length c1) (J := fun k => (Value.slice A1 (Crc.turn n pat p.data).length c1).ownBlock = some k ∧ w.heap.size ≤ k ∧ k < w1.heap.size) HP.out HB.out ⟨HU.out.sl, fun _ k hk => ⟨hk, World.ownsRow.lt HU.out k hk⟩⟩ (fun k hk => .inr hk.2)
    have R := hid (HN.out.turn (((Fr.of_below HB.out).mono fun _ _ h => h.elim).trans ((Fr.set_ (g := g) (i * 6 + 4) (.slice A1 (Crc.turn n pat p.data).length c1)).mono fun k _ e => .inl ⟨e ▸ hSg, fun e2 => hgd (e ▸ e2)⟩)) hpv (fun k hk => hk.elim .inl fun h => .inr ⟨h.1, by simpa using h.2⟩) (fun e => e.elim HN.out.id (fun e => by have := e.2.1; omega)))
    clear hpv
    go_wp2
    go_ret
    exact ⟨rfl, R.out⟩
theorem rCopy_any (w : World) (S : Nat → Prop) (d : Nat) (P : List Pkt) (h : RAt w S d P) (hl : ∀ p ∈ P, p.data.length ≤ 140737488355328) (hP : P.length ≤ 1099511627776) :
    Calls Tryd.prog 15 #[.pointer (some ⟨d, 0, none⟩)] w fun e w' => ∃ d', e = .returned (.pointer (some ⟨d', 0, none⟩)) ∧ RAt w' (Nw w w') d' P ∧ Below w.heap.size w w' := by
  have H := hid (rFlight_any w S d P h hl hP)
  clear h hl
  go_enter Tryd.func15, Tryd.ntmps15
  go_wp2_with fail
  refine H.out.mono ?_
  rintro e w1 ⟨v, rfl, hv, hb⟩
  have HV := hid hv
  have HB := hid hb
  obtain ⟨A, c, rfl⟩ := hv.form
  clear hv hb
  go_wp2
  go_ret
  exact ⟨w1.heap.size, rfl, HAt.box HB.out HV.out, HB.out.alloc HB.out.size _⟩
theorem rNew_any (w : World) : Calls Tryd.prog 13 #[] w fun e w' => ∃ d, e = .returned (.pointer (some ⟨d, 0, none⟩)) ∧ RAt w' (Nw w w') d [] ∧ Below w.heap.size w w' := by
  go_enter Tryd.func13, Tryd.ntmps13
  go_wp2
  go_ret
  exact ⟨w.heap.size, rfl, HAt.box (Below.refl _ _) ((PAt.nil w).fr (Fr.refl (fun _ => False) _) (fun _ h => h.elim) (fun _ h => h.elim) (fun k hk => hk.2)), (Below.refl _ _).alloc (Nat.le_refl _) _⟩
theorem New_nat (w : World) : Calls Tryd.prog 12 #[] w fun e w' => ∃ d, e = .returned (.pointer (some ⟨d, 0, none⟩)) ∧ NAt w' (Nw w w') d [] ∧ Below w.heap.size w w' := by
  go_enter Tryd.func12, Tryd.ntmps12
  go_wp2
  go_ret
  exact ⟨w.heap.size, rfl, NAt.iff.2 (HAt.box (Below.refl _ _) ((PAt.nil w).fr (Fr.refl (fun _ => False) _) (fun _ h => h.elim) (fun _ h => h.elim) (fun k hk => hk.2))), (Below.refl _ _).alloc (Nat.le_refl _) _⟩
end Go.Proofs.YtahpkknbejgnkaaDoor
