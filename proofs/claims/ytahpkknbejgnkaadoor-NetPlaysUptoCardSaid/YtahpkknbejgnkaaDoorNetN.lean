/- The law's helpers: samePacket, same. -/
import Derived.Test.YtahpkknbejgnkaaDoorNetL
namespace Go.Proofs.YtahpkknbejgnkaaDoor
open Go.RowKit
set_option maxRecDepth 100000 in
set_option maxHeartbeats 2000000 in
theorem samePacket_yes (p : Pkt) (u v : Value) (w : World) (hu : SlB w u p.data) (hv : SlB w v p.data) :
    Calls Tryd.prog 7 #[p.val u, p.val v] w fun e w' => e = .returned (.bool true) ∧ Below w.heap.size w w' := by
  obtain ⟨fk, fi, tk, ti, l, lost⟩ := p
  obtain ⟨A, c, rfl⟩ := hu.form
  obtain ⟨A2, c2, rfl⟩ := hv.form
  have HU := hid hu
  have HV := hid hv
  unfold Pkt.val
  simp only
  clear hu hv
  go_enter Tryd.func7, Tryd.ntmps7
  go_upto_region 1 with (fail)
  refine Code.seen (fun W => W.heap[w.heap.size]? = some (.cells #[.int .i64 fk, .int .i64 fi, .int .i64 tk, .int .i64 ti, .slice A l.length c, .bool lost] 32 (0, 0)) ∧ W.heap[w.heap.size + 1]? = some (.cells #[.int .i64 fk, .int .i64 fi, .int .i64 tk, .int .i64 ti, .slice A2 l.length c2, .bool lost] 32 (0, 0)) ∧ Below w.heap.size w W) ⟨?_, ?_, ((Below.refl _ _).alloc (Nat.le_refl _) _).alloc (by simp) _⟩ fun w1 Z1 => ?_
  · exact (heap_alloc_old _ _ (by simp)).trans (heap_alloc_new _ _)
  · have := heap_alloc_new (w.alloc (.cells #[.int .i64 fk, .int .i64 fi, .int .i64 tk, .int .i64 ti, .slice A l.length c, .bool lost] 32)) (.cells #[.int .i64 fk, .int .i64 fi, .int .i64 tk, .int .i64 ti, .slice A2 l.length c2, .bool lost] 32)
    simpa using this
  obtain ⟨x0, x1, x2, x3, x4, x5⟩ := pk_at Z1.out.1
  obtain ⟨y0, y1, y2, y3, y4, y5⟩ := pk_at Z1.out.2.1
  have k1 := conv_str (HU.out.below Z1.out.2.2)
  have k2 := conv_str (HV.out.below Z1.out.2.2)
  go_wp2_with fail
  go_ret
  exact ⟨rfl, Z1.out.2.2⟩
/-- a list of datagrams that can be read at v -/
def RdP (w : World) (v : Value) (P : List Pkt) : Prop :=
  ∃ A c, v = .slice A P.length c ∧ (0 < P.length → ∃ g off, A = some ⟨g, off, none⟩ ∧ ∀ (i : Nat) (hi : i < P.length), ∃ u, SlB w u P[i].data ∧ ∀ j x, (P[i].cells u)[j]? = some x → w.cell? ⟨g, off + i * 6 + j, none⟩ = some x)
theorem RdP.below {w w1 : World} {v : Value} {P : List Pkt} (h : RdP w v P) (hb : Below w.heap.size w w1) : RdP w1 v P := by
  obtain ⟨A, c, rfl, h⟩ := h
  refine ⟨A, c, rfl, fun h0 => ?_⟩
  obtain ⟨g, off, rfl, h2⟩ := h h0
  refine ⟨g, off, rfl, fun i hi => ?_⟩
  obtain ⟨u, hu, hc⟩ := h2 i hi
  exact ⟨u, hu.below hb, fun j x hx => (hb.cell (World.block_lt_of_cell? w _ (hc j x hx))).trans (hc j x hx)⟩
theorem PAt.rd {w : World} {T : Nat → Prop} {v : Value} {P : List Pkt} (h : PAt w T v P) : RdP w v P := by
  obtain ⟨I, vs, h⟩ := h
  by_cases h0 : 0 < P.length
  · obtain ⟨g, cap, rfl, _⟩ := h.lies h0
    refine ⟨_, _, rfl, fun _ => ⟨g, 0, rfl, fun i hi => ?_⟩⟩
    obtain ⟨u, _, hu, hc⟩ := h.get i hi
    exact ⟨u, hu.sl, fun j x hx => by rw [Nat.zero_add]; exact hc j x hx⟩
  · obtain ⟨A, c, rfl⟩ := own_form h.row
    exact ⟨A, c, rfl, fun h1 => absurd h1 h0⟩
set_option maxRecDepth 100000 in
set_option maxHeartbeats 2000000 in
theorem same_yes (P : List Pkt) (u v : Value) (w : World) (hu : RdP w u P) (hv : RdP w v P) (hP : P.length ≤ 1099511627776) :
    Calls Tryd.prog 18 #[u, v] w fun e w' => e = .returned (.bool true) ∧ Below w.heap.size w w' := by
  obtain ⟨A, c, rfl, hu⟩ := hu
  obtain ⟨A2, c2, rfl, hv⟩ := hv
  have HU := hid hu
  have HV := hid hv
  clear hu hv
  go_enter Tryd.func18, Tryd.ntmps18
  go_wp2
  go_loopw [13] (fun i wr => ∃ k : Nat, k ≤ P.length ∧ i = .int .i64 k ∧ Below w.heap.size w wr) (fun i _ => P.length - (intOf i).toNat)
  case atStart => exact ⟨0, by omega, rfl, Below.refl _ _⟩
  case round =>
    obtain ⟨k, hk, rfl, hB⟩ := hrel
    have HB := hid hB
    clear hB
    by_cases hlt : k < P.length
    · obtain ⟨g, off, rfl, h1⟩ := HU.out (by omega)
      obtain ⟨g2, off2, rfl, h2⟩ := HV.out (by omega)
      obtain ⟨u, hu, hc⟩ := h1 k hlt
      obtain ⟨v, hv, hc2⟩ := h2 k hlt
      obtain ⟨p, hp⟩ : ∃ p, p = P[k] := ⟨_, rfl⟩
      rw [← hp] at hu hv hc hc2
      have X := pk6 (w := wr) (g := g) (k := off + k * 6) (p := p) (u := u) (fun j x hx => (HB.out.cell (World.block_lt_of_cell? w _ (hc j x hx))).trans (hc j x hx))
      have Y := pk6 (w := wr) (g := g2) (k := off2 + k * 6) (p := p) (u := v) (fun j x hx => (HB.out.cell (World.block_lt_of_cell? w _ (hc2 j x hx))).trans (hc2 j x hx))
      have HS := hid (And.intro (hu.below HB.out) (hv.below HB.out))
      obtain ⟨fk, fi, tk, ti, l, lost⟩ := p
      obtain ⟨Au, cu, rfl⟩ := hu.form
      obtain ⟨Av, cv, rfl⟩ := hv.form
      obtain ⟨x0, x1, x2, x3, x4, x5⟩ := X
      obtain ⟨y0, y1, y2, y3, y4, y5⟩ := Y
      simp only at x0 x1 x2 x3 x4 x5 y0 y1 y2 y3 y4 y5
      clear h1 h2 hc hc2 hu hv hp HU HV
      have i0 : (0 : Int) ≤ (k : Int) := by omega
      have i1 : (k : Int) < (P.length : Int) := by omega
      go_wp2
      go_region_law (go_simp; go_at_call 7; refine (samePacket_yes ⟨fk, fi, tk, ti, l, lost⟩ (.slice Au l.length cu) (.slice Av l.length cv) wr.drew (HS.out.1.drew) (HS.out.2.drew)).mono ?_; rintro e w2 ⟨rfl, hb2⟩; have HB2 := hid (below_then HB.out (below_then (drew_below wr) hb2)); clear hb2)
      all_goals
        go_wp2
        exact ⟨⟨k + 1, by omega, by go_num, HB2.out⟩, by simp [intOf]; omega⟩
    · have hge : P.length ≤ k := by omega
      go_wp2
      go_ret
      exact ⟨rfl, HB.out⟩
end Go.Proofs.YtahpkknbejgnkaaDoor
