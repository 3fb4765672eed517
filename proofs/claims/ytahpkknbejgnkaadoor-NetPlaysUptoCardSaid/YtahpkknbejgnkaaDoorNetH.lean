/- Take. -/
import Derived.Test.YtahpkknbejgnkaaDoorNetG
import Derived.Deep.RegionHeld3
namespace Go.Proofs.YtahpkknbejgnkaaDoor
open Go.RowKit
theorem fr6 (w : World) (g : Nat) (a b c d e f : Value) : Fr (fun k => k = g) w ((((((w.setCell ⟨g, 0, none⟩ a).setCell ⟨g, 1, none⟩ b).setCell ⟨g, 2, none⟩ c).setCell ⟨g, 3, none⟩ d).setCell ⟨g, 4, none⟩ e).setCell ⟨g, 5, none⟩ f) :=
  (((((Fr.set_ 0 a).trans ((Fr.set_ 1 b).mono fun _ _ h => .inl h)).trans ((Fr.set_ 2 c).mono fun _ _ h => .inl h)).trans ((Fr.set_ 3 d).mono fun _ _ h => .inl h)).trans ((Fr.set_ 4 e).mono fun _ _ h => .inl h)).trans ((Fr.set_ 5 f).mono fun _ _ h => .inl h)
theorem set6 {w : World} {g : Nat} {t : TypeId} {a0 b0 c0 d0 e0 f0 : Value} (h : w.heap[g]? = some (.cells #[a0, b0, c0, d0, e0, f0] t (0, 0))) (a b c d e f : Value) :
    ((((((w.setCell ⟨g, 0, none⟩ a).setCell ⟨g, 1, none⟩ b).setCell ⟨g, 2, none⟩ c).setCell ⟨g, 3, none⟩ d).setCell ⟨g, 4, none⟩ e).setCell ⟨g, 5, none⟩ f).heap[g]? = some (.cells #[a, b, c, d, e, f] t (0, 0)) :=
  blk_set (blk_set (blk_set (blk_set (blk_set (blk_set h 0 a) 1 b) 2 c) 3 d) 4 e) 5 f
theorem Nt.after {w w1 w2 : World} {S : Nat → Prop} {d : Nat} {P : List Pkt} (hb : Below w.heap.size w w1) (h : Nt w1 w2 S d P) : Nt w w2 S d P :=
  ⟨h.1.fr (Fr.refl (fun _ => False) _) (fun _ _ h => h) (fun k hk => hk.imp id fun g => ⟨Nat.le_trans hb.size g.1, g.2⟩) (fun k hk => by
      rcases hk with hk | hk
      · exact h.1.lt k (.inl hk)
      · exact hk.2), ((Fr.of_below hb).mono fun _ _ h => h.elim).trans (h.2.mono fun k _ h => .inl h)⟩
theorem Nt.then_ {w w1 w2 : World} {S : Nat → Prop} {d : Nat} {P : List Pkt} (h : Nt w w1 S d P) (hb : Below w1.heap.size w1 w2) : Nt w w2 S d P :=
  ⟨(h.1.below hb).fr (Fr.refl (fun _ => False) _) (fun _ _ h => h) (fun k hk => hk.imp id fun g => ⟨g.1, Nat.lt_of_lt_of_le g.2 hb.size⟩) (fun k hk => by
      rcases hk with hk | hk
      · exact (h.1.below hb).lt k (.inl hk)
      · exact hk.2), h.2.trans ((Fr.of_below hb).mono fun _ _ h => h.elim)⟩
/-- a write into a block that is neither the network's nor elder -/
theorem Nt.set_ {w w1 w2 w3 : World} {S : Nat → Prop} {d g : Nat} {P : List Pkt} (hb : Below w.heap.size w w1) (h : Nt w1 w2 S d P) (hg : w.heap.size ≤ g) (hg2 : g < w1.heap.size) (hS : ∀ k, S k → k < w.heap.size) (hf : Fr (fun k => k = g) w2 w3) : Nt w w3 S d P := by
  have h3 : NAt w3 (fun k => S k ∨ Nw w1 w2 k) d P := h.1.fr hf (fun k hk e => by
    subst e
    rcases hk with hk | hk
    · have := hS k hk; omega
    · have := hk.1; omega) (fun _ h => h) (fun k hk => Nat.lt_of_lt_of_le (h.1.lt k hk) hf.size)
  refine ⟨h3.fr (Fr.refl (fun _ => False) _) (fun _ _ h => h) (fun k hk => hk.imp id fun g => ⟨Nat.le_trans hb.size g.1, Nat.lt_of_lt_of_le g.2 hf.size⟩) (fun k hk => by
      rcases hk with hk | hk
      · exact h3.lt k (.inl hk)
      · exact hk.2), ?_⟩
  exact (((Fr.of_below hb).mono fun _ _ h => h.elim).trans (h.2.mono fun k _ h => .inl h)).trans (hf.mono fun k _ e => .inr (by omega))
def pkt0 : Value := .agg #[.int .i64 0, .int .i64 0, .int .i64 0, .int .i64 0, .slice none 0 0, .bool false]
set_option maxHeartbeats 2000000 in
theorem Take_no (w : World) (S : Nat → Prop) (d : Nat) (P : List Pkt) (i : Int) (h : NAt w S d P) (hi : i < 0 ∨ (P.length : Int) ≤ i) :
    Calls Tryd.prog 6 #[.pointer (some ⟨d, 0, none⟩), .int .i64 i] w fun e w' => e = .returned (.tuple #[pkt0, .int .i64 50]) ∧ Below w.heap.size w w' := by
  have H := hid h
  obtain ⟨I, fv, vs, hN⟩ := h
  obtain ⟨Af, cf, rfl⟩ := own_form hN.row
  have hdl := hN.lt d hN.sd
  have c0 : w.cell? ⟨d, 0, none⟩ = some (.slice Af P.length cf) := by rw [blk_cell hN.at_]; rfl
  have HI := hid hi
  clear hN
  by_cases h0 : i < 0
  case' neg => have h1 : (P.length : Int) ≤ i := by omega
  all_goals
    clear hi
    go_enter Tryd.func6, Tryd.ntmps6
    go_upto_region 1 with (fail)
    refine Code.seen (fun W => W.heap[w.heap.size]? = some (.cells #[.int .i64 0, .int .i64 0, .int .i64 0, .int .i64 0, .slice none 0 0, .bool false] 32 (0, 0)) ∧ Below w.heap.size w W) ⟨heap_alloc_new _ _, (Below.refl _ _).alloc (Nat.le_refl _) _⟩ fun w1 Z1 => ?_
    have c1 : w1.cell? ⟨d, 0, none⟩ = some (.slice Af P.length cf) := (Z1.out.2.cell (p := ⟨d, 0, none⟩) hdl).trans c0
    have hfz : ∀ i, w1.frozen? ⟨w.heap.size, i, none⟩ = false := fun i => blk_frozen Z1.out.1 i
    obtain ⟨x0, x1, x2, x3, x4, x5⟩ := pk_at Z1.out.1
    clear c0
    go_wp2_with fail
    refine Calls.mono (befall_none _ S d P 0 i 0 0 (H.out.below Z1.out.2) HI.out) ?_
    rintro e w2 ⟨rfl, rfl⟩
    go_wp2_with fail
    have e0 := set6 Z1.out.1 (.int .i64 0) (.int .i64 0) (.int .i64 0) (.int .i64 0) (.slice none 0 0) (.bool false)
    have e1 := hid (Z1.out.2.trans ((fr6 w2 w.heap.size (.int .i64 0) (.int .i64 0) (.int .i64 0) (.int .i64 0) (.slice none 0 0) (.bool false)).to_below (fun k hk e => by omega) Z1.out.2.size))
    clear x0 x1 x2 x3 x4 x5 hfz c1
    generalize ((((((w2.setCell ⟨w.heap.size, 0, none⟩ (.int .i64 0)).setCell ⟨w.heap.size, 1, none⟩ (.int .i64 0)).setCell ⟨w.heap.size, 2, none⟩ (.int .i64 0)).setCell ⟨w.heap.size, 3, none⟩ (.int .i64 0)).setCell ⟨w.heap.size, 4, none⟩ (.slice none 0 0)).setCell ⟨w.heap.size, 5, none⟩ (.bool false)) = w5 at e0 e1 ⊢
    obtain ⟨q0, q1, q2, q3, q4, q5⟩ := pk_at e0
    clear e0
    refine bodyPost_ret (v := .tuple #[.agg #[.int .i64 0, .int .i64 0, .int .i64 0, .int .i64 0, .slice none 0 0, .bool false], .int .i64 50]) ?_ rfl ⟨rfl, e1.out⟩
    simp [results, Tryd.results6, go_sem, *]
end Go.Proofs.YtahpkknbejgnkaaDoor
