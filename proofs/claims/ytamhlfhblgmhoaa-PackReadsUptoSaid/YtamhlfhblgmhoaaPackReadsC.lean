/- The state of the law PackReads: both readers and the book. -/
import Derived.Test.YtamhlfhblgmhoaaPkZ
import Derived.Test.YtamhlfhblgmhoaaPackWritesC
import Derived.Deep.RegionHeld3
namespace Go.Proofs.Ytamhlfhblgmhoaa
open Go.RowKit
def AR (g : Nat) (e : Int) (d : List UInt8) (k : Nat) (W : World) (ρ : Nat → Nat) : Prop := ∃ v, RAt W g e v d k ∧ ρ g = 4 ∧ ∀ b, v.ownBlock = some b → ρ b = 5
def AQ (g : Nat) (e : Int) (d : List UInt8) (k : Nat) (W : World) (ρ : Nat → Nat) : Prop := ∃ v, QAt W g e v d k ∧ ρ g = 6 ∧ ∀ b, v.ownBlock = some b → ρ b = 7
theorem RAt.lt {w : World} {g : Nat} {e : Int} {v : Value} {d : List UInt8} {k : Nat} (h : RAt w g e v d k) : ∀ b, v.ownBlock = some b → b < w.heap.size := fun b hb => (World.ownsRow.lt h.own b hb).2
theorem QAt.lt {w : World} {g : Nat} {e : Int} {v : Value} {d : List UInt8} {k : Nat} (h : QAt w g e v d k) : ∀ b, v.ownBlock = some b → b < w.heap.size := fun b hb => (World.ownsRow.lt h.own b hb).2
theorem AR.stab (g : Nat) (e : Int) (d : List UInt8) (k : Nat) : Stab 4 5 (AR g e d k) := by
  rintro X W W' ρ ρ' ⟨v, h, h1, h2⟩ hf hx hr
  exact ⟨v, h.fr hf (fun hh => (hx g (blk_lt h.at_) hh).1 h1) (fun k hk hh => (hx k (h.lt k hk) hh).2 (h2 k hk)), by rw [hr g (blk_lt h.at_) (.inl h1)]; exact h1, fun k hk => by rw [hr k (h.lt k hk) (.inr (h2 k hk))]; exact h2 k hk⟩
theorem AQ.stab (g : Nat) (e : Int) (d : List UInt8) (k : Nat) : Stab 6 7 (AQ g e d k) := by
  rintro X W W' ρ ρ' ⟨v, h, h1, h2⟩ hf hx hr
  exact ⟨v, h.fr hf (fun hh => (hx g (blk_lt h.at_) hh).1 h1) (fun k hk hh => (hx k (h.lt k hk) hh).2 (h2 k hk)), by rw [hr g (blk_lt h.at_) (.inl h1)]; exact h1, fun k hk => by rw [hr k (h.lt k hk) (.inr (h2 k hk))]; exact h2 k hk⟩
section
variable {K : Nat → Prop} {w0 W : World} {gb n g : Nat} {e e' : Int} {d : List UInt8} {k k' : Nat} {f : Nat} {args : Array Value} {A B : World → (Nat → Nat) → Prop}
theorem PWs.rcall {ret : Ending} (h : PWs K w0 W gb n (AR g e d k) B) (sb : Stab 6 7 B)
    (C : ∀ v, RAt W g e v d k → Calls Try.prog f args W fun r W' => r = ret ∧ RLeft W W' g v d e' k') :
    Calls Try.prog f args W fun r W' => r = ret ∧ PWs K w0 W' gb n (AR g e' d k') B := by
  obtain ⟨ρ, lv, mv, ls, ms, h, hn⟩ := h
  obtain ⟨v, ha, h1, h2⟩ := h.a
  refine (C v ha).mono ?_
  rintro r W' ⟨rfl, hv', hf⟩
  exact ⟨rfl, ρ, lv, mv, ls, ms, ⟨h.bk.fr hf (fun k hk hx => by subst hx; omega), ⟨v, hv', h1, h2⟩, sb _ _ _ _ _ h.b hf (fun k hk hx => by subst hx; omega) (fun _ _ _ => rfl), h.fr.trans (hf.mono fun k _ hx => .inl fun hk => by have := (h.rk k hk).1; subst hx; omega), h.rk, fun k hk => h.rf k (Nat.le_trans hf.size hk)⟩, hn⟩
theorem PWs.qcall {ret : Ending} (h : PWs K w0 W gb n A (AQ g e d k)) (sa : Stab 4 5 A)
    (C : ∀ v, QAt W g e v d k → Calls Try.prog f args W fun r W' => r = ret ∧ QLeft W W' g v d e' k') :
    Calls Try.prog f args W fun r W' => r = ret ∧ PWs K w0 W' gb n A (AQ g e' d k') := by
  obtain ⟨ρ, lv, mv, ls, ms, h, hn⟩ := h
  obtain ⟨v, ha, h1, h2⟩ := h.b
  refine (C v ha).mono ?_
  rintro r W' ⟨rfl, hv', hf⟩
  exact ⟨rfl, ρ, lv, mv, ls, ms, ⟨h.bk.fr hf (fun k hk hx => by subst hx; omega), sa _ _ _ _ _ h.a hf (fun k hk hx => by subst hx; omega) (fun _ _ _ => rfl), ⟨v, hv', h1, h2⟩, h.fr.trans (hf.mono fun k _ hx => .inl fun hk => by have := (h.rk k hk).1; subst hx; omega), h.rk, fun k hk => h.rf k (Nat.le_trans hf.size hk)⟩, hn⟩
theorem PWs.qbytes {L : List UInt8} (h : PWs K w0 W gb n A (AQ g e d k)) (sa : Stab 4 5 A)
    (C : ∀ v, QAt W g e v d k → Calls Try.prog f args W fun r W' => ∃ u, r = .returned u ∧ SlB W' u L ∧ QLeft W W' g v d e' k') :
    Calls Try.prog f args W fun r W' => ∃ u, r = .returned u ∧ SlB W' u L ∧ PWs K w0 W' gb n A (AQ g e' d k') := by
  obtain ⟨ρ, lv, mv, ls, ms, h, hn⟩ := h
  obtain ⟨v, ha, h1, h2⟩ := h.b
  refine (C v ha).mono ?_
  rintro r W' ⟨u, rfl, hu, hv', hf⟩
  exact ⟨u, rfl, hu, ρ, lv, mv, ls, ms, ⟨h.bk.fr hf (fun k hk hx => by subst hx; omega), sa _ _ _ _ _ h.a hf (fun k hk hx => by subst hx; omega) (fun _ _ _ => rfl), ⟨v, hv', h1, h2⟩, h.fr.trans (hf.mono fun k _ hx => .inl fun hk => by have := (h.rk k hk).1; subst hx; omega), h.rk, fun k hk => h.rf k (Nat.le_trans hf.size hk)⟩, hn⟩
theorem PWs.rbytes {L : List UInt8} (h : PWs K w0 W gb n (AR g e d k) B) (sb : Stab 6 7 B)
    (C : ∀ v, RAt W g e v d k → Calls Try.prog f args W fun r W' => ∃ A c, r = .returned (.slice A L.length c) ∧ OwnB W' W.heap.size (.slice A L.length c) L ∧ RLeft W W' g v d e' k') :
    Calls Try.prog f args W fun r W' => ∃ A c, r = .returned (.slice A L.length c) ∧ OwnB W' W.heap.size (.slice A L.length c) L ∧ Fr (fun k => ¬ K k) W W' ∧ PWs (fun k => K k ∨ (Value.slice A L.length c).ownBlock = some k) W' W' gb n (AR g e' d k') B := by
  obtain ⟨ρ, lv, mv, ls, ms, h, hn⟩ := h
  obtain ⟨v, ha, h1, h2⟩ := h.a
  refine (C v ha).mono ?_
  rintro r W' ⟨A, c, rfl, ho, hv', hf⟩
  have hg := fun k hk => World.ownsRow.lt ho k hk
  classical
  have hlt : ∀ k, k < W.heap.size → (if (Value.slice A L.length c).ownBlock = some k then 9 else ρ k) = ρ k := fun k hk => by
    rw [if_neg]
    intro hh
    have := (hg k hh).1
    omega
  have hgl := blk_lt ha.at_
  refine ⟨A, c, rfl, ho, hf.mono fun k _ hx hk => by have := (h.rk k hk).1; subst hx; omega, fun k => if (Value.slice A L.length c).ownBlock = some k then 9 else ρ k, lv, mv, ls, ms, ⟨(h.bk.role hlt).fr hf (fun k hk hx => by subst hx; rw [hlt _ hk]; omega), ⟨v, hv', (hlt g hgl).trans h1, fun b hb => (hlt b (ha.lt b hb)).trans (h2 b hb)⟩, sb _ _ _ _ _ h.b hf (fun k hk hx => by subst hx; omega) (fun k hk _ => hlt k hk), Fr.refl _ _, ?_, ?_⟩, hn⟩
  · rintro k (hk | hk)
    · have h3 := h.rk k hk
      have h4 := h.fr.size
      have h5 := hf.size
      exact ⟨(hlt k (by omega)).trans h3.1, by omega⟩
    · exact ⟨if_pos hk, (hg k hk).2⟩
  · intro k hk
    refine (if_neg fun hh => ?_).trans (h.rf k (Nat.le_trans hf.size hk))
    have := (hg k hh).2
    omega
theorem PWs.rErr (h : PWs K w0 W gb n (AR g e d k) B) : Calls Try.prog 18 #[.pointer (some ⟨g, 0, none⟩)] W fun r w' => r = .returned (.int .i64 e) ∧ w' = W := by
  obtain ⟨ρ, lv, mv, ls, ms, h, hn⟩ := h
  obtain ⟨v, ha, _⟩ := h.a
  exact rErr_any g e v d k W ha
theorem PWs.rAt (h : PWs K w0 W gb n (AR g e d k) B) : Calls Try.prog 19 #[.pointer (some ⟨g, 0, none⟩)] W fun r w' => r = .returned (.int .i64 k) ∧ w' = W := by
  obtain ⟨ρ, lv, mv, ls, ms, h, hn⟩ := h
  obtain ⟨v, ha, _⟩ := h.a
  exact rAt_any g e v d k W ha
theorem PWs.qErr (h : PWs K w0 W gb n A (AQ g e d k)) : Calls Try.prog 60 #[.pointer (some ⟨g, 0, none⟩)] W fun r w' => r = .returned (.int .i64 e) ∧ w' = W := by
  obtain ⟨ρ, lv, mv, ls, ms, h, hn⟩ := h
  obtain ⟨v, ha, _⟩ := h.b
  exact qErr_any g e v d k W ha
theorem PWs.qAt (h : PWs K w0 W gb n A (AQ g e d k)) : Calls Try.prog 61 #[.pointer (some ⟨g, 0, none⟩)] W fun r w' => r = .returned (.int .i64 k) ∧ w' = W := by
  obtain ⟨ρ, lv, mv, ls, ms, h, hn⟩ := h
  obtain ⟨v, ha, _⟩ := h.b
  exact qAt_any g e v d k W ha
end
/-- the state of both readers -/
abbrev RS (K : Nat → Prop) (w0 W : World) (gr gq gb n : Nat) (e : Int) (d : List UInt8) (k : Nat) : Prop := PWs K w0 W gb n (AR gr e d k) (AQ gq e d k)
structure FrontR (K : Nat → Prop) (w0 W1 : World) (gx gr gq gb n : Nat) (e : Int) (d : List UInt8) (k : Nat) (o : POp) (ov : Value) : Prop where
  s : RS (fun k => K k ∨ k = gx) W1 W1 gr gq gb n e d k
  box : W1.heap[gx]? = some (.cells #[.int .i64 o.kind, .int .i64 o.n, B o.b, ov, .string o.s] 41 (0, 0))
  fr : Fr (fun k => ¬ K k) w0 W1
  lt : ∀ k, K k → k < w0.heap.size
section
variable {K : Nat → Prop} {w0 W W1 : World} {gx gr gq gb n : Nat} {e : Int} {d : List UInt8} {k : Nat} {o : POp} {ov : Value}
theorem FrontR.mk' (h : RS K w0 W gr gq gb n e d k) (o : POp) (ov : Value) :
    FrontR K w0 (W.alloc (.cells #[.int .i64 o.kind, .int .i64 o.n, B o.b, ov, .string o.s] 41)) W.heap.size gr gq gb n e d k o ov := by
  have hb : Below W.heap.size W (W.alloc (.cells #[.int .i64 o.kind, .int .i64 o.n, B o.b, ov, .string o.s] 41)) := (Below.refl _ _).alloc (Nat.le_refl _) _
  exact ⟨h.take (AR.stab _ _ _ _) (AQ.stab _ _ _ _) hb (fun k => k = W.heap.size) (fun k hk => by subst hk; simp), heap_alloc_new _ _, h.fr.trans ((Fr.of_below hb).mono fun _ _ h => h.elim), h.lt⟩
theorem FrontR.cell (h : FrontR K w0 W1 gx gr gq gb n e d k o ov) {K1 : Nat → Prop} {W : World} (hf : Fr (fun k => ¬ K1 k) W1 W) (hK : K1 gx) : W.cell? ⟨gx, 1, none⟩ = some (.int .i64 o.n) := by
  rw [blk_cell (blk_fr hf h.box (fun hh => hh hK))]; rfl
theorem FrontR.back (h : FrontR K w0 W1 gx gr gq gb n e d k o ov) {K1 : Nat → Prop} {W : World} {n' : Nat} {e' : Int} {k' : Nat} (hs : RS K1 W1 W gr gq gb n' e' d k') (hK : ∀ k, K k → K1 k) : RS K w0 W gr gq gb n' e' d k' :=
  PWs.drop hs hK h.lt h.fr
end
def TPost (K : Nat → Prop) (w0 : World) (gr gq gb n : Nat) (d : List UInt8) (r : Ending) (W' : World) : Prop :=
  r = .returned (.bool true) ∧ ∃ e' k' n', RS K w0 W' gr gq gb n' e' d k' ∧ n' ≤ n + 1
end Go.Proofs.Ytamhlfhblgmhoaa
