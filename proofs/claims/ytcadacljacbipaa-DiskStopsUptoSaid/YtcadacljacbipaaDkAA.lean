/- Two disks that have nothing to do with one another, and blocks of the law's own. -/
import Derived.Test.YtcadacljacbipaaDiskLastsW
namespace Go.Proofs.Ytcadacljacbipaa
open Go.RowKit
/-- disks at a and b in blocks of their own from B on, none of them in K; below B all is as in w0 -/
def Duo (K : Nat → Prop) (B : Nat) (w0 w : World) (a : Nat) (A : Dk) (b : Nat) (D : Dk) : Prop :=
  ∃ S T, DAt w S a A ∧ DAt w T b D ∧ (∀ k, S k → B ≤ k ∧ ¬ K k) ∧ (∀ k, T k → B ≤ k ∧ ¬ K k ∧ ¬ S k) ∧ Below B w0 w ∧ B ≤ w.heap.size ∧ (∀ k, K k → k < w.heap.size)
section
variable {K : Nat → Prop} {B : Nat} {w0 w w' : World} {a b : Nat} {A D A' D' : Dk}
theorem Duo.base (h : Duo K B w0 w a A b D) : Below B w0 w := by obtain ⟨S, T, h⟩ := h; exact h.2.2.2.2.1
theorem Duo.size (h : Duo K B w0 w a A b D) : B ≤ w.heap.size := by obtain ⟨S, T, h⟩ := h; exact h.2.2.2.2.2.1
theorem Duo.swap (h : Duo K B w0 w a A b D) : Duo K B w0 w b D a A := by
  obtain ⟨S, T, h1, h2, h3, h4, h5⟩ := h
  exact ⟨T, S, h2, h1, fun k hk => ⟨(h4 k hk).1, (h4 k hk).2.1⟩, fun k hk => ⟨(h3 k hk).1, (h3 k hk).2, fun e => (h4 k e).2.2 hk⟩, h5⟩
theorem Duo.below (h : Duo K B w0 w a A b D) (hb : Below w.heap.size w w') : Duo K B w0 w' a A b D := by
  obtain ⟨S, T, h1, h2, h3, h4, h5, h6, h7⟩ := h
  exact ⟨S, T, h1.below hb, h2.below hb, h3, h4, h5.trans (hb.mono h6), Nat.le_trans h6 hb.size, fun k hk => Nat.lt_of_lt_of_le (h7 k hk) hb.size⟩
theorem Duo.forget (h : Duo K B w0 w a A b D) : Duo (fun _ => False) B w0 w a A b D := by
  obtain ⟨S, T, h1, h2, h3, h4, h5, h6, h7⟩ := h
  exact ⟨S, T, h1, h2, fun k hk => ⟨(h3 k hk).1, fun h => h⟩, fun k hk => ⟨(h4 k hk).1, fun h => h, (h4 k hk).2.2⟩, h5, h6, fun _ h => h.elim⟩
/-- a block of the law's own is laid -/
theorem Duo.lay {w1 : World} (h : Duo (fun _ => False) B w0 w a A b D) (hb : Below w.heap.size w w1) : Duo (fun k => w.heap.size ≤ k ∧ k < w1.heap.size) B w0 w1 a A b D := by
  obtain ⟨S, T, h1, h2, h3, h4, h5, h6, h7⟩ := h
  refine ⟨S, T, h1.below hb, h2.below hb, fun k hk => ⟨(h3 k hk).1, fun e => ?_⟩, fun k hk => ⟨(h4 k hk).1, fun e => ?_, (h4 k hk).2.2⟩, h5.trans (hb.mono h6), Nat.le_trans h6 hb.size, fun k hk => hk.2⟩
  · have := h1.lt k hk; omega
  · have := h2.lt k hk; omega
theorem Duo.turn {S T : Nat → Prop} (h2 : DAt w T b D) (h3 : ∀ k, S k → B ≤ k ∧ ¬ K k) (h4 : ∀ k, T k → B ≤ k ∧ ¬ K k ∧ ¬ S k) (h5 : Below B w0 w) (h6 : B ≤ w.heap.size) (h7 : ∀ k, K k → k < w.heap.size) (h : Dt w w' S a A') : Duo K B w0 w' a A' b D ∧ Fr (fun k => ¬ K k) w w' := by
  refine ⟨⟨_, T, h.1, h2.fr h.2 (fun k hk => (h4 k hk).2.2) (fun _ h => h) (fun k hk => Nat.lt_of_lt_of_le (h2.lt k hk) h.2.size), fun k hk => ?_, fun k hk => ⟨(h4 k hk).1, (h4 k hk).2.1, fun e => ?_⟩, h5.trans (h.2.to_below (fun k hk e => by have := (h3 k e).1; omega) h6), Nat.le_trans h6 h.2.size, fun k hk => Nat.lt_of_lt_of_le (h7 k hk) h.2.size⟩, h.2.mono fun k _ hk => (h3 k hk).2⟩
  · rcases hk with hk | hk
    · exact h3 k hk
    · exact ⟨Nat.le_trans h6 hk.1, fun e => by have := h7 k e; have := hk.1; omega⟩
  · rcases e with e | e
    · exact (h4 k hk).2.2 e
    · have := h2.lt k hk; have := e.1; omega
theorem lawact_duo (h : Duo K B w0 w a A b D) (o : Dop) (v x y z dv : Value) (da : List UInt8) (hf : A.fits da.length) (hk : o.four) (hdv : SlB w dv da) :
    Calls Try.prog 28 #[.pointer (some ⟨a, 0, none⟩), .agg #[.int .i64 o.kind, .int .i64 o.d, .int .i64 o.slot, v, .int .i64 o.n, .bool o.done, x, y, z], dv] w fun e w' => e = .returned (.int .i64 (A.err o.slot (o.act da).wipes)) ∧ Duo K B w0 w' a (A.step o.slot (o.act da)) b D ∧ Fr (fun k => ¬ K k) w w' := by
  obtain ⟨S, T, h1, h2, h3, h4, h5, h6, h7⟩ := h
  exact (lawact_any w S a A o v x y z dv da h1 hf hk hdv).mono fun e w' ⟨he, hd⟩ => ⟨he, Duo.turn h2 h3 h4 h5 h6 h7 hd⟩
theorem Sync_duo (h : Duo K B w0 w a A b D) (n : Int) (hf : A.fits 0) :
    Calls Try.prog 19 #[.pointer (some ⟨a, 0, none⟩), .int .i64 n] w fun e w' => e = .returned (.int .i64 (A.err n false)) ∧ Duo K B w0 w' a (A.step n .sync) b D ∧ Fr (fun k => ¬ K k) w w' := by
  obtain ⟨S, T, h1, h2, h3, h4, h5, h6, h7⟩ := h
  exact (Sync_any w S a A n h1 hf).mono fun e w' ⟨he, hd⟩ => ⟨he, Duo.turn h2 h3 h4 h5 h6 h7 hd⟩
theorem Stop_duo (h : Duo K B w0 w a A b D) (n : Int) (c : Bool) (hn : n ≤ 9223372036854775807) :
    Calls Try.prog 27 #[.pointer (some ⟨a, 0, none⟩), .int .i64 n, .bool c] w fun e w' => e = .returned (.int .i64 (if A.dead then 60 else 0)) ∧ Duo K B w0 w' a (A.stop n c) b D ∧ Fr (fun k => ¬ K k) w w' := by
  obtain ⟨S, T, h1, h2, h3, h4, h5, h6, h7⟩ := h
  exact (Stop_any w S a A n c h1).mono fun e w' ⟨he, hd⟩ => ⟨he, Duo.turn h2 h3 h4 h5 h6 h7 hd⟩
theorem alike_duo (h : Duo K B w0 w a A b D) (ra : A.s0.room + A.s1.room ≤ 140737488355328) (rb : D.s0.room + D.s1.room ≤ 140737488355328) (h0 : A.told0 = D.told0) (h1 : A.told1 = D.told1) (hc : A.curN = D.curN) :
    Calls Try.prog 21 #[.pointer (some ⟨a, 0, none⟩), .pointer (some ⟨b, 0, none⟩)] w fun e w' => e = .returned (.bool true) ∧ Below w.heap.size w w' := by
  obtain ⟨S, T, k1, k2, _⟩ := h
  exact alike_any w S T a b A D k1 k2 ra rb h0 h1 hc
theorem Acts_duo (h : Duo K B w0 w a A b D) : Calls Try.prog 29 #[.pointer (some ⟨a, 0, none⟩)] w fun e w' => e = .returned (.int .i64 (A.done : Int)) ∧ w' = w := by
  obtain ⟨S, T, k1, _⟩ := h
  exact Acts_any w S a A k1
theorem Dead_duo (h : Duo K B w0 w a A b D) : Calls Try.prog 20 #[.pointer (some ⟨a, 0, none⟩)] w fun e w' => e = .returned (.bool A.dead) ∧ w' = w := by
  obtain ⟨S, T, k1, _⟩ := h
  exact Dead_any w S a A k1
theorem Pending_duo (h : Duo K B w0 w a A b D) (hp : A.pending ≤ 1099511627776) : Calls Try.prog 13 #[.pointer (some ⟨a, 0, none⟩)] w fun e w' => e = .returned (.int .i64 (A.pending : Int)) ∧ Below w.heap.size w w' := by
  obtain ⟨S, T, k1, _⟩ := h
  refine (Pending_any w S a A k1 hp).mono ?_
  rintro e w' ⟨he, n, rfl⟩
  exact ⟨he, below_drewN (Below.refl _ _) n⟩
/-- both crash by choices that were there ahead of them; what is found of the two -/
theorem Crash_duo (h : Duo K B w0 w a A b D) (hB : B = w0.heap.size) (v : Value) (cs : List Int) (hf : A.fits 0) (hv : SlZ w0 v cs) :
    Calls Try.prog 14 #[.pointer (some ⟨a, 0, none⟩), v] w fun e w' => ∃ fd, e = .returned (.pointer (some ⟨fd, 0, none⟩)) ∧ Duo K B w0 w' a { A with dead := true } b D ∧ Duo K B w0 w' b D fd (A.crashed cs) ∧ Fr (fun k => ¬ K k) w w' := by
  obtain ⟨S, T, h1, h2, h3, h4, h5, h6, h7⟩ := h
  subst hB
  refine (Crash_any w S a A v cs h1 hf (hv.below h5) (fun h0 k hk hs => ?_)).mono ?_
  · have := slz_lt hv h0 k hk; have := (h3 k hs).1; omega
  · rintro e w' ⟨fd, rfl, k1, k2, k3⟩
    have hfs : Fr S w w' := k1.mono fun k _ e => e ▸ h1.sd
    have hT : DAt w' T b D := h2.fr hfs (fun k hk => (h4 k hk).2.2) (fun _ h => h) (fun k hk => Nat.lt_of_lt_of_le (h2.lt k hk) k1.size)
    have hb : Below w0.heap.size w0 w' := h5.trans (hfs.to_below (fun k hk e => by have := (h3 k e).1; omega) h6)
    refine ⟨fd, rfl, ⟨S, T, k2, hT, h3, h4, hb, Nat.le_trans h6 k1.size, fun k hk => Nat.lt_of_lt_of_le (h7 k hk) k1.size⟩, ⟨T, _, hT, k3, fun k hk => ⟨(h4 k hk).1, (h4 k hk).2.1⟩, fun k hk => ⟨Nat.le_trans h6 hk.1, fun e => ?_, fun e => ?_⟩, hb, Nat.le_trans h6 k1.size, fun k hk => Nat.lt_of_lt_of_le (h7 k hk) k1.size⟩, hfs.mono fun k _ e => (h3 k e).2⟩
    · have := h7 k e; have := hk.1; omega
    · have := h2.lt k e; have := hk.1; omega
/-- a write into blocks of the law's own -/
theorem Duo.free {X : Nat → Prop} (h : Duo K B w0 w a A b D) (hf : Fr X w w') (hX : ∀ k, X k → K k ∧ B ≤ k) : Duo K B w0 w' a A b D := by
  obtain ⟨S, T, h1, h2, h3, h4, h5, h6, h7⟩ := h
  exact ⟨S, T, h1.fr hf (fun k hk e => (h3 k hk).2 (hX k e).1) (fun _ h => h) (fun k hk => Nat.lt_of_lt_of_le (h1.lt k hk) hf.size), h2.fr hf (fun k hk e => (h4 k hk).2.1 (hX k e).1) (fun _ h => h) (fun k hk => Nat.lt_of_lt_of_le (h2.lt k hk) hf.size), h3, h4, h5.trans (hf.to_below (fun k hk e => by have := (hX k e).2; omega) h6), Nat.le_trans h6 hf.size, fun k hk => Nat.lt_of_lt_of_le (h7 k hk) hf.size⟩
end
/-- what is read in kept blocks stays -/
theorem kept_cell {K : Nat → Prop} {w w' : World} {g o : Nat} {v : Value} (hf : Fr (fun k => ¬ K k) w w') (hK : K g) (h : w.cell? ⟨g, o, none⟩ = some v) : w'.cell? ⟨g, o, none⟩ = some v := by
  have hb := World.block_lt_of_cell? w _ h
  rw [World.cell?_of_block (w := w) (w' := w') (a := ⟨g, o, none⟩) (hf.block g hb (fun e => e hK)), h]
theorem DW.kept {K : Nat → Prop} {w w' : World} {g p : Nat} {o : Dop} {v x y z : Value} (h : DW g p o v x y z w) (hf : Fr (fun k => ¬ K k) w w') (hK : K g) : DW g p o v x y z w' := by
  obtain ⟨h0, h1, h2, h3, h4, h5, h6, h7, h8⟩ := h
  exact ⟨kept_cell hf hK h0, kept_cell hf hK h1, kept_cell hf hK h2, kept_cell hf hK h3, kept_cell hf hK h4, kept_cell hf hK h5, kept_cell hf hK h6, kept_cell hf hK h7, kept_cell hf hK h8⟩
theorem DW.below {w w' : World} {g p : Nat} {o : Dop} {v x y z : Value} (h : DW g p o v x y z w) (hb : Below w.heap.size w w') : DW g p o v x y z w' :=
  h.kept (K := fun k => k = g) ((Fr.of_below hb).mono fun _ _ h => h.elim) rfl
end Go.Proofs.Ytcadacljacbipaa
