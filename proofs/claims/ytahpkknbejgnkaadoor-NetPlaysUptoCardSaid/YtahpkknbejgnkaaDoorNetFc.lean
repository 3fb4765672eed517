/- The law's helpers of plays: roomy, untouched; bytes of the law's own. -/
import Derived.Test.YtahpkknbejgnkaaDoorNetFb
namespace Go.Proofs.YtahpkknbejgnkaaDoor
open Go.RowKit
set_option maxHeartbeats 1000000 in
theorem roomy_any (v : Value) (l : List UInt8) (w : World) (h : SlB w v l) (hl : l.length + 1 ≤ 140737488355328) :
    Calls Tryd.prog 26 #[v] w fun e w' => ∃ g c, e = .returned (.slice (some ⟨g, 0, none⟩) l.length c) ∧ OwnB w' w.heap.size (.slice (some ⟨g, 0, none⟩) (l.length + 1) c) (l ++ [90]) ∧ l.length + 1 ≤ c ∧ Below w.heap.size w w' := by
  have H := hid h
  obtain ⟨A, c, rfl⟩ := h.form
  clear h
  go_enter Tryd.func26, Tryd.ntmps26
  go_upto_region 3 with (at_builtin; refine wpList_appB rfl (.tmp 4) (.tmp 5) rfl w.heap.size (.slice none 0 0) _ [] l rfl rfl (OwnB.nil _ _) H.out (by simp only [List.length_nil]; omega) (Nat.le_refl _) ?_; intro v1 w1 ho1 hg1; rw [List.nil_append] at ho1; have HB := hid (OwnB.grown (Below.refl w.heap.size w) (OwnB.nil w w.heap.size) (Nat.le_refl _) (Nat.le_refl _) hg1); obtain ⟨A1, c1, rfl⟩ := ho1.form; have HO := hid ho1; clear ho1 hg1)
  go_wp2_with (at_builtin; refine wpList_appB rfl (.tmp 7) (.tmp 8) rfl w.heap.size _ _ l [90] rfl rfl (HO.out.alloc _) (by exact lit_sl w1 [90] (by simp)) (by simp only [List.length_cons, List.length_nil]; omega) (Nat.le_trans HB.out.size (by simp)) ?_; intro v2 w2 ho2 hg2; have HB2 := hid (OwnB.grown (HB.out.alloc HB.out.size _) (HO.out.alloc _) (Nat.le_refl _) (Nat.le_trans HB.out.size (by simp)) hg2); have hc2 := ho2.some_ (by simp); obtain ⟨g, cap, rfl, _, hcap, _⟩ := hc2; have HO2 := hid ho2; simp only [List.length_append, List.length_cons, List.length_nil, Nat.zero_add] at hcap ; have hk : (l.length : Int) ≤ (cap : Int) := (by omega); have hk2 : l.length ≤ cap := (by omega); clear ho2 hg2)
  go_ret
  exact ⟨g, cap, rfl, by simpa using HO2.out, by omega, HB2.out⟩
set_option maxHeartbeats 1000000 in
theorem untouched_any (g c base : Nat) (v : Value) (l : List UInt8) (w : World) (h : OwnB w base (.slice (some ⟨g, 0, none⟩) (l.length + 1) c) (l ++ [90])) (hc : l.length + 1 ≤ c) (hv : SlB w v l) (hl : l.length + 1 ≤ 140737488355328) :
    Calls Tryd.prog 27 #[.slice (some ⟨g, 0, none⟩) l.length c, v] w fun e w' => e = .returned (.bool true) ∧ w' = w := by
  obtain ⟨A, c2, rfl⟩ := hv.form
  have hs : SlB w (.slice (some ⟨g, 0, none⟩) l.length c) l := by
    have h1 := h.sl.take_ (n := l.length + 1) l.length (by simp) (by omega)
    rw [List.take_left] at h1
    exact h1
  have k1 := conv_str hs
  have k2 := conv_str hv
  have x0 := (h.at_ l.length (by simp)).1
  rw [show ((l ++ [90] : List UInt8).getD l.length 0) = 90 by simp] at x0
  have i1 : (l.length : Int) + 1 ≤ (c : Int) := by omega
  have i2 : (l.length : Int) < (l.length : Int) + 1 := by omega
  clear h hv hs
  go_enter Tryd.func27, Tryd.ntmps27
  go_wp2_with fail
  go_ret
  exact ⟨rfl, rfl⟩
/-- bytes of the law's own -/
def rowT (v : Value) (l : List UInt8) : Thing := ⟨fun w S => OwnB w 0 v l ∧ ∀ k, v.ownBlock = some k → S k, fun h hf hx hs _ => ⟨h.1.fr hf (fun k hk => hx k (h.2 k hk)), fun k hk => hs k (h.2 k hk)⟩⟩
theorem Fam.row {B : Nat} {w0 w w' : World} {ts : List Thing} {v : Value} {l : List UInt8} (h : Fam B w0 w ts) (hb : Below w.heap.size w w') (ho : OwnB w' w.heap.size v l) : Fam B w0 w' (ts ++ [rowT v l]) :=
  h.add hb ⟨own_base ho (Nat.zero_le _), fun k hk => World.ownsRow.lt ho k hk⟩
theorem Fam.rowAt {B : Nat} {w0 w : World} {ts : List Thing} {v : Value} {l : List UInt8} {i : Nat} (h : Fam B w0 w ts) (hi : ts[i]? = some (rowT v l)) : OwnB w 0 v l := by
  obtain ⟨S, hS, _⟩ := h.call hi
  exact hS.1
theorem Fam.rowSet {B : Nat} {w0 w : World} {ts : List Thing} {g n c : Nat} {l : List UInt8} {i : Nat} (h : Fam B w0 w ts) (hi : ts[i]? = some (rowT (.slice (some ⟨g, 0, none⟩) n c) l)) (j : Nat) (b : UInt8) : Fam B w0 (w.setCell ⟨g, j, none⟩ (_root_.Go.Proofs.YtahpkknbejgnkaaDoor.B b)) (ts.set i (rowT (.slice (some ⟨g, 0, none⟩) n c) (l.set j b))) := by
  obtain ⟨S, hS, _, k⟩ := h.call hi
  exact k _ _ ⟨hS.1.set_ j b, fun x hx => .inl (hS.2 x hx)⟩ ((Fr.set_ (g := g) j _).mono fun x _ e => hS.2 x (by rw [e]; rfl))
/-- one step's word -/
structure Nop where
  kind : Int
  net : Int
  p : Pkt
  i : Int
  n : Int
  pat : BitVec 32
def Nop.cells (o : Nop) (v : Value) : Array Value := #[.int .i64 o.kind, .int .i64 o.net, .int .i64 o.p.fk, .int .i64 o.p.fi, .int .i64 o.p.tk, .int .i64 o.p.ti, v, .bool o.p.lost, .int .i64 o.i, .int .i64 o.n, W32 o.pat]
def Nop.val (o : Nop) (v : Value) : Value := .agg (o.cells v)
theorem nop_at {W : World} {g : Nat} {t : TypeId} {o : Nop} {v : Value} (h : W.heap[g]? = some (.cells (o.cells v) t (0, 0))) :
    W.cell? ⟨g, 0, none⟩ = some (.int .i64 o.kind) ∧ W.cell? ⟨g, 1, none⟩ = some (.int .i64 o.net) ∧ W.cell? ⟨g, 2, none⟩ = some (.int .i64 o.p.fk) ∧ W.cell? ⟨g, 3, none⟩ = some (.int .i64 o.p.fi) ∧ W.cell? ⟨g, 4, none⟩ = some (.int .i64 o.p.tk) ∧ W.cell? ⟨g, 5, none⟩ = some (.int .i64 o.p.ti) ∧ W.cell? ⟨g, 6, none⟩ = some v ∧ W.cell? ⟨g, 7, none⟩ = some (.bool o.p.lost) ∧ W.cell? ⟨g, 8, none⟩ = some (.int .i64 o.i) ∧ W.cell? ⟨g, 9, none⟩ = some (.int .i64 o.n) ∧ W.cell? ⟨g, 10, none⟩ = some (W32 o.pat) :=
  ⟨by rw [blk_cell h]; rfl, by rw [blk_cell h]; rfl, by rw [blk_cell h]; rfl, by rw [blk_cell h]; rfl, by rw [blk_cell h]; rfl, by rw [blk_cell h]; rfl, by rw [blk_cell h]; rfl, by rw [blk_cell h]; rfl, by rw [blk_cell h]; rfl, by rw [blk_cell h]; rfl, by rw [blk_cell h]; rfl⟩
end Go.Proofs.YtahpkknbejgnkaaDoor
