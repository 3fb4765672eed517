/- A network and a list that have nothing to do with one another. -/
import Derived.Test.YtahpkknbejgnkaaDoorNetN
namespace Go.Proofs.YtahpkknbejgnkaaDoor
open Go.RowKit
/-- a network at d and a list at v, each in blocks of its own from B on; below B all is as in w0 -/
def Two (B : Nat) (w0 w : World) (d : Nat) (P : List Pkt) (v : Value) (Q : List Pkt) : Prop :=
  ∃ S T, NAt w S d P ∧ PAt w T v Q ∧ (∀ k, S k → B ≤ k) ∧ (∀ k, T k → B ≤ k ∧ ¬ S k) ∧ Below B w0 w ∧ B ≤ w.heap.size
theorem Two.base {B : Nat} {w0 w : World} {d : Nat} {P Q : List Pkt} {v : Value} (h : Two B w0 w d P v Q) : Below B w0 w := h.elim fun _ h => h.elim fun _ h => h.2.2.2.2.1
theorem Two.size {B : Nat} {w0 w : World} {d : Nat} {P Q : List Pkt} {v : Value} (h : Two B w0 w d P v Q) : B ≤ w.heap.size := h.elim fun _ h => h.elim fun _ h => h.2.2.2.2.2
theorem Two.rd {B : Nat} {w0 w : World} {d : Nat} {P Q : List Pkt} {v : Value} (h : Two B w0 w d P v Q) : RdP w v Q := h.elim fun _ h => h.elim fun _ h => h.2.1.rd
theorem Two.below {B : Nat} {w0 w w' : World} {d : Nat} {P Q : List Pkt} {v : Value} (h : Two B w0 w d P v Q) (hb : Below w.heap.size w w') : Two B w0 w' d P v Q := by
  obtain ⟨S, T, h1, h2, h3, h4, h5, h6⟩ := h
  exact ⟨S, T, h1.below hb, h2.below hb, h3, h4, h5.trans (hb.mono h6), Nat.le_trans h6 hb.size⟩
theorem Two.net {B : Nat} {w0 w w' : World} {d : Nat} {P' Q : List Pkt} {v : Value} {S T : Nat → Prop} (h2 : PAt w T v Q) (h3 : ∀ k, S k → B ≤ k) (h4 : ∀ k, T k → B ≤ k ∧ ¬ S k) (h5 : Below B w0 w) (h6 : B ≤ w.heap.size) (h : Nt w w' S d P') : Two B w0 w' d P' v Q :=
  ⟨_, T, h.1, h2.fr h.2 (fun k hk => (h4 k hk).2) (fun _ h => h) (fun k hk => Nat.lt_of_lt_of_le (h2.lt k hk) h.2.size), fun k hk => hk.elim (h3 k) (fun g => Nat.le_trans h6 g.1),
    fun k hk => ⟨(h4 k hk).1, fun e => e.elim (h4 k hk).2 (fun g => by have := h2.lt k hk; have := g.1; omega)⟩, h5.trans (h.2.to_below (fun k hk e => by have := h3 k e; omega) h6), Nat.le_trans h6 h.2.size⟩
theorem Two.list {B : Nat} {w0 w w' : World} {d : Nat} {P Q' : List Pkt} {v' : Value} {S T X : Nat → Prop} (h1 : NAt w S d P) (h3 : ∀ k, S k → B ≤ k) (h4 : ∀ k, T k → B ≤ k ∧ ¬ S k) (h5 : Below B w0 w) (h6 : B ≤ w.heap.size) (hf : Fr X w w') (hx : ∀ k, X k → T k) (h : PAt w' (fun k => T k ∨ Nw w w' k) v' Q') : Two B w0 w' d P v' Q' :=
  ⟨S, _, h1.fr hf (fun k hk e => (h4 k (hx k e)).2 hk) (fun _ h => h) (fun k hk => Nat.lt_of_lt_of_le (h1.lt k hk) hf.size), h, h3,
    fun k hk => hk.elim (h4 k) (fun g => ⟨Nat.le_trans h6 g.1, fun e => by have := h1.lt k e; have := g.1; omega⟩), h5.trans (hf.to_below (fun k hk e => by have := (h4 k (hx k e)).1; omega) h6), Nat.le_trans h6 hf.size⟩
/-- one more in the list; its bytes are new, or those of one in it -/
theorem Two.more {B : Nat} {w0 w w2 w3 w4 : World} {d g cap : Nat} {P Q : List Pkt} {v u : Value} {vs : List Value} {p : Pkt} {S T I J : Nat → Prop} (h1 : NAt w S d P) (h3 : ∀ k, S k → B ≤ k) (h4 : ∀ k, T k → B ≤ k ∧ ¬ S k) (h5 : Below B w0 w) (h6 : B ≤ w.heap.size)
    (h : PV w T I v vs Q) (hb : Below w.heap.size w w2) (hu : SlI w2 J u p.data) (hJ : ∀ k, J k → I k ∨ (w.heap.size ≤ k ∧ k < w2.heap.size)) (hb3 : Below w2.heap.size w2 w3)
    (hown : w4.ownsRow 0 32 6 (.slice (some ⟨g, 0, none⟩) (Q.length + 1) cap) (Q.length + 1) (pktCells vs Q ++ p.cells u)) (hg : w3.grownBy w4 v.ownBlock) (hat : v.ownBlock = some g ∨ w2.heap.size ≤ g) : Two B w0 w4 d P (.slice (some ⟨g, 0, none⟩) (Q.length + 1) cap) (Q ++ [p]) := by
  obtain ⟨k1, k2⟩ := h.more hb hu hJ hb3 hown hg hat
  exact Two.list h1 h3 h4 h5 h6 k2 (fun k e => (h.r k e).1) ⟨_, _, k1⟩
theorem Two.less {B : Nat} {w0 w w3 : World} {d i : Nat} {P Q : List Pkt} {v v' : Value} {vs : List Value} {S T I : Nat → Prop} (h1 : NAt w S d P) (h3 : ∀ k, S k → B ≤ k) (h4 : ∀ k, T k → B ≤ k ∧ ¬ S k) (h5 : Below B w0 w) (h6 : B ≤ w.heap.size)
    (h : PV w T I v vs Q) (hi : i < Q.length) (hb : Below w.heap.size w w3)
    (hown : w3.ownsRow w.heap.size 32 6 v' (Q.length - 1) ((pktCells vs Q).take (i * 6) ++ (pktCells vs Q).drop ((i + 1) * 6))) : Two B w0 w3 d P v' (Q.eraseIdx i) :=
  Two.list h1 h3 h4 h5 h6 (Fr.of_below hb) (fun _ h => h.elim) ⟨_, _, h.less hi hb hown⟩
section
variable {B : Nat} {w0 w : World} {d : Nat} {P Q : List Pkt} {v : Value}
theorem Send_two (h : Two B w0 w d P v Q) (p : Pkt) (u : Value) (hv : SlB w u p.data) (h1 : okNode p.fk p.fi = true) (h2 : okNode p.tk p.ti = true) (h3 : p.data.length ≤ 66000) (hP : P.length ≤ 1099511627776) :
    Calls Tryd.prog 22 #[.pointer (some ⟨d, 0, none⟩), p.val u] w fun e w' => e = .returned (.int .i64 0) ∧ Two B w0 w' d (P ++ [p]) v Q := by
  obtain ⟨S, T, k1, k2, k3, k4, k5, k6⟩ := h
  exact (Send_ok w S d P p u k1 hv h1 h2 h3 hP).mono fun e w' ⟨he, hn⟩ => ⟨he, Two.net k2 k3 k4 k5 k6 hn⟩
theorem Len_two (h : Two B w0 w d P v Q) : Calls Tryd.prog 10 #[.pointer (some ⟨d, 0, none⟩)] w fun e w' => e = .returned (.int .i64 (P.length : Int)) ∧ w' = w := by
  obtain ⟨S, T, k1, k2, k3, k4, k5, k6⟩ := h
  exact Len_any w S d P k1
variable (hF : FtAt w0) (hB : 0 < B)
include hF hB
theorem Take_two (h : Two B w0 w d P v Q) (i : Nat) (hi : i < P.length) (hl : ∀ p ∈ P, p.data.length ≤ 140737488355328) (hP : P.length ≤ 1099511627776) :
    Calls Tryd.prog 6 #[.pointer (some ⟨d, 0, none⟩), .int .i64 (i : Int)] w fun e w' => ∃ u, e = .returned (.tuple #[P[i].val u, .int .i64 0]) ∧ SlB w' u P[i].data ∧ Two B w0 w' d (P.eraseIdx i) v Q := by
  obtain ⟨S, T, k1, k2, k3, k4, k5, k6⟩ := h
  exact (Take_ok w S d P i (hF.below hB k5) k1 hi hl hP).mono fun e w' ⟨u, he, hs, hn⟩ => ⟨u, he, hs, Two.net k2 k3 k4 k5 k6 hn⟩
theorem Drop_two (h : Two B w0 w d P v Q) (i : Nat) (hi : i < P.length) (hP : P.length ≤ 1099511627776) :
    Calls Tryd.prog 9 #[.pointer (some ⟨d, 0, none⟩), .int .i64 (i : Int)] w fun e w' => e = .returned (.int .i64 0) ∧ Two B w0 w' d (P.eraseIdx i) v Q := by
  obtain ⟨S, T, k1, k2, k3, k4, k5, k6⟩ := h
  exact (Drop_ok w S d P i (hF.below hB k5) k1 hi hP).mono fun e w' ⟨he, hn⟩ => ⟨he, Two.net k2 k3 k4 k5 k6 hn⟩
theorem Double_two (h : Two B w0 w d P v Q) (i : Nat) (hi : i < P.length) (hl : ∀ p ∈ P, p.data.length ≤ 140737488355328) (hP : P.length ≤ 1099511627776) :
    Calls Tryd.prog 8 #[.pointer (some ⟨d, 0, none⟩), .int .i64 (i : Int)] w fun e w' => e = .returned (.int .i64 0) ∧ Two B w0 w' d (P ++ [P[i]]) v Q := by
  obtain ⟨S, T, k1, k2, k3, k4, k5, k6⟩ := h
  exact (Double_ok w S d P i (hF.below hB k5) k1 hi hl hP).mono fun e w' ⟨he, hn⟩ => ⟨he, Two.net k2 k3 k4 k5 k6 hn⟩
end
theorem New_two (w : World) : Calls Tryd.prog 12 #[] w fun e w' => ∃ d, e = .returned (.pointer (some ⟨d, 0, none⟩)) ∧ Two w.heap.size w w' d [] (.slice none 0 0) [] := by
  go_enter Tryd.func12, Tryd.ntmps12
  go_wp2
  go_ret
  have hb : Below w.heap.size w (w.alloc (.cells #[.slice none 0 0] 57)) := (Below.refl _ _).alloc (Nat.le_refl _) _
  exact ⟨w.heap.size, rfl, fun k => k = w.heap.size, fun _ => False, ⟨fun _ => False, _, [], heap_alloc_new _ _, rfl, World.ownsRow_nil _ _ _ _, fun i u p hu hp => by simp at hu, rfl, fun h => h, fun _ h => h.elim, fun k hk => by subst hk; simp, fun k hk => by cases hk⟩, PAt.nil _ |>.fr (Fr.refl (fun _ => False) _) (fun _ h => h.elim) (fun _ h => h) (fun _ h => h.elim), fun k hk => by omega, fun _ h => h.elim, hb, hb.size⟩
end Go.Proofs.YtahpkknbejgnkaaDoor
