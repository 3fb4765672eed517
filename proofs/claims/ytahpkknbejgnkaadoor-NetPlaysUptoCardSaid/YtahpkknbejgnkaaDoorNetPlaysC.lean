/- One step of any kind; the two pairs of networks. -/
import Derived.Test.YtahpkknbejgnkaaDoorNetFh
import Derived.Test.YtahpkknbejgnkaaDoorNetOpen
namespace Go.Proofs.YtahpkknbejgnkaaDoor
open Go.RowKit
theorem plays_any (B : Nat) (w0 w : World) (ts : List Thing) (i j a b : Nat) (P : List Pkt) (h : Fam B w0 w ts) (hF : FtAt w0) (hB : 0 < B) (hij : i ≠ j) (hi : ts[i]? = some (netT a P)) (hj : ts[j]? = some (refT b P)) (hs : Small6 P) (hP : P.length ≤ 1099511627776) (o : Nop) (dv : Value) (hv : SlB w0 dv o.p.data) (hw0 : B = w0.heap.size) (hd : o.p.data.length ≤ 1048576) (hn2 : o.n ≤ 9223372036854775807) :
    Calls Tryd.prog 16 #[.pointer (some ⟨a, 0, none⟩), .pointer (some ⟨b, 0, none⟩), o.val dv] w fun e w' => e = .returned (.bool true) ∧ Stp B w0 ts i j a b (P.length + 1) w' := by
  by_cases h0 : o.kind = 0
  · exact plays_0 B w0 w ts i j a b P h hF hB hij hi hj hs hP o dv hv hw0 hd h0
  by_cases h1 : o.kind = 1
  · exact plays_1 B w0 w ts i j a b P h hF hB hij hi hj hs hP o dv hv hw0 hn2 h1
  by_cases h2 : o.kind = 2
  · exact plays_2 B w0 w ts i j a b P h hF hB hij hi hj hs hP o dv hv hw0 hn2 h2
  by_cases h3 : o.kind = 3
  · exact plays_3 B w0 w ts i j a b P h hF hB hij hi hj hs hP o dv hv hw0 hn2 h3
  by_cases h4 : o.kind = 4
  · exact plays_4 B w0 w ts i j a b P h hF hB hij hi hj hs hP o dv hv hw0 hn2 h4
  by_cases h5 : o.kind = 5
  · exact plays_5 B w0 w ts i j a b P h hF hB hij hi hj hs hP o dv hv hw0 hn2 h5
  by_cases h6 : o.kind = 6
  · exact plays_6 B w0 w ts i j a b P h hF hB hij hi hj hs hP o dv hv hw0 hn2 h6
  exact plays_7 B w0 w ts i j a b P h hF hB hij hi hj hs hP o dv hv hw0 hn2 (by simp [beq_eq_false_iff_ne, *])
theorem nil_any (w : World) (o : Nop) (dv : Value) (hv : SlB w dv o.p.data) (hd : o.p.data.length ≤ 1048576) :
    Calls Tryd.prog 16 #[.pointer none, .pointer none, o.val dv] w fun e w' => e = .returned (.bool true) ∧ Below w.heap.size w w' := by
  by_cases h0 : o.kind = 0
  · exact nil_0 w o dv hv hd h0
  by_cases h1 : o.kind = 1
  · exact nil_1 w o dv hv hd h1
  by_cases h2 : o.kind = 2
  · exact nil_2 w o dv hv hd h2
  by_cases h3 : o.kind = 3
  · exact nil_3 w o dv hv hd h3
  by_cases h4 : o.kind = 4
  · exact nil_4 w o dv hv hd h4
  by_cases h5 : o.kind = 5
  · exact nil_5 w o dv hv hd h5
  by_cases h6 : o.kind = 6
  · exact nil_6 w o dv hv hd h6
  exact nil_7 w o dv hv hd (by simp [beq_eq_false_iff_ne, *])
def ptr (d : Nat) : Value := .pointer (some ⟨d, 0, none⟩)
def arrT (g : Nat) (t : TypeId) (a b : Nat) : Thing := blkT g (.cells #[.pointer (some ⟨a, 0, none⟩), .pointer (some ⟨b, 0, none⟩)] t (0, 0))
def six (g3 g4 : Nat) (d e : Nat → Nat) (P Q : Nat → List Pkt) : List Thing := [netT (d 0) (P 0), netT (d 1) (P 1), arrT g3 43 (d 0) (d 1), refT (e 0) (Q 0), refT (e 1) (Q 1), arrT g4 46 (e 0) (e 1)]
def up {α : Type} (f : Nat → α) (k : Nat) (v : α) : Nat → α := fun i => if i = k then v else f i
/-- the two pairs, each of two with the same in flight -/
def St (w0 w : World) (g3 g4 n : Nat) : Prop := ∃ d e P, (∀ k, k < 2 → Small6 (P k)) ∧ (∀ k, k < 2 → (P k).length ≤ n) ∧ Fam w0.heap.size w0 w (six g3 g4 d e P P)
theorem six_frozen {g3 g4 : Nat} {d e : Nat → Nat} {P Q : Nat → List Pkt} {k : Nat} {B : Nat} {w0 w : World} {L : List Thing} (h : Fam B w0 w (six g3 g4 d e P Q ++ L)) : w.frozen? ⟨g3, k, none⟩ = false ∧ w.frozen? ⟨g4, k, none⟩ = false :=
  ⟨blk_frozen (h.blk (i := 2) rfl).1 _, blk_frozen (h.blk (i := 5) rfl).1 _⟩
section
variable {g3 g4 : Nat} {d e : Nat → Nat} {P Q : Nat → List Pkt} {k : Nat} (hk : k < 2)
include hk
theorem six_net : (six g3 g4 d e P Q)[k]? = some (netT (d k) (P k)) := by
  obtain rfl | rfl : k = 0 ∨ k = 1 := by omega
  all_goals rfl
theorem six_ref : (six g3 g4 d e P Q)[3 + k]? = some (refT (e k) (Q k)) := by
  obtain rfl | rfl : k = 0 ∨ k = 1 := by omega
  all_goals rfl
theorem six_net_set (P' : List Pkt) : (six g3 g4 d e P Q).set k (netT (d k) P') = six g3 g4 d e (up P k P') Q := by
  obtain rfl | rfl : k = 0 ∨ k = 1 := by omega
  all_goals rfl
theorem six_ref_set (P' : List Pkt) : (six g3 g4 d e P Q).set (3 + k) (refT (e k) P') = six g3 g4 d e P (up Q k P') := by
  obtain rfl | rfl : k = 0 ∨ k = 1 := by omega
  all_goals rfl
theorem six_cells {B : Nat} {w0 w : World} {L : List Thing} (h : Fam B w0 w (six g3 g4 d e P Q ++ L)) : w.cell? ⟨g3, k, none⟩ = some (.pointer (some ⟨d k, 0, none⟩)) ∧ w.cell? ⟨g4, k, none⟩ = some (.pointer (some ⟨e k, 0, none⟩)) := by
  have h1 := (h.blk (i := 2) rfl).1
  have h2 := (h.blk (i := 5) rfl).1
  rw [blk_cell h1, blk_cell h2]
  obtain rfl | rfl : k = 0 ∨ k = 1 := by omega
  all_goals exact ⟨rfl, rfl⟩
/-- a net's place takes a new one -/
theorem six_put {B : Nat} {w0 w : World} {d' : Nat} {P' : List Pkt} (h : Fam B w0 w (six g3 g4 d e P Q ++ [netT d' P'])) : Fam B w0 (w.setCell ⟨g3, k, none⟩ (.pointer (some ⟨d', 0, none⟩))) (six g3 g4 (up d k d') e (up P k P') Q) := by
  have h1 := h.move (i := k) (by unfold six; simp; omega)
  have h2 := h1.store (i := 2) (g := g3) (j := k) (t := 43) (cs := #[.pointer (some ⟨d 0, 0, none⟩), .pointer (some ⟨d 1, 0, none⟩)]) (by rcases (by omega : k = 0 ∨ k = 1) with rfl | rfl <;> rfl) (.pointer (some ⟨d', 0, none⟩))
  obtain rfl | rfl : k = 0 ∨ k = 1 := by omega
  all_goals exact h2
theorem six_putr {B : Nat} {w0 w : World} {d' : Nat} {P' : List Pkt} (h : Fam B w0 w (six g3 g4 d e P Q ++ [refT d' P'])) : Fam B w0 (w.setCell ⟨g4, k, none⟩ (.pointer (some ⟨d', 0, none⟩))) (six g3 g4 d (up e k d') P (up Q k P')) := by
  have h1 := h.move (i := 3 + k) (by unfold six; simp; omega)
  have h2 := h1.store (i := 5) (g := g4) (j := k) (t := 46) (cs := #[.pointer (some ⟨e 0, 0, none⟩), .pointer (some ⟨e 1, 0, none⟩)]) (by rcases (by omega : k = 0 ∨ k = 1) with rfl | rfl <;> rfl) (.pointer (some ⟨d', 0, none⟩))
  obtain rfl | rfl : k = 0 ∨ k = 1 := by omega
  all_goals exact h2
end
@[reducible] def opv (o : Nop) (dv : Value) : Value := .agg #[.int .i64 o.kind, .int .i64 o.net, .int .i64 o.p.fk, .int .i64 o.p.fi, .int .i64 o.p.tk, .int .i64 o.p.ti, dv, .bool o.p.lost, .int .i64 o.i, .int .i64 o.n, W32 o.pat]
theorem plays_atk (w0 w : World) (g3 g4 g6 : Nat) (d e : Nat → Nat) (P : Nat → List Pkt) (k n : Nat) (hk : k < 2) (o : Nop) (dv : Value) (h : Fam w0.heap.size w0 w (six g3 g4 d e P P ++ [opT g6 o dv])) (hF : FtAt w0) (hB : 0 < w0.heap.size) (hs : ∀ k, k < 2 → Small6 (P k)) (hl : ∀ k, k < 2 → (P k).length ≤ n) (hn : n ≤ 1048576) (hv : SlB w0 dv o.p.data) (hd : o.p.data.length ≤ 1048576) (hn2 : o.n ≤ 9223372036854775807) :
    Calls Tryd.prog 16 #[.pointer (some ⟨d k, 0, none⟩), .pointer (some ⟨e k, 0, none⟩), opv o dv] w fun e' w' => e' = .returned (.bool true) ∧ ∃ P', (∀ k, k < 2 → Small6 (P' k)) ∧ (∀ k, k < 2 → (P' k).length ≤ n + 1) ∧ Fam w0.heap.size w0 w' (six g3 g4 d e P' P' ++ [opT g6 o dv]) := by
  refine (plays_any w0.heap.size w0 w _ k (3 + k) (d k) (e k) (P k) h hF hB (by omega) (get_app (six_net hk)) (get_app (six_ref hk)) (hs k hk) (by have := hl k hk; omega) o dv hv rfl hd hn2).mono ?_
  rintro e' w' ⟨rfl, P', hs', hl', h'⟩
  rw [set_app _ _ _ _ (by unfold six; simp; omega), six_net_set hk, set_app _ _ _ _ (by unfold six; simp; omega), six_ref_set hk] at h'
  refine ⟨rfl, up P k P', fun j hj => ?_, fun j hj => ?_, h'⟩
  · unfold up; split
    · exact hs'
    · exact hs j hj
  · unfold up; split
    · have := hl k hk; omega
    · have := hl j hj; omega
theorem six_o3 {g3 g4 g6 : Nat} {d e : Nat → Nat} {P Q : Nat → List Pkt} {k B : Nat} {w0 w : World} {o : Nop} {dv : Value} (hk : k < 2) (h : Fam B w0 w (six g3 g4 d e P Q ++ [opT g6 o dv])) :
    (w.cell? ⟨g3, k, none⟩ = some (.pointer (some ⟨d k, 0, none⟩)) ∧ w.cell? ⟨g4, k, none⟩ = some (.pointer (some ⟨e k, 0, none⟩))) ∧ (w.cell? ⟨g6, 0, none⟩ = some (.int .i64 o.kind) ∧ w.cell? ⟨g6, 1, none⟩ = some (.int .i64 o.net) ∧ w.cell? ⟨g6, 2, none⟩ = some (.int .i64 o.p.fk) ∧ w.cell? ⟨g6, 3, none⟩ = some (.int .i64 o.p.fi) ∧ w.cell? ⟨g6, 4, none⟩ = some (.int .i64 o.p.tk) ∧ w.cell? ⟨g6, 5, none⟩ = some (.int .i64 o.p.ti) ∧ w.cell? ⟨g6, 6, none⟩ = some dv ∧ w.cell? ⟨g6, 7, none⟩ = some (.bool o.p.lost) ∧ w.cell? ⟨g6, 8, none⟩ = some (.int .i64 o.i) ∧ w.cell? ⟨g6, 9, none⟩ = some (.int .i64 o.n) ∧ w.cell? ⟨g6, 10, none⟩ = some (W32 o.pat)) :=
  ⟨six_cells hk h, nop_at (h.blkL 0 rfl)⟩
theorem nil_atk (w : World) (o : Nop) (dv : Value) (hv : SlB w dv o.p.data) (hd : o.p.data.length ≤ 1048576) :
    Calls Tryd.prog 16 #[.pointer none, .pointer none, opv o dv] w fun e w' => e = .returned (.bool true) ∧ Below w.heap.size w w' := nil_any w o dv hv hd
theorem St.below {w0 w w' : World} {g3 g4 n : Nat} (h : St w0 w g3 g4 n) (hb : Below w.heap.size w w') : St w0 w' g3 g4 n := by
  obtain ⟨d, e, P, h1, h2, h3⟩ := h
  exact ⟨d, e, P, h1, h2, h3.below hb⟩
theorem St.more {w0 w : World} {g3 g4 n m : Nat} (h : St w0 w g3 g4 n) (hm : n ≤ m) : St w0 w g3 g4 m := by
  obtain ⟨d, e, P, h1, h2, h3⟩ := h
  exact ⟨d, e, P, h1, fun k hk => Nat.le_trans (h2 k hk) hm, h3⟩
theorem St.base {w0 w : World} {g3 g4 n : Nat} (h : St w0 w g3 g4 n) : Below w0.heap.size w0 w := by
  obtain ⟨d, e, P, h1, h2, h3⟩ := h
  exact h3.base
theorem pick_at (x : Int) (n : Nat) (hn : 0 < n) : ∃ (q : Int) (i : Nat), x.tmod n = q ∧ -(n : Int) < q ∧ q < n ∧ (q + n) % n = (i : Int) ∧ i < n := by
  have t1 := Int.tmod_lt_of_pos x (show (0 : Int) < (n : Int) by omega)
  have t2 := Int.lt_tmod_of_pos x (show (0 : Int) < (n : Int) by omega)
  have e1 := Int.emod_nonneg (x.tmod n + n) (show (n : Int) ≠ 0 by omega)
  have e2 := Int.emod_lt_of_pos (x.tmod n + n) (show (0 : Int) < (n : Int) by omega)
  exact ⟨_, ((x.tmod n + n) % n).toNat, rfl, t2, t1, by omega, by omega⟩
theorem New_fam {B : Nat} {w0 w : World} {ts : List Thing} (h : Fam B w0 w ts) : Calls Tryd.prog 12 #[] w fun e w' => ∃ d, e = .returned (.pointer (some ⟨d, 0, none⟩)) ∧ Fam B w0 w' (ts ++ [netT d []]) :=
  (New_nat w).mono fun e w' ⟨d, he, hn, hb⟩ => ⟨d, he, h.add hb hn⟩
theorem rNew_fam {B : Nat} {w0 w : World} {ts : List Thing} (h : Fam B w0 w ts) : Calls Tryd.prog 13 #[] w fun e w' => ∃ d, e = .returned (.pointer (some ⟨d, 0, none⟩)) ∧ Fam B w0 w' (ts ++ [refT d []]) :=
  (rNew_any w).mono fun e w' ⟨d, he, hn, hb⟩ => ⟨d, he, h.add hb hn⟩
end Go.Proofs.YtahpkknbejgnkaaDoor
