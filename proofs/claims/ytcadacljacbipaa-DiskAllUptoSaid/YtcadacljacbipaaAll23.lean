/- Pairs of disks, of any number: both sides' calls. -/
import Derived.Test.YtcadacljacbipaaAll1
import Derived.Test.YtcadacljacbipaaAll17
import Derived.Test.YtcadacljacbipaaAll18
import Derived.Test.YtcadacljacbipaaAll20
import Derived.Test.YtcadacljacbipaaAll21
import Derived.Test.YtcadacljacbipaaAll22
import Derived.Test.YtcadacljacbipaaAll9
namespace Go.Proofs.Ytcadacljacbipaa
open Go.RowKit
def dT (d : Nat) (D : Dk) : Thing := ⟨fun w S => DAt w S d D, DAt.fr⟩
def rT (d : Nat) (D : Dk) : Thing := ⟨fun w S => RAt w S d D, RAt.fr⟩
/-- the two disks' blocks, and what both are -/
structure Pr where
  p : Nat
  r : Nat
  D : Dk
def pairCells : List Pr → List Value
  | [] => []
  | x :: l => .pointer (some ⟨x.p, 0, none⟩) :: .pointer (some ⟨x.r, 0, none⟩) :: pairCells l
def pairsT : List Pr → List Thing
  | [] => []
  | x :: l => dT x.p x.D :: rT x.r x.D :: pairsT l
def allT (v : Value) (ps : List Pr) : Thing := ownT 59 2 v ps.length (pairCells ps)
def things (v : Value) (ps : List Pr) : List Thing := allT v ps :: pairsT ps
theorem pairsT_length : ∀ ps : List Pr, (pairsT ps).length = 2 * ps.length
  | [] => rfl
  | x :: l => by simp [pairsT, pairsT_length l]; omega
theorem pairCells_length : ∀ ps : List Pr, (pairCells ps).length = ps.length * 2
  | [] => rfl
  | x :: l => by simp [pairCells, pairCells_length l]; omega
theorem pairsT_at : ∀ (ps : List Pr) (n : Nat) (x : Pr), ps[n]? = some x → (pairsT ps)[2 * n]? = some (dT x.p x.D) ∧ (pairsT ps)[2 * n + 1]? = some (rT x.r x.D)
  | [], n, x, h => by simp at h
  | y :: l, 0, x, h => by simp at h; subst h; exact ⟨rfl, rfl⟩
  | y :: l, n + 1, x, h => by
    have := pairsT_at l n x (by simpa using h)
    rw [Nat.mul_add]
    exact this
theorem pairsT_set : ∀ (ps : List Pr) (n : Nat) (x : Pr) (D : Dk), ps[n]? = some x → ((pairsT ps).set (2 * n) (dT x.p D)).set (2 * n + 1) (rT x.r D) = pairsT (ps.set n ⟨x.p, x.r, D⟩)
  | [], n, x, D, h => by simp at h
  | y :: l, 0, x, D, h => by simp at h; subst h; rfl
  | y :: l, n + 1, x, D, h => by
    have := pairsT_set l n x D (by simpa using h)
    rw [Nat.mul_add]
    simp only [List.set_cons_succ, pairsT, ← this]
theorem pairCells_set : ∀ (ps : List Pr) (n : Nat) (x : Pr) (D : Dk), ps[n]? = some x → pairCells (ps.set n ⟨x.p, x.r, D⟩) = pairCells ps
  | [], n, x, D, h => by simp at h
  | y :: l, 0, x, D, h => by simp at h; subst h; rfl
  | y :: l, n + 1, x, D, h => by
    have := pairCells_set l n x D (by simpa using h)
    simp only [List.set_cons_succ, pairCells, this]
theorem pairCells_at : ∀ (ps : List Pr) (n : Nat) (x : Pr), ps[n]? = some x → (pairCells ps)[n * 2]? = some (.pointer (some ⟨x.p, 0, none⟩)) ∧ (pairCells ps)[n * 2 + 1]? = some (.pointer (some ⟨x.r, 0, none⟩))
  | [], n, x, h => by simp at h
  | y :: l, 0, x, h => by simp at h; subst h; exact ⟨rfl, rfl⟩
  | y :: l, n + 1, x, h => by
    have := pairCells_at l n x (by simpa using h)
    rw [Nat.add_mul, Nat.one_mul]
    exact this
theorem pairsT_snoc : ∀ (ps : List Pr) (x : Pr), pairsT (ps ++ [x]) = pairsT ps ++ [dT x.p x.D, rT x.r x.D]
  | [], x => rfl
  | y :: l, x => by simp [pairsT, pairsT_snoc l x]
theorem pairCells_snoc : ∀ (ps : List Pr) (x : Pr), pairCells (ps ++ [x]) = pairCells ps ++ [.pointer (some ⟨x.p, 0, none⟩), .pointer (some ⟨x.r, 0, none⟩)]
  | [], x => rfl
  | y :: l, x => by simp [pairCells, pairCells_snoc l x]
theorem allT_set {v : Value} {ps : List Pr} {n : Nat} {x : Pr} (D : Dk) (h : ps[n]? = some x) : allT v (ps.set n ⟨x.p, x.r, D⟩) = allT v ps := by
  unfold allT
  rw [List.length_set, pairCells_set ps n x D h]
/-- where pair n's two disks stand -/
theorem things_at {v : Value} {ps : List Pr} {n : Nat} {x : Pr} (h : ps[n]? = some x) : (things v ps)[2 * n + 1]? = some (dT x.p x.D) ∧ (things v ps)[2 * n + 2]? = some (rT x.r x.D) := pairsT_at ps n x h
theorem things_set {v : Value} {ps : List Pr} {n : Nat} {x : Pr} (D : Dk) (h : ps[n]? = some x) : ((things v ps).set (2 * n + 1) (dT x.p D)).set (2 * n + 2) (rT x.r D) = things v (ps.set n ⟨x.p, x.r, D⟩) := by
  show allT v ps :: ((pairsT ps).set (2 * n) (dT x.p D)).set (2 * n + 1) (rT x.r D) = allT v _ :: _
  rw [pairsT_set ps n x D h, allT_set D h]
section
variable {B : Nat} {w0 w : World} {ts : List Thing} {i j d r : Nat} {D : Dk}
theorem play_fam (h : Fam B w0 w ts) (hi : ts[i]? = some (dT d D)) (o : Dop) (v a b c dv : Value) (hf : D.fits o.data.length) (hk : o.four ∨ o.kind = 8) (hdv : SlB w dv o.data) :
    Calls Try.prog 28 #[.pointer (some ⟨d, 0, none⟩), .agg #[.int .i64 o.kind, .int .i64 o.d, .int .i64 o.slot, v, .int .i64 o.n, .bool o.done, a, b, c], dv] w fun e w' => e = .returned (.int .i64 (D.playE o)) ∧ Fam B w0 w' (ts.set i (dT d (D.play o))) := by
  obtain ⟨S, hS, hB, k⟩ := h.call hi
  exact (lawplay_any w S d D o v a b c dv hS hf hk hdv).mono fun e w' ⟨he, hd⟩ => ⟨he, k (dT d _) w' hd.1 hd.2⟩
theorem rplay_fam (h : Fam B w0 w ts) (hi : ts[i]? = some (rT d D)) (hB0 : B = w0.heap.size) (o : Dop) (v a b c : Value) (hf : D.fits o.data.length) (hk : o.four ∨ o.kind = 8) (hv : SlB w0 v o.data) :
    Calls Try.prog 42 #[.pointer (some ⟨d, 0, none⟩), .agg #[.int .i64 o.kind, .int .i64 o.d, .int .i64 o.slot, v, .int .i64 o.n, .bool o.done, a, b, c]] w fun e w' => e = .returned (.int .i64 (D.playE o)) ∧ Fam B w0 w' (ts.set i (rT d (D.play o))) := by
  obtain ⟨S, hS, hB, k⟩ := h.call hi
  subst hB0
  exact (actOf_any w S d D o v a b c hS hf hk (hv.below h.base) (fun h0 j hj hs => by have := sl_lt hv h0 j hj; have := (hB j hs).1; omega)).mono fun e w' ⟨he, hd⟩ => ⟨he, k (rT d _) w' hd.1 hd.2⟩
theorem told_fam (h : Fam B w0 w ts) (hi : ts[i]? = some (dT d D)) (hj : ts[j]? = some (rT r D)) (kd sl dn n : Int) (v x y z : Value) (bb : Bool) (hroom : D.s0.room + D.s1.room ≤ 140737488000000) (hp : D.pending ≤ 1099511627776) :
    Calls Try.prog 33 #[.agg #[.pointer (some ⟨d, 0, none⟩), .pointer (some ⟨r, 0, none⟩)], .agg #[.int .i64 kd, .int .i64 dn, .int .i64 sl, v, .int .i64 n, .bool bb, x, y, z]] w fun e w' => e = .returned (.bool true) ∧ Below w.heap.size w w' := by
  obtain ⟨S, hS, _⟩ := h.call hi
  obtain ⟨S', hS', _⟩ := h.call hj
  by_cases h5 : kd = 5
  · subst h5
    exact told_read w S S' d r D sl dn n v x y z bb hS hS' hroom hp
  · by_cases h6 : kd = 6
    · subst h6
      exact told_slots w S S' d r D sl dn n v x y z bb hS hS' hroom hp
    · exact told_counts w S S' d r D sl dn n v x y z bb hS hS' hp kd h5 h6
/-- the program's Crash, by choices that lie in a row of the law's own -/
theorem crash_fam (h : Fam B w0 w ts) (hi : ts[i]? = some (dT d D)) {m g n : Nat} {v : Value} {xs : List Value} {e : TypeId} {s : Nat} (hm : ts[m]? = some (ownT e s v n xs)) (hmi : m ≠ i) (A : Value) (cs : List Int) (hf : D.fits 0) (hv : SlZ w A cs) (hA : A.ownBlock = some g) (hvg : v.ownBlock = some g) :
    Calls Try.prog 14 #[.pointer (some ⟨d, 0, none⟩), A] w fun e w' => ∃ fd, e = .returned (.pointer (some ⟨fd, 0, none⟩)) ∧ Fam B w0 w' (ts.set i (dT d { D with dead := true }) ++ [dT fd (D.crashed cs)]) := by
  obtain ⟨S, hS, hB, ho, k⟩ := h.split hi
  obtain ⟨T, hT, hTS⟩ := ho m _ hmi hm
  refine (Crash_any w S d D A cs hS hf hv (fun _ j hj => ?_)).mono ?_
  · rw [hA] at hj
    injection hj with hj
    subst hj
    exact hTS g (hT.2 g hvg)
  · rintro e w' ⟨fd, he, hfr, h1, h2⟩
    obtain ⟨I, l0, n0, a0, l1, n1, a1, hV⟩ := hS
    exact ⟨fd, he, k (dT d _) (dT fd _) w' h1 h2 (hfr.mono fun j _ e => e ▸ hV.sd)⟩
theorem rcrash_fam (h : Fam B w0 w ts) (hi : ts[i]? = some (rT d D)) (hB0 : B = w0.heap.size) (v : Value) (cs : List Int) (hf : D.fits 0) (hv : SlZ w0 v cs) :
    Calls Try.prog 44 #[.pointer (some ⟨d, 0, none⟩), v] w fun e w' => ∃ fd, e = .returned (.pointer (some ⟨fd, 0, none⟩)) ∧ Fam B w0 w' (ts.set i (rT d { D with dead := true }) ++ [rT fd (D.crashed cs)]) := by
  subst hB0
  obtain ⟨S, hS, hB, _, k⟩ := h.split hi
  have hlt : ∀ k, 0 < cs.length → v.ownBlock = some k → k < w0.heap.size := by
    intro k h0 hk
    obtain ⟨⟨A, c, rfl, h1, h2, h3⟩, _⟩ := hv
    obtain ⟨b, o, rfl, hc⟩ := h3 h0
    simp only [Value.ownBlock, Option.some.injEq] at hk
    subst hk
    exact World.block_lt_of_cell? w0 _ (hc 0 h0)
  refine (rCrash_any w S d D v cs hS hf (hv.fr ((Fr.refl (fun k => w0.heap.size ≤ k) w0).trans ?_) (fun h0 k hk e => by have := hlt k h0 hk; omega)) (fun h0 j hj hs => by have := hlt j h0 hj; have := (hB j hs).1; omega)).mono ?_
  · exact (Fr.of_below h.base).mono fun _ _ h => h.elim
  · rintro e w' ⟨fd, he, hfr, h1, h2⟩
    obtain ⟨I, l0, l1, a0, a1, hV⟩ := hS
    exact ⟨fd, he, k (rT d _) (rT fd _) w' h1 h2 (hfr.mono fun j _ e => e ▸ hV.sd)⟩
theorem load_fam (h : Fam B w0 w ts) (n : Int) (hn : n = 0 ∨ n = 1) (u v : Value) (la lb : List UInt8) (hu : SlB w u la) (hv : SlB w v lb) (hla : la.length ≤ 140737488355328) (hlb : lb.length ≤ 140737488355328) :
    Calls Try.prog 9 #[.agg #[u, v], .int .i64 n] w fun e w' => ∃ d, e = .returned (.tuple #[.pointer (some ⟨d, 0, none⟩), .int .i64 0]) ∧ Fam B w0 w' (ts ++ [dT d (Dk.load la lb n.toNat)]) :=
  (Load_any w n hn u v la lb hu hv hla hlb).mono fun _ _ ⟨d, he, hb, hd⟩ => ⟨d, he, h.add hb hd⟩
theorem rload_fam (h : Fam B w0 w ts) (n : Int) (hn : n = 0 ∨ n = 1) (u v : Value) (la lb : List UInt8) (hu : SlB w u la) (hv : SlB w v lb) (hla : la.length ≤ 140737488355328) (hlb : lb.length ≤ 140737488355328) :
    Calls Try.prog 45 #[.agg #[u, v], .int .i64 n] w fun e w' => ∃ d, e = .returned (.tuple #[.pointer (some ⟨d, 0, none⟩), .int .i64 0]) ∧ Fam B w0 w' (ts ++ [rT d (Dk.load la lb n.toNat)]) := by
  have hn2 : n.toNat < 2 := by omega
  have e : n = (n.toNat : Int) := by omega
  have C := rLoad_any u v la lb n.toNat w hu hv hn2 hla hlb
  rw [← e] at C
  exact C.mono fun e w' ⟨d, he, hb, hd⟩ => ⟨d, he, h.add hb hd⟩
end
theorem infoPr : (Try.prog.info? 59).map (fun i => (i.zero, i.size, i.bytes)) = some (some (.agg #[.pointer none, .pointer none]), 2, 16) := by kernel_rfl
/-- one pair more in the row -/
theorem wpList_appPr {w : World} {ops : Array Oper} {rest : List Oper} {o : Oper} {a : Act} {Q : Exit → Act → World → Prop} (hgd : o.guard = none) (s x : Operand)
    (ho : o.op = .call { callee := .builtin .append, args := #[s, x], argTypes := #[60, 60] })
    (v : Value) (ps : List Pr) (pr : Pr) (b : Nat) (t : TypeId) (hs : a.eval s = v) (hx : a.eval x = .slice (some ⟨b, 0, none⟩) 1 1) (hown : w.ownsRow 0 59 2 v ps.length (pairCells ps))
    (hb : w.heap[b]? = some (.cells #[.pointer (some ⟨pr.p, 0, none⟩), .pointer (some ⟨pr.r, 0, none⟩)] t (0, 0))) (hl : ps.length ≤ 1099511627776)
    (h : ∀ g cap w', w'.ownsRow 0 59 2 (.slice (some ⟨g, 0, none⟩) (ps.length + 1) cap) (ps.length + 1) (pairCells (ps ++ [pr])) → w.grownBy w' v.ownBlock → (∀ k, (Value.slice (some ⟨g, 0, none⟩) (ps.length + 1) cap).ownBlock = some k → v.ownBlock = some k ∨ w.heap.size ≤ k) → wpList Try.prog ops Q rest (a.put o.dst (.slice (some ⟨g, 0, none⟩) (ps.length + 1) cap)) w') : wpList Try.prog ops Q (o :: rest) a w := by
  obtain ⟨i, hi, hz0, hz1, hz2⟩ := info_parts infoPr
  refine wpList_append_lies w hgd s x 60 ho 0 59 i _ 2 16 Try.underlying60 hi hz0 hz1 hz2 rfl (by omega) v ps.length (pairCells ps) hs hown ⟨b, 0, none⟩ 1 1 [.pointer (some ⟨pr.p, 0, none⟩), .pointer (some ⟨pr.r, 0, none⟩)] hx rfl (World.news_of_block (cs := #[.pointer (some ⟨pr.p, 0, none⟩), .pointer (some ⟨pr.r, 0, none⟩)]) (t := t) (fr := (0, 0)) hb) (by simp [Value.oneCell']) (by omega) (by unfold maxLen; omega) (by omega) (Nat.zero_le _) w.heap.size rfl ?_
  intro g cap w' hown' hg hat _
  refine h g cap w' (by rw [pairCells_snoc]; exact hown') hg fun k hk => ?_
  simp only [Value.ownBlock, Option.some.injEq] at hk
  subst hk
  exact hat.imp id (fun e => by omega)
theorem things_snoc (v : Value) (ps : List Pr) (x : Pr) : things v (ps ++ [x]) = (ownT 59 2 v (ps.length + 1) (pairCells (ps ++ [x])) :: pairsT ps) ++ [dT x.p x.D, rT x.r x.D] := by
  unfold things allT
  rw [pairsT_snoc, List.length_append]
  rfl
/-- all pairs, k acts and m bytes in -/
structure All (B : Nat) (w0 w : World) (v : Value) (ps : List Pr) (k m : Nat) : Prop where
  fam : Fam B w0 w (things v ps)
  pos : 0 < ps.length
  len : ps.length ≤ k + 1
  mild : ∀ x ∈ ps, x.D.mild k m
  named : ∀ x ∈ ps, x.D.named ≤ 9223372036854775807
def OneE (B : Nat) (w0 : World) (k m : Nat) (e : Ending) (w' : World) : Prop := ∃ v' ps', e = .returned (.tuple #[v', .bool true]) ∧ All B w0 w' v' ps' k m
theorem All.same {B : Nat} {w0 w w' : World} {v : Value} {ps : List Pr} {k m m' : Nat} (h : All B w0 w v ps k m) (hf : Fam B w0 w' (things v ps)) (hm : m ≤ m') : All B w0 w' v ps (k + 1) m' :=
  ⟨hf, h.pos, by have := h.len; omega, fun x hx => mild_more (h.mild x hx) hm, h.named⟩
theorem All.turn {B : Nat} {w0 w w' : World} {v : Value} {ps : List Pr} {k m m' n : Nat} {x : Pr} {D' : Dk} (h : All B w0 w v ps k m) (_ : ps[n]? = some x) (hf : Fam B w0 w' (things v (ps.set n ⟨x.p, x.r, D'⟩))) (hm : m ≤ m') (hD : D'.mild (k + 1) m') (hnm : D'.named ≤ 9223372036854775807) : All B w0 w' v (ps.set n ⟨x.p, x.r, D'⟩) (k + 1) m' := by
  refine ⟨hf, by rw [List.length_set]; exact h.pos, by rw [List.length_set]; have := h.len; omega, fun y hy => ?_, fun y hy => ?_⟩
  · rcases List.mem_or_eq_of_mem_set hy with h1 | h1
    · exact mild_more (h.mild y h1) hm
    · rw [h1]; exact hD
  · rcases List.mem_or_eq_of_mem_set hy with h1 | h1
    · exact h.named y h1
    · rw [h1]; exact hnm
theorem All.more {B : Nat} {w0 w w' : World} {v v' : Value} {ps : List Pr} {k m m' : Nat} {x : Pr} (h : All B w0 w v ps (k + 1) m) (hlen : ps.length ≤ k + 1) (hf : Fam B w0 w' (things v' (ps ++ [x]))) (hm : m ≤ m') (hD : x.D.mild (k + 1) m') (hnm : x.D.named ≤ 9223372036854775807) : All B w0 w' v' (ps ++ [x]) (k + 1) m' := by
  refine ⟨hf, by simp, by simp; omega, fun y hy => ?_, fun y hy => ?_⟩
  · rcases List.mem_append.1 hy with h1 | h1
    · have := h.mild y h1
      exact ⟨Nat.le_trans this.room hm, this.acts, this.done⟩
    · rw [List.mem_singleton] at h1; rw [h1]; exact hD
  · rcases List.mem_append.1 hy with h1 | h1
    · exact h.named y h1
    · rw [List.mem_singleton] at h1; rw [h1]; exact hnm
/-- the pair's two pointers in the row -/
theorem Fam.pair {B : Nat} {w0 w : World} {A : Option Addr} {c n : Nat} {ps : List Pr} {L : List Thing} {x : Pr} (h : Fam B w0 w (things (.slice A ps.length c) ps ++ L)) (hx : ps[n]? = some x) : ∃ g, A = some ⟨g, 0, none⟩ ∧ w.cell? ⟨g, n * 2, none⟩ = some (.pointer (some ⟨x.p, 0, none⟩)) ∧ w.cell? ⟨g, n * 2 + 1, none⟩ = some (.pointer (some ⟨x.r, 0, none⟩)) := by
  have ho := (h.own (i := 0) rfl).1
  obtain ⟨h1, h2⟩ := pairCells_at ps n x hx
  have hlt := (List.getElem?_eq_some_iff.1 hx).1
  obtain ⟨g, cap, e, _⟩ := ho.form (by omega)
  injection e with e1 _ e2
  subst e1 e2
  have hc := ho.cells (g := g) rfl
  refine ⟨g, rfl, ?_, ?_⟩
  · have := hc _ _ h1; rwa [add_plain, Nat.zero_add] at this
  · have := hc _ _ h2; rwa [add_plain, Nat.zero_add] at this
theorem idx_of {d : Int} {l : Nat} (hl : 0 < l) : ∃ (n : Nat) (t : Int), n < l ∧ d.tmod (l : Int) = t ∧ -(l : Int) < t ∧ t < (l : Int) ∧ (0 ≤ t → t = (n : Int)) ∧ (t < 0 → t + (l : Int) = (n : Int)) := by
  have t1 := Int.tmod_lt_of_pos d (show (0 : Int) < (l : Int) by omega)
  have t2 := Int.lt_tmod_of_pos d (show (0 : Int) < (l : Int) by omega)
  rcases Int.lt_or_le (d.tmod l) 0 with h | h
  · exact ⟨(d.tmod l + l).toNat, d.tmod l, by omega, rfl, by omega, t1, by omega, by omega⟩
  · exact ⟨(d.tmod l).toNat, d.tmod l, by omega, rfl, by omega, t1, by omega, by omega⟩
end Go.Proofs.Ytcadacljacbipaa
