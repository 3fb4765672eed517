/- How a disk lies in memory; slices.Clone of bytes. -/
import Derived.Test.YtcadacljacbipaaDkM
import Derived.Test.YtcadacljacbipaaOwn
namespace Go.Proofs.Ytcadacljacbipaa
open Go.RowKit
theorem sl_fr0 {X : Nat → Prop} {w w1 : World} {v : Value} {l : List UInt8} (h : SlB w v l) (hf : Fr X w w1) (hx : 0 < l.length → ∀ k, v.ownBlock = some k → ¬ X k) : SlB w1 v l := by
  obtain ⟨A, c, rfl, h1, h2, h3⟩ := h
  refine ⟨A, c, rfl, h1, h2, fun h0 => ?_⟩
  obtain ⟨b, off, rfl, hc⟩ := h3 h0
  refine ⟨b, off, rfl, fun i hi => ?_⟩
  have hb := World.block_lt_of_cell? w _ (hc i hi)
  rw [World.cell?_of_block (w := w) (w' := w1) (a := ⟨b, off + i, none⟩) (hf.block b hb (hx h0 b rfl)), hc i hi]
theorem sl_lt {w : World} {v : Value} {l : List UInt8} (h : SlB w v l) (h0 : 0 < l.length) : ∀ k, v.ownBlock = some k → k < w.heap.size := by
  intro k hk
  obtain ⟨A, c, rfl, h1, h2, h3⟩ := h
  obtain ⟨b, off, rfl, hc⟩ := h3 h0
  have hb := World.block_lt_of_cell? w _ (hc 0 h0)
  injection hk with hk
  have hk : b = k := hk
  subst hk
  exact hb
theorem own_fr {X : Nat → Prop} {w w' : World} {base e s n : Nat} {v : Value} {xs : List Value} (h : w.ownsRow base e s v n xs) (hf : Fr X w w') (hx : ∀ k, v.ownBlock = some k → ¬ X k) : w'.ownsRow base e s v n xs :=
  own_block h fun k hk => hf.block k (World.ownsRow.lt h k hk).2 (hx k hk)
/-- bytes that are read in blocks of I -/
structure SlI (w : World) (I : Nat → Prop) (v : Value) (l : List UInt8) : Prop where
  sl : SlB w v l
  i : 0 < l.length → ∀ k, v.ownBlock = some k → I k
theorem SlI.fr {X I I' : Nat → Prop} {w w' : World} {v : Value} {l : List UInt8} (h : SlI w I v l) (hf : Fr X w w') (hx : ∀ k, I k → ¬ X k) (hi : ∀ k, I k → I' k) : SlI w' I' v l :=
  ⟨sl_fr0 h.sl hf fun h0 k hk => hx k (h.i h0 k hk), fun h0 k hk => hi k (h.i h0 k hk)⟩
theorem SlI.nil (w : World) (I : Nat → Prop) : SlI w I (.slice none 0 0) [] := ⟨Sl.nil _ _, fun h => absurd h (by simp)⟩
/-- a loose act al it lies: its function and what that has caught -/
def ActAt (w : World) (I : Nat → Prop) (f : Value) : DAct → Prop
  | .app d => 0 < d.length ∧ ∃ c v, f = .func (.func 55) #[] #[.pointer (some ⟨c, 0, none⟩)] ∧ I c ∧ w.heap[c]? = some (.cells #[v] 22 (0, 0)) ∧ SlI w I v d
  | .wipe => f = .func (.func 56) #[] #[]
theorem ActAt.fr {X I I' : Nat → Prop} {w w' : World} {f : Value} {a : DAct} (h : ActAt w I f a) (hf : Fr X w w') (hx : ∀ k, I k → ¬ X k) (hi : ∀ k, I k → I' k) : ActAt w' I' f a := by
  cases a with
  | app d =>
    obtain ⟨h0, c, v, e, h1, h2, h3⟩ := h
    exact ⟨h0, c, v, e, hi c h1, blk_fr hf h2 (hx c h1), h3.fr hf hx hi⟩
  | wipe => exact h
theorem ActAt.ok {w : World} {I : Nat → Prop} {f : Value} {a : DAct} (h : ActAt w I f a) : a.ok := by
  cases a with
  | app d => exact h.1
  | wipe => trivial
/-- the cells of loose acts -/
def actCells : List Value → List DAct → List Value
  | f :: fs, a :: al => f :: .int .i64 a.size :: actCells fs al
  | _, _ => []
theorem actCells_length : ∀ (fs : List Value) (al : List DAct), fs.length = al.length → (actCells fs al).length = al.length * 2
  | [], [], _ => rfl
  | f :: fs, a :: al, h => by simp [actCells, actCells_length fs al (by simpa using h)]; omega
theorem actCells_snoc : ∀ (fs : List Value) (al : List DAct) (f : Value) (a : DAct), fs.length = al.length → actCells (fs ++ [f]) (al ++ [a]) = actCells fs al ++ [f, .int .i64 a.size]
  | [], [], f, a, _ => rfl
  | g :: fs, b :: al, f, a, h => by simp [actCells, actCells_snoc fs al f a (by simpa using h)]
theorem actCells_at : ∀ (fs : List Value) (al : List DAct) (i : Nat) (f : Value) (a : DAct), fs.length = al.length → fs[i]? = some f → al[i]? = some a → (actCells fs al)[i * 2]? = some f ∧ (actCells fs al)[i * 2 + 1]? = some (.int .i64 a.size)
  | [], [], _, _, _, _, h, _ => by simp at h
  | g :: fs, b :: al, 0, f, a, h, hf, ha => by simp at hf ha; subst hf ha; exact ⟨rfl, rfl⟩
  | g :: fs, b :: al, i + 1, f, a, h, hf, ha => by
    have := actCells_at fs al i f a (by simpa using h) (by simpa using hf) (by simpa using ha)
    rw [Nat.add_mul, Nat.one_mul]
    simpa [actCells] using this
/-- the loose acts of a slot al they lie -/
structure ActsAt (w : World) (I : Nat → Prop) (av : Value) (al : List DAct) : Prop where
  ex : ∃ fs : List Value, fs.length = al.length ∧ w.ownsRow 0 79 2 av al.length (actCells fs al) ∧ ∀ (i : Nat) (f : Value) (a : DAct), fs[i]? = some f → al[i]? = some a → ActAt w I f a
theorem ActsAt.nil (w : World) (I : Nat → Prop) : ActsAt w I (.slice none 0 0) [] := ⟨[], rfl, World.ownsRow_nil _ _ _ _, fun i f a h => by simp at h⟩
theorem ActsAt.fr {X I I' : Nat → Prop} {w w' : World} {av : Value} {al : List DAct} (h : ActsAt w I av al) (hf : Fr X w w') (hx : ∀ k, I k → ¬ X k) (hi : ∀ k, I k → I' k) (hr : ∀ k, av.ownBlock = some k → ¬ X k) : ActsAt w' I' av al := by
  obtain ⟨fs, h1, h2, h3⟩ := h
  exact ⟨fs, h1, own_fr h2 hf hr, fun i f a hi' ha => (h3 i f a hi' ha).fr hf hx hi⟩
theorem ActsAt.lt {w : World} {I : Nat → Prop} {av : Value} {al : List DAct} (h : ActsAt w I av al) : ∀ k, av.ownBlock = some k → k < w.heap.size := by
  obtain ⟨fs, h1, h2, h3⟩ := h
  exact fun k hk => (World.ownsRow.lt h2 k hk).2
/-- a slot al it lies -/
structure SlotAt (w : World) (I : Nat → Prop) (lv nv av : Value) (s : Dslot) : Prop where
  lasts : SlI w I lv s.lasts
  now : SlI w I nv s.now
  acts : ActsAt w I av s.acts
theorem SlotAt.fr {X I I' : Nat → Prop} {w w' : World} {lv nv av : Value} {s : Dslot} (h : SlotAt w I lv nv av s) (hf : Fr X w w') (hx : ∀ k, I k → ¬ X k) (hi : ∀ k, I k → I' k) (hr : ∀ k, av.ownBlock = some k → ¬ X k) : SlotAt w' I' lv nv av s :=
  ⟨h.lasts.fr hf hx hi, h.now.fr hf hx hi, h.acts.fr hf hx hi hr⟩
def dkCells (l0 n0 a0 l1 n1 a1 : Value) (D : Dk) : Array Value := #[l0, n0, a0, l1, n1, a1, .int .i64 (D.cur : Int), .int .i64 (D.done : Int), .int .i64 (D.named : Int), .bool D.withIt, .bool D.dead]
/-- a disk at block d, all of it in blocks of S -/
structure DV (w : World) (S I : Nat → Prop) (d : Nat) (l0 n0 a0 l1 n1 a1 : Value) (D : Dk) : Prop where
  at_ : w.heap[d]? = some (.cells (dkCells l0 n0 a0 l1 n1 a1 D) 71 (0, 0))
  s0 : SlotAt w I l0 n0 a0 D.s0
  s1 : SlotAt w I l1 n1 a1 D.s1
  cur : D.cur < 2
  sd : S d
  id : ¬ I d
  is : ∀ k, I k → S k
  lt : ∀ k, S k → k < w.heap.size
  r0 : ∀ k, a0.ownBlock = some k → S k ∧ ¬ I k ∧ k ≠ d
  r1 : ∀ k, a1.ownBlock = some k → S k ∧ ¬ I k ∧ k ≠ d
  rr : ∀ k, a0.ownBlock = some k → a1.ownBlock ≠ some k
def DAt (w : World) (S : Nat → Prop) (d : Nat) (D : Dk) : Prop := ∃ I l0 n0 a0 l1 n1 a1, DV w S I d l0 n0 a0 l1 n1 a1 D
/-- blocks that are new -/
def Nw (w w' : World) (k : Nat) : Prop := w.heap.size ≤ k ∧ k < w'.heap.size
theorem DV.fr {X S S' I : Nat → Prop} {w w' : World} {d : Nat} {l0 n0 a0 l1 n1 a1 : Value} {D : Dk} (h : DV w S I d l0 n0 a0 l1 n1 a1 D) (hf : Fr X w w') (hx : ∀ k, S k → ¬ X k) (hs : ∀ k, S k → S' k) (hl : ∀ k, S' k → k < w'.heap.size) : DV w' S' I d l0 n0 a0 l1 n1 a1 D :=
  ⟨blk_fr hf h.at_ (hx d h.sd), h.s0.fr hf (fun k hk => hx k (h.is k hk)) (fun _ h => h) (fun k hk => hx k (h.r0 k hk).1), h.s1.fr hf (fun k hk => hx k (h.is k hk)) (fun _ h => h) (fun k hk => hx k (h.r1 k hk).1), h.cur, hs d h.sd, h.id, fun k hk => hs k (h.is k hk), hl,
    fun k hk => ⟨hs k (h.r0 k hk).1, (h.r0 k hk).2⟩, fun k hk => ⟨hs k (h.r1 k hk).1, (h.r1 k hk).2⟩, h.rr⟩
theorem DAt.fr {X S S' : Nat → Prop} {w w' : World} {d : Nat} {D : Dk} (h : DAt w S d D) (hf : Fr X w w') (hx : ∀ k, S k → ¬ X k) (hs : ∀ k, S k → S' k) (hl : ∀ k, S' k → k < w'.heap.size) : DAt w' S' d D := by
  obtain ⟨I, l0, n0, a0, l1, n1, a1, h⟩ := h
  exact ⟨I, l0, n0, a0, l1, n1, a1, h.fr hf hx hs hl⟩
theorem DAt.lt {S : Nat → Prop} {w : World} {d : Nat} {D : Dk} (h : DAt w S d D) : ∀ k, S k → k < w.heap.size := by
  obtain ⟨I, l0, n0, a0, l1, n1, a1, h⟩ := h
  exact h.lt
theorem DAt.below {S : Nat → Prop} {w w' : World} {d : Nat} {D : Dk} (h : DAt w S d D) (hb : Below w.heap.size w w') : DAt w' S d D :=
  h.fr (Fr.of_below hb) (fun _ _ h => h) (fun _ h => h) (fun k hk => Nat.lt_of_lt_of_le (h.lt k hk) hb.size)
theorem DAt.ok {S : Nat → Prop} {w : World} {d : Nat} {D : Dk} (h : DAt w S d D) : D.ok := by
  obtain ⟨I, l0, n0, a0, l1, n1, a1, h⟩ := h
  have key : ∀ {lv nv av : Value} {s : Dslot}, SlotAt w I lv nv av s → s.ok := by
    intro lv nv av s h a ha
    obtain ⟨fs, h1, h2, h3⟩ := h.acts
    obtain ⟨i, hi, rfl⟩ := List.getElem_of_mem ha
    exact (h3 i _ _ (List.getElem?_eq_getElem (by omega)) (List.getElem?_eq_getElem hi)).ok
  exact ⟨key h.s0, key h.s1, h.cur⟩
set_option maxHeartbeats 1000000 in
theorem Clone_any (v : Value) (l : List UInt8) (w : World) (h : SlB w v l) (hl : l.length ≤ 140737488355328) :
    Calls Try.prog 34 #[v] w fun e w' => ∃ v', e = .returned v' ∧ OwnB w' w.heap.size v' l ∧ Below w.heap.size w w' := by
  have hq := fun (a : Option Addr) (n c : Nat) (w : World) => Lib.run_eql_slice_nil (P := Try.prog) w 22 5 a n c 0 0 Try.underlying22
  obtain ⟨A, c, rfl⟩ := h.form
  cases A with
  | none =>
    obtain ⟨_, _, e, h1, h2, _⟩ := h
    injection e with e1 _ e3
    subst e1 e3
    have hc := h2 rfl
    obtain rfl : l = [] := List.length_eq_zero_iff.1 (by omega)
    subst hc
    go_enter Try.func34, Try.ntmps34
    go_wp2
    go_ret
    exact ⟨_, rfl, OwnB.nil _ _, Below.refl _ _⟩
  | some a =>
    have H := hid h
    clear h
    go_enter Try.func34, Try.ntmps34
    go_wp2_with (at_builtin; refine wpList_appB rfl (.tmp 5) (.tmp 6) rfl w.heap.size _ _ [] l rfl rfl (by exact lit0 w) (by exact H.out.below ((Below.refl _ _).alloc (Nat.le_refl _) _)) (by simp only [List.length_nil]; omega) (by simp) ?_; intro v1 w1 ho1 hg1; rw [List.nil_append] at ho1; have HB := hid (OwnB.grown ((Below.refl w.heap.size w).alloc (Nat.le_refl _) _) (lit0 w) (Nat.le_refl _) (by simp) hg1); have HO := hid ho1; clear ho1 hg1)
    go_ret
    exact ⟨_, rfl, HO.out, HB.out⟩
end Go.Proofs.Ytcadacljacbipaa
