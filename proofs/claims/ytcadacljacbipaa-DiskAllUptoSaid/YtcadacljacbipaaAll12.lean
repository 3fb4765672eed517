/- More words on slices of bytes that a call owns. -/
import Derived.Test.YtcadacljacbipaaAll1
import Derived.Test.YtcadacljacbipaaAll8
import Derived.Test.YtcadacljacbipaaAll11
namespace Go.Proofs.Ytcadacljacbipaa
open Go.RowKit
theorem OwnB.pre_ {w : World} {base g n cap : Nat} {l : List UInt8} (h : OwnB w base (.slice (some ⟨g, 0, none⟩) n cap) l) (k : Nat) (hk : k ≤ l.length) : OwnB w base (.slice (some ⟨g, 0, none⟩) k cap) (l.take k) := by
  obtain ⟨h1, ⟨h2, _⟩ | ⟨g', cap', cur, e, hb, hg, hn, hm, hs, hc⟩⟩ := h
  · cases h2
  · injection e with e1 e2 e3
    injection e1 with e1
    injection e1 with e1
    subst e1 e3
    have hl : (l.take k).length = k := by rw [List.length_take]; omega
    refine ⟨by rw [hl]; simp; omega, .inr ⟨g, cap, cur, by rw [hl], hb, hg, by rw [hl]; omega, hm, hs, ?_⟩⟩
    rw [hl]
    have := congrArg (List.take k) hc
    rw [List.take_take, ← List.map_take] at this
    rw [show min k (l.length * 1) = k * 1 by omega] at this
    exact this
end Go.Proofs.Ytcadacljacbipaa

/- The law's helpers: wide, mod, act; a disk in blocks from B on. -/
namespace Go.Proofs.Ytcadacljacbipaa
open Go.RowKit
set_option maxHeartbeats 1000000 in
theorem wide_any (v : Value) (l : List UInt8) (w : World) (h : SlB w v l) (hl : l.length + 2 ≤ 140737488355328) :
    Calls Try.prog 10 #[v] w fun e w' => ∃ g c, e = .returned (.slice (some ⟨g, 0, none⟩) l.length c) ∧ OwnB w' w.heap.size (.slice (some ⟨g, 0, none⟩) (l.length + 2) c) (l ++ [193, 194]) ∧ l.length + 2 ≤ c ∧ Below w.heap.size w w' := by
  have H := hid h
  obtain ⟨A, c, rfl⟩ := h.form
  clear h
  go_enter Try.func10, Try.ntmps10
  go_upto_region 4 with (first
    | (at_builtin; refine wpList_appB rfl (.tmp 4) (.tmp 5) rfl w.heap.size (.slice none 0 0) _ [] l rfl rfl (OwnB.nil _ _) H.out (by simp only [List.length_nil]; omega) (Nat.le_refl _) ?_; intro v1 w1 ho1 hg1; rw [List.nil_append] at ho1; have HB := hid (OwnB.grown (Below.refl w.heap.size w) (OwnB.nil w w.heap.size) (Nat.le_refl _) (Nat.le_refl _) hg1); obtain ⟨A1, c1, rfl⟩ := ho1.form; have HO := hid ho1; clear ho1 hg1)
    | (at_builtin; refine wpList_appB rfl (.tmp 7) (.tmp 8) rfl w.heap.size _ _ l [193, 194] rfl rfl (HO.out.alloc _) (by exact lit_sl w1 [193, 194] (by simp)) (by simp only [List.length_cons, List.length_nil]; omega) (Nat.le_trans HB.out.size (by simp)) ?_; intro v2 w2 ho2 hg2; have HB2 := hid (OwnB.grown (HB.out.alloc HB.out.size _) (HO.out.alloc _) (Nat.le_refl _) (Nat.le_trans HB.out.size (by simp)) hg2); have hc2 := ho2.some_ (by simp); obtain ⟨g, cap, rfl, _, hcap, _⟩ := hc2; have HO2 := hid ho2; simp only [List.length_append, List.length_cons, List.length_nil, Nat.zero_add] at hcap HO2; clear ho2 hg2))
  have hk : (l.length : Int) ≤ (cap : Int) := by omega
  go_wp2
  go_ret
  exact ⟨g, cap, rfl, by simpa using HO2.out, by omega, HB2.out⟩
theorem mod_any (k : Int) (n : Nat) (_ : -9223372036854775808 ≤ k) (_ : k ≤ 9223372036854775807) (hn : 0 < n) (hn2 : n ≤ 1125899906842624) (w : World) :
    Calls Try.prog 16 #[.int .i64 k, .int .i64 (n : Int)] w fun e w' => e = .returned (.int .i64 (cmod k n : Int)) ∧ w' = w := by
  have t1 := Int.tmod_lt_of_pos k (show (0 : Int) < (n : Int) by omega)
  have t2 := Int.lt_tmod_of_pos k (show (0 : Int) < (n : Int) by omega)
  have hn0 : (1 : Int) ≤ (n : Int) := by omega
  have e : (cmod k n : Int) = k % n := by
    unfold cmod; rw [Int.toNat_of_nonneg (Int.emod_nonneg _ (by omega))]
  have d : k.tmod n = k % n - (if 0 ≤ k ∨ (n : Int) ∣ k then 0 else ((n : Int)).natAbs) := Int.tmod_eq_emod
  have e1 := Int.emod_nonneg k (show (n : Int) ≠ 0 by omega)
  have e2 := Int.emod_lt_of_pos k (show (0 : Int) < (n : Int) by omega)
  rcases Int.lt_or_le (k.tmod n) 0 with hneg | hneg
  · have HR : Hid (k.tmod n + n = (cmod k n : Int)) := hid (by
      rw [e]
      split at d <;> omega)
    clear e d e1 e2
    go_enter Try.func16, Try.ntmps16
    go_wp2
    go_ret
    exact ⟨congrArg (fun n => Ending.returned (.int .i64 n)) HR.out, rfl⟩
  · have HR : Hid (k.tmod n = (cmod k n : Int)) := hid (by
      rw [e]
      split at d <;> omega)
    clear e d e1 e2
    go_enter Try.func16, Try.ntmps16
    go_wp2
    go_ret
    exact ⟨congrArg (fun n => Ending.returned (.int .i64 n)) HR.out, rfl⟩
/-- a disk, all of it in blocks from B on -/
def DB (B : Nat) (w : World) (d : Nat) (D : Dk) : Prop := ∃ S, (∀ k, S k → B ≤ k) ∧ DAt w S d D
theorem DB.below {B : Nat} {w w' : World} {d : Nat} {D : Dk} (h : DB B w d D) (hb : Below w.heap.size w w') : DB B w' d D := by
  obtain ⟨S, h1, h2⟩ := h
  exact ⟨S, h1, h2.below hb⟩
theorem DB.of {B : Nat} {w w' : World} {S : Nat → Prop} {d : Nat} {D : Dk} (hS : ∀ k, S k → B ≤ k) (hB : B ≤ w.heap.size) (h : Dt w w' S d D) : DB B w' d D ∧ Below B w w' :=
  ⟨⟨_, fun k hk => hk.elim (fun g => hS k g) (fun g => Nat.le_trans hB g.1), h.1⟩, h.2.to_below (fun k hk g => by have := hS k g; omega) hB⟩
/-- the law's own word of a call -/
structure Dop where
  kind : Int
  d : Int
  slot : Int
  data : List UInt8
  n : Int
  done : Bool
  sa : List UInt8
  sb : List UInt8
  ch : List Int
def Dop.vals (o : Dop) (v a b c : Value) : List Value := [.int .i64 o.kind, .int .i64 o.d, .int .i64 o.slot, v, .int .i64 o.n, .bool o.done, a, b, c]
/-- which of the four acts -/
def Dop.act (o : Dop) (da : List UInt8) : DOp := if o.kind = 1 then .append da else if o.kind = 2 then .wipe else if o.kind = 3 then .sync else .switch
def Dop.four (o : Dop) : Prop := 1 ≤ o.kind ∧ o.kind ≤ 4
theorem fits_mono {D : Dk} {m n : Nat} (h : D.fits m) (hn : n ≤ m) : D.fits n := ⟨by have := h.room; omega, h.acts, h.done, h.named⟩
set_option maxRecDepth 100000 in
set_option maxHeartbeats 4000000 in
theorem lawact_any (w : World) (S : Nat → Prop) (d : Nat) (D : Dk) (o : Dop) (v a b c dv : Value) (da : List UInt8) (h : DAt w S d D) (hf : D.fits da.length) (hk : o.four) (hdv : SlB w dv da) :
    Calls Try.prog 28 #[.pointer (some ⟨d, 0, none⟩), .agg #[.int .i64 o.kind, .int .i64 o.d, .int .i64 o.slot, v, .int .i64 o.n, .bool o.done, a, b, c], dv] w fun e w' => e = .returned (.int .i64 (D.err o.slot (o.act da).wipes)) ∧ Dt w w' S d (D.step o.slot (o.act da)) := by
  obtain ⟨kd, dn, sl, dat, n, dn2, sa, sb, ch⟩ := o
  simp only [Dop.four] at hk
  simp only at *
  have H := hid h
  have HF := hid hf
  have HDV := hid hdv
  have hk4 : kd = 1 ∨ kd = 2 ∨ kd = 3 ∨ kd = 4 := by omega
  clear h hf hdv hk
  rcases hk4 with rfl | rfl | rfl | rfl
  · skip
    go_enter Try.func28, Try.ntmps28
    go_upto_region 1 with (fail)
    refine Code.seen (fun W => W.heap[w.heap.size]? = some (.cells #[.int .i64 1, .int .i64 dn, .int .i64 sl, v, .int .i64 n, .bool dn2, a, b, c] 51 (0, 0)) ∧ Below w.heap.size w W) ⟨heap_alloc_new _ _, (Below.refl _ _).alloc (Nat.le_refl _) _⟩ fun w1 H1 => ?_
    have x0 : w1.cell? ⟨w.heap.size, 0, none⟩ = some (.int .i64 1) := by rw [blk_cell H1.out.1]; rfl
    have x2 : w1.cell? ⟨w.heap.size, 2, none⟩ = some (.int .i64 sl) := by rw [blk_cell H1.out.1]; rfl
    go_wp2_with fail
    refine (Append_any w1 S d D sl dv da (H.out.below H1.out.2) HF.out (HDV.out.below H1.out.2)).mono ?_
    rintro e w2 ⟨rfl, h2⟩
    have R := hid (Did.close H1.out.2 (T := fun _ => False) ⟨h2.1.fr (Fr.refl (fun _ => False) _) (fun _ _ h => h) (fun k hk => hk.elim .inl (fun g => .inr (.inr g))) (fun k hk => h2.1.lt k (hk.elim .inl (fun g => g.elim (fun g => g.elim) .inr))), h2.2⟩ (fun _ h => h.elim))
    clear h2
    go_wp2
    go_ret
    exact ⟨rfl, R.out⟩
  · skip
    go_enter Try.func28, Try.ntmps28
    go_upto_region 1 with (fail)
    refine Code.seen (fun W => W.heap[w.heap.size]? = some (.cells #[.int .i64 2, .int .i64 dn, .int .i64 sl, v, .int .i64 n, .bool dn2, a, b, c] 51 (0, 0)) ∧ Below w.heap.size w W) ⟨heap_alloc_new _ _, (Below.refl _ _).alloc (Nat.le_refl _) _⟩ fun w1 H1 => ?_
    have x0 : w1.cell? ⟨w.heap.size, 0, none⟩ = some (.int .i64 2) := by rw [blk_cell H1.out.1]; rfl
    have x2 : w1.cell? ⟨w.heap.size, 2, none⟩ = some (.int .i64 sl) := by rw [blk_cell H1.out.1]; rfl
    go_wp2_with fail
    refine (Wipe_any w1 S d D sl (H.out.below H1.out.2) (fits_mono HF.out (Nat.zero_le _))).mono ?_
    rintro e w2 ⟨rfl, h2⟩
    have R := hid (Did.close H1.out.2 (T := fun _ => False) ⟨h2.1.fr (Fr.refl (fun _ => False) _) (fun _ _ h => h) (fun k hk => hk.elim .inl (fun g => .inr (.inr g))) (fun k hk => h2.1.lt k (hk.elim .inl (fun g => g.elim (fun g => g.elim) .inr))), h2.2⟩ (fun _ h => h.elim))
    clear h2
    go_wp2
    go_ret
    exact ⟨rfl, R.out⟩
  · skip
    go_enter Try.func28, Try.ntmps28
    go_upto_region 1 with (fail)
    refine Code.seen (fun W => W.heap[w.heap.size]? = some (.cells #[.int .i64 3, .int .i64 dn, .int .i64 sl, v, .int .i64 n, .bool dn2, a, b, c] 51 (0, 0)) ∧ Below w.heap.size w W) ⟨heap_alloc_new _ _, (Below.refl _ _).alloc (Nat.le_refl _) _⟩ fun w1 H1 => ?_
    have x0 : w1.cell? ⟨w.heap.size, 0, none⟩ = some (.int .i64 3) := by rw [blk_cell H1.out.1]; rfl
    have x2 : w1.cell? ⟨w.heap.size, 2, none⟩ = some (.int .i64 sl) := by rw [blk_cell H1.out.1]; rfl
    go_wp2_with fail
    refine (Sync_any w1 S d D sl (H.out.below H1.out.2) (fits_mono HF.out (Nat.zero_le _))).mono ?_
    rintro e w2 ⟨rfl, h2⟩
    have R := hid (Did.close H1.out.2 (T := fun _ => False) ⟨h2.1.fr (Fr.refl (fun _ => False) _) (fun _ _ h => h) (fun k hk => hk.elim .inl (fun g => .inr (.inr g))) (fun k hk => h2.1.lt k (hk.elim .inl (fun g => g.elim (fun g => g.elim) .inr))), h2.2⟩ (fun _ h => h.elim))
    clear h2
    go_wp2
    go_ret
    exact ⟨rfl, R.out⟩
  · skip
    go_enter Try.func28, Try.ntmps28
    go_upto_region 1 with (fail)
    refine Code.seen (fun W => W.heap[w.heap.size]? = some (.cells #[.int .i64 4, .int .i64 dn, .int .i64 sl, v, .int .i64 n, .bool dn2, a, b, c] 51 (0, 0)) ∧ Below w.heap.size w W) ⟨heap_alloc_new _ _, (Below.refl _ _).alloc (Nat.le_refl _) _⟩ fun w1 H1 => ?_
    have x0 : w1.cell? ⟨w.heap.size, 0, none⟩ = some (.int .i64 4) := by rw [blk_cell H1.out.1]; rfl
    have x2 : w1.cell? ⟨w.heap.size, 2, none⟩ = some (.int .i64 sl) := by rw [blk_cell H1.out.1]; rfl
    go_wp2_with fail
    refine (Switch_any w1 S d D sl (H.out.below H1.out.2) (fits_mono HF.out (Nat.zero_le _))).mono ?_
    rintro e w2 ⟨rfl, h2⟩
    have R := hid (Did.close H1.out.2 (T := fun _ => False) ⟨h2.1.fr (Fr.refl (fun _ => False) _) (fun _ _ h => h) (fun k hk => hk.elim .inl (fun g => .inr (.inr g))) (fun k hk => h2.1.lt k (hk.elim .inl (fun g => g.elim (fun g => g.elim) .inr))), h2.2⟩ (fun _ h => h.elim))
    clear h2
    go_wp2
    go_ret
    exact ⟨rfl, R.out⟩
end Go.Proofs.Ytcadacljacbipaa

/- How the document's disk lies in memory; bytes with an act done on them; a slot's bytes as they are. -/
namespace Go.Proofs.Ytcadacljacbipaa
open Go.RowKit
def isW : DAct → Bool
  | .app _ => false
  | .wipe => true
def DAct.data : DAct → List UInt8
  | .app d => d
  | .wipe => []
/-- a loose act's data, as it lies -/
def LAct (w : World) (I : Nat → Prop) (v : Value) (a : DAct) : Prop := SlI w I v a.data ∧ a.ok
def looseCells : List Value → List DAct → List Value
  | v :: vs, a :: al => .bool (isW a) :: v :: looseCells vs al
  | _, _ => []
theorem looseCells_length : ∀ (vs : List Value) (al : List DAct), vs.length = al.length → (looseCells vs al).length = al.length * 2
  | [], [], _ => rfl
  | v :: vs, a :: al, h => by simp [looseCells, looseCells_length vs al (by simpa using h)]; omega
theorem looseCells_snoc : ∀ (vs : List Value) (al : List DAct) (v : Value) (a : DAct), vs.length = al.length → looseCells (vs ++ [v]) (al ++ [a]) = looseCells vs al ++ [.bool (isW a), v]
  | [], [], v, a, _ => rfl
  | u :: vs, b :: al, v, a, h => by simp [looseCells, looseCells_snoc vs al v a (by simpa using h)]
theorem looseCells_at : ∀ (vs : List Value) (al : List DAct) (i : Nat) (v : Value) (a : DAct), vs.length = al.length → vs[i]? = some v → al[i]? = some a → (looseCells vs al)[i * 2]? = some (.bool (isW a)) ∧ (looseCells vs al)[i * 2 + 1]? = some v
  | [], [], _, _, _, _, h, _ => by simp at h
  | u :: vs, b :: al, 0, v, a, h, hv, ha => by simp at hv ha; subst hv ha; exact ⟨rfl, rfl⟩
  | u :: vs, b :: al, i + 1, v, a, h, hv, ha => by
    have := looseCells_at vs al i v a (by simpa using h) (by simpa using hv) (by simpa using ha)
    rw [Nat.add_mul, Nat.one_mul]
    simpa [looseCells] using this
structure LsAt (w : World) (I : Nat → Prop) (av : Value) (al : List DAct) : Prop where
  ex : ∃ vs : List Value, vs.length = al.length ∧ w.ownsRow 0 92 2 av al.length (looseCells vs al) ∧ ∀ (i : Nat) (v : Value) (a : DAct), vs[i]? = some v → al[i]? = some a → LAct w I v a
theorem LsAt.nil (w : World) (I : Nat → Prop) : LsAt w I (.slice none 0 0) [] := ⟨[], rfl, World.ownsRow_nil _ _ _ _, fun i f a h => by simp at h⟩
theorem LsAt.fr {X I I' : Nat → Prop} {w w' : World} {av : Value} {al : List DAct} (h : LsAt w I av al) (hf : Fr X w w') (hx : ∀ k, I k → ¬ X k) (hi : ∀ k, I k → I' k) (hr : ∀ k, av.ownBlock = some k → ¬ X k) : LsAt w' I' av al := by
  obtain ⟨vs, h1, h2, h3⟩ := h
  exact ⟨vs, h1, own_fr h2 hf hr, fun i v a hi' ha => ⟨(h3 i v a hi' ha).1.fr hf hx hi, (h3 i v a hi' ha).2⟩⟩
def refCells (l0 l1 a0 a1 : Value) (D : Dk) : Array Value := #[l0, l1, a0, a1, .int .i64 (D.cur : Int), .int .i64 (D.done : Int), .int .i64 (D.named : Int), .bool D.withIt, .bool D.dead]
/-- the document's disk at block d, all of it in blocks of S -/
structure RV (w : World) (S I : Nat → Prop) (d : Nat) (l0 l1 a0 a1 : Value) (D : Dk) : Prop where
  at_ : w.heap[d]? = some (.cells (refCells l0 l1 a0 a1 D) 83 (0, 0))
  k0 : SlI w I l0 D.s0.lasts
  k1 : SlI w I l1 D.s1.lasts
  m0 : LsAt w I a0 D.s0.acts
  m1 : LsAt w I a1 D.s1.acts
  cur : D.cur < 2
  sd : S d
  id : ¬ I d
  is : ∀ k, I k → S k
  lt : ∀ k, S k → k < w.heap.size
  r0 : ∀ k, a0.ownBlock = some k → S k ∧ ¬ I k ∧ k ≠ d
  r1 : ∀ k, a1.ownBlock = some k → S k ∧ ¬ I k ∧ k ≠ d
  rr : ∀ k, a0.ownBlock = some k → a1.ownBlock ≠ some k
def RAt (w : World) (S : Nat → Prop) (d : Nat) (D : Dk) : Prop := ∃ I l0 l1 a0 a1, RV w S I d l0 l1 a0 a1 D
theorem RV.fr {X S S' I : Nat → Prop} {w w' : World} {d : Nat} {l0 l1 a0 a1 : Value} {D : Dk} (h : RV w S I d l0 l1 a0 a1 D) (hf : Fr X w w') (hx : ∀ k, S k → ¬ X k) (hs : ∀ k, S k → S' k) (hl : ∀ k, S' k → k < w'.heap.size) : RV w' S' I d l0 l1 a0 a1 D :=
  ⟨blk_fr hf h.at_ (hx d h.sd), h.k0.fr hf (fun k hk => hx k (h.is k hk)) (fun _ h => h), h.k1.fr hf (fun k hk => hx k (h.is k hk)) (fun _ h => h), h.m0.fr hf (fun k hk => hx k (h.is k hk)) (fun _ h => h) (fun k hk => hx k (h.r0 k hk).1), h.m1.fr hf (fun k hk => hx k (h.is k hk)) (fun _ h => h) (fun k hk => hx k (h.r1 k hk).1), h.cur, hs d h.sd, h.id, fun k hk => hs k (h.is k hk), hl,
    fun k hk => ⟨hs k (h.r0 k hk).1, (h.r0 k hk).2⟩, fun k hk => ⟨hs k (h.r1 k hk).1, (h.r1 k hk).2⟩, h.rr⟩
theorem RAt.fr {X S S' : Nat → Prop} {w w' : World} {d : Nat} {D : Dk} (h : RAt w S d D) (hf : Fr X w w') (hx : ∀ k, S k → ¬ X k) (hs : ∀ k, S k → S' k) (hl : ∀ k, S' k → k < w'.heap.size) : RAt w' S' d D := by
  obtain ⟨I, l0, l1, a0, a1, h⟩ := h
  exact ⟨I, l0, l1, a0, a1, h.fr hf hx hs hl⟩
theorem RAt.lt {S : Nat → Prop} {w : World} {d : Nat} {D : Dk} (h : RAt w S d D) : ∀ k, S k → k < w.heap.size := by
  obtain ⟨I, l0, l1, a0, a1, h⟩ := h
  exact h.lt
theorem RAt.below {S : Nat → Prop} {w w' : World} {d : Nat} {D : Dk} (h : RAt w S d D) (hb : Below w.heap.size w w') : RAt w' S d D :=
  h.fr (Fr.of_below hb) (fun _ _ h => h) (fun _ h => h) (fun k hk => Nat.lt_of_lt_of_le (h.lt k hk) hb.size)
/-- what a call leaves: the disk, in its blocks and new ones -/
def Rt (w W : World) (S : Nat → Prop) (d : Nat) (D : Dk) : Prop := RAt W (fun k => S k ∨ Nw w W k) d D ∧ Fr S w W
theorem Rt.stay {w w1 : World} {S : Nat → Prop} {d : Nat} {D : Dk} (hb : Below w.heap.size w w1) (h : RAt w S d D) : Rt w w1 S d D :=
  ⟨h.fr (Fr.of_below hb) (fun _ _ h => h) (fun _ h => .inl h) (fun k hk => hk.elim (fun g => Nat.lt_of_lt_of_le (h.lt k g) hb.size) (fun g => g.2)), (Fr.of_below hb).mono fun _ _ h => h.elim⟩
/-- the cells of a disk -/
theorem RV.cells {w : World} {S I : Nat → Prop} {d : Nat} {l0 l1 a0 a1 : Value} {D : Dk} (h : RV w S I d l0 l1 a0 a1 D) :
    w.cell? ⟨d, 0, none⟩ = some l0 ∧ w.cell? ⟨d, 1, none⟩ = some l1 ∧ w.cell? ⟨d, 2, none⟩ = some a0 ∧ w.cell? ⟨d, 3, none⟩ = some a1 ∧ w.cell? ⟨d, 4, none⟩ = some (.int .i64 (D.cur : Int)) ∧ w.cell? ⟨d, 5, none⟩ = some (.int .i64 (D.done : Int)) ∧ w.cell? ⟨d, 6, none⟩ = some (.int .i64 (D.named : Int)) ∧ w.cell? ⟨d, 7, none⟩ = some (.bool D.withIt) ∧ w.cell? ⟨d, 8, none⟩ = some (.bool D.dead) :=
  ⟨by rw [blk_cell h.at_]; rfl, by rw [blk_cell h.at_]; rfl, by rw [blk_cell h.at_]; rfl, by rw [blk_cell h.at_]; rfl, by rw [blk_cell h.at_]; rfl, by rw [blk_cell h.at_]; rfl, by rw [blk_cell h.at_]; rfl, by rw [blk_cell h.at_]; rfl, by rw [blk_cell h.at_]; rfl⟩
set_option maxHeartbeats 1000000 in
theorem laid_app (bv dv : Value) (b da : List UInt8) (w : World) (hb : SlB w bv b) (hd : SlB w dv da) (hl : b.length + da.length ≤ 140737488355328) :
    Calls Try.prog 63 #[bv, .agg #[.bool false, dv]] w fun e w' => ∃ v', e = .returned v' ∧ OwnB w' w.heap.size v' (b ++ da) ∧ Below w.heap.size w w' := by
  have HB := hid hb
  have HD := hid hd
  obtain ⟨A, c, rfl⟩ := hb.form
  obtain ⟨A2, c2, rfl⟩ := hd.form
  clear hb hd
  go_enter Try.func63, Try.ntmps63
  go_upto_region 4 with (fail)
  refine Code.seen (fun W => Below w.heap.size w W ∧ W.heap[w.heap.size]? = some (.cells #[.bool false, .slice A2 da.length c2] 92 (0, 0))) ⟨(Below.refl _ _).alloc (Nat.le_refl _) _, heap_alloc_new _ _⟩ fun w1 H1 => ?_
  have x1 : w1.cell? ⟨w.heap.size, 1, none⟩ = some (.slice A2 da.length c2) := by rw [blk_cell H1.out.2]; rfl
  have X1 := hid x1
  go_upto_region 5 with (at_builtin; refine wpList_appB rfl (.tmp 9) (.tmp 10) rfl w1.heap.size (.slice none 0 0) _ [] b rfl rfl (OwnB.nil _ _) (HB.out.below H1.out.1) (by simp only [List.length_nil]; omega) (Nat.le_refl _) ?_; intro v1 w2 ho1 hg1; rw [List.nil_append] at ho1; have HB2 := hid (OwnB.grown (Below.refl w1.heap.size w1) (OwnB.nil w1 w1.heap.size) (Nat.le_refl _) (Nat.le_refl _) hg1); obtain ⟨A3, c3, rfl⟩ := ho1.form; have HO := hid ho1; clear ho1 hg1)
  have x2 : w2.cell? ⟨w.heap.size, 1, none⟩ = some (.slice A2 da.length c2) := (HB2.out.cell (World.block_lt_of_cell? w1 _ X1.out)).trans X1.out
  have HD2 := hid ((HD.out.below H1.out.1).below HB2.out)
  clear x1
  go_wp2_with (at_builtin; refine wpList_appB rfl (.tmp 12) (.tmp 14) rfl w1.heap.size _ _ b da rfl rfl HO.out HD2.out hl HB2.out.size ?_; intro v3 w3 ho3 hg3; have HB3 := hid (OwnB.grown HB2.out HO.out (Nat.le_refl _) HB2.out.size hg3); have HO3 := hid ho3; clear ho3 hg3)
  go_ret
  exact ⟨_, rfl, own_base HO3.out H1.out.1.size, H1.out.1.trans (HB3.out.mono H1.out.1.size)⟩
theorem laid_wipe (bv dv : Value) (w : World) :
    Calls Try.prog 63 #[bv, .agg #[.bool true, dv]] w fun e w' => ∃ v', e = .returned v' ∧ OwnB w' w.heap.size v' [] ∧ Below w.heap.size w w' := by
  go_enter Try.func63, Try.ntmps63
  go_wp2
  go_ret
  exact ⟨_, rfl, OwnB.nil _ _, (Below.refl _ _).alloc (Nat.le_refl _) _⟩
theorem laid_any (bv dv : Value) (b : List UInt8) (a : DAct) (w : World) (hb : SlB w bv b) (hd : SlB w dv a.data) (hl : b.length + a.size ≤ 140737488355328) :
    Calls Try.prog 63 #[bv, .agg #[.bool (isW a), dv]] w fun e w' => ∃ v', e = .returned v' ∧ OwnB w' w.heap.size v' (a.on b) ∧ Below w.heap.size w w' := by
  cases a with
  | app d => exact laid_app bv dv b d w hb hd hl
  | wipe => exact laid_wipe bv dv w
/-- the cells of slot i: what lasts, the loose acts -/
theorem RV.slot {w : World} {S I : Nat → Prop} {d : Nat} {l0 l1 a0 a1 : Value} {D : Dk} (h : RV w S I d l0 l1 a0 a1 D) (i : Nat) (hi : i < 2) :
    ∃ lv av, w.cell? ⟨d, i, none⟩ = some lv ∧ w.cell? ⟨d, 2 + i, none⟩ = some av ∧ SlI w I lv (D.slot i).lasts ∧ LsAt w I av (D.slot i).acts := by
  obtain ⟨c0, c1, c2, c3, _⟩ := h.cells
  obtain rfl | rfl : i = 0 ∨ i = 1 := by omega
  · exact ⟨l0, a0, c0, c2, h.k0, h.m0⟩
  · exact ⟨l1, a1, c1, c3, h.k1, h.m1⟩
theorem LsAt.at_ {w : World} {I : Nat → Prop} {av : Value} {al : List DAct} (h : LsAt w I av al) : ∃ A c, av = .slice A al.length c ∧ ∀ i (hi : i < al.length), ∃ b v, A = some ⟨b, 0, none⟩ ∧ w.cell? ⟨b, i * 2, none⟩ = some (.bool (isW al[i])) ∧ w.cell? ⟨b, i * 2 + 1, none⟩ = some v ∧ SlI w I v (al[i]).data := by
  obtain ⟨vs, hl, hown, hvs⟩ := h
  obtain ⟨_, ⟨e, h0⟩ | ⟨g, cap, cur, e, hb, hg, r⟩⟩ := id hown
  · subst e
    exact ⟨none, 0, by rw [h0], fun i hi => by omega⟩
  · subst e
    refine ⟨some ⟨g, 0, none⟩, cap, rfl, fun i hi => ?_⟩
    have hvi : vs[i]? = some (vs[i]'(by omega)) := List.getElem?_eq_getElem (by omega)
    have hai : al[i]? = some al[i] := List.getElem?_eq_getElem hi
    obtain ⟨h1, h2⟩ := looseCells_at vs al i _ _ hl hvi hai
    have hc := hown.cells (g := g) rfl
    refine ⟨g, _, rfl, ?_, ?_, (hvs i _ _ hvi hai).1⟩
    · have := hc _ _ h1; rwa [add_plain, Nat.zero_add] at this
    · have := hc _ _ h2; rwa [add_plain, Nat.zero_add] at this
theorem on_room (s : Dslot) (k : Nat) (hk : k < s.acts.length) : (doAll (s.acts.take k) s.lasts).length + (s.acts[k]).size ≤ s.room := by
  have h1 := doAll_length (s.acts.take k) s.lasts
  have h2 := sizes_take s.acts k hk
  unfold Dslot.room
  omega
set_option maxHeartbeats 4000000 in
theorem now_any (w : World) (S : Nat → Prop) (d : Nat) (D : Dk) (i : Nat) (h : RAt w S d D) (hi : i < 2) (hroom : (D.slot i).room ≤ 140737488355328) (hacts : (D.slot i).acts.length ≤ 1099511627776) :
    Calls Try.prog 64 #[.pointer (some ⟨d, 0, none⟩), .int .i64 i] w fun e w' => ∃ v, e = .returned v ∧ OwnB w' w.heap.size v (D.slot i).now ∧ Below w.heap.size w w' := by
  obtain ⟨I, l0, l1, a0, a1, hV⟩ := h
  have hslot := hV.slot i hi
  obtain ⟨s, hs⟩ : ∃ s, D.slot i = s := ⟨_, rfl⟩
  rw [hs] at hslot hroom hacts ⊢
  obtain ⟨lv, av, x0, x1, hL, hA⟩ := hslot
  obtain ⟨Aa, ca, rfl, hact⟩ := hA.at_
  obtain ⟨Al, cl, rfl⟩ := hL.sl.form
  have HL := hid hL
  have HACT := hid hact
  have X0 := hid x0
  have X1 := hid x1
  have HR := hid hroom
  have j0 : (0 : Int) ≤ (i : Int) := by omega
  have j1 : (i : Int) < 2 := by omega
  have HON := hid (on_room s)
  have HN := hid s.now_le
  clear hV hL hA hact hroom hs
  go_enter Try.func64, Try.ntmps64
  go_upto_region 3 with (at_builtin; refine wpList_appB rfl (.tmp 7) (.tmp 13) rfl w.heap.size (.slice none 0 0) _ [] s.lasts rfl rfl (OwnB.nil _ _) HL.out.sl (by have h1 := HR.out; unfold Dslot.room at h1; simp only [List.length_nil]; omega) (Nat.le_refl _) ?_; intro v1 w2 ho1 hg1; rw [List.nil_append] at ho1; have HB2 := hid (OwnB.grown (Below.refl w.heap.size w) (OwnB.nil w w.heap.size) (Nat.le_refl _) (Nat.le_refl _) hg1); have HO := hid ho1; clear ho1 hg1)
  go_wp2
  clear x0 x1
  go_loopw [5, 6] (fun v x wr => ∃ k : Nat, k ≤ s.acts.length ∧ x = .int .i64 k ∧ OwnB wr w.heap.size v (doAll (s.acts.take k) s.lasts) ∧ Below w.heap.size w wr) (fun _ x _ => s.acts.length - (intOf x).toNat)
  case atStart => exact ⟨0, Nat.zero_le _, rfl, HO.out, HB2.out⟩
  case round =>
    clear HO HB2
    obtain ⟨k, hk, rfl, ho, hb⟩ := hrel
    have HO := hid ho
    have HB := hid hb
    have x0 : wr.cell? ⟨d, i, none⟩ = some (.slice Al s.lasts.length cl) := (hb.cell (World.block_lt_of_cell? w _ X0.out)).trans X0.out
    have x1 : wr.cell? ⟨d, 2 + i, none⟩ = some (.slice Aa s.acts.length ca) := (hb.cell (World.block_lt_of_cell? w _ X1.out)).trans X1.out
    by_cases hlt : k < s.acts.length
    · obtain ⟨b, v, rfl, y0, y1, hd⟩ := HACT.out k hlt
      have y0 : wr.cell? ⟨b, k * 2, none⟩ = some (.bool (isW s.acts[k])) := (hb.cell (World.block_lt_of_cell? w _ y0)).trans y0
      have y1 : wr.cell? ⟨b, k * 2 + 1, none⟩ = some v := (hb.cell (World.block_lt_of_cell? w _ y1)).trans y1
      have HD := hid (hd.sl.below hb)
      have i0 : (0 : Int) ≤ (k : Int) := by omega
      have i1 : (k : Int) < (s.acts.length : Int) := by omega
      have HC := hid (laid_any _ v _ s.acts[k] wr HO.out.sl HD.out (by have h1 := HON.out k hlt; have h2 := HR.out; omega))
      clear ho hb hd
      go_wp2_with fail
      refine HC.out.mono ?_
      rintro e w3 ⟨v3, rfl, ho3, hb3⟩
      have HO3 := hid ho3
      have HB3 := hid hb3
      clear ho3 hb3 x0 x1 y0 y1 HC
      go_wp2
      go_roundw
      case rel => exact ⟨k + 1, by omega, by go_num, by rw [doAll_take _ _ hlt]; exact own_base HO3.out HB.out.size, HB.out.trans (HB3.out.mono HB.out.size)⟩
      case measure => simp [intOf]; omega
    · have hge : s.acts.length ≤ k := by omega
      clear ho hb
      go_wp2
      go_ret
      exact ⟨_, rfl, by have := HO.out; rw [List.take_of_length_le hge] at this; exact this, HB.out⟩
end Go.Proofs.Ytcadacljacbipaa

/- The document's disk: what it tells, Stop. -/
namespace Go.Proofs.Ytcadacljacbipaa
open Go.RowKit
theorem rNew_any (w : World) :
    Calls Try.prog 31 #[] w fun e w' => ∃ d, e = .returned (.pointer (some ⟨d, 0, none⟩)) ∧ Below w.heap.size w w' ∧ RAt w' (fun k => Nw w w' k) d Dk.new := by
  go_enter Try.func31, Try.ntmps31
  go_wp2
  go_ret
  refine ⟨w.heap.size, rfl, (Below.refl _ _).alloc (Nat.le_refl _) _, ⟨fun _ => False, .slice none 0 0, .slice none 0 0, .slice none 0 0, .slice none 0 0, ?_⟩⟩
  exact
    { at_ := heap_alloc_new _ _
      k0 := SlI.nil _ _
      k1 := SlI.nil _ _
      m0 := LsAt.nil _ _
      m1 := LsAt.nil _ _
      cur := by decide
      sd := ⟨Nat.le_refl _, by simp⟩
      id := fun h => h
      is := fun _ h => h.elim
      lt := fun k hk => hk.2
      r0 := fun k hk => by simp [Value.ownBlock] at hk
      r1 := fun k hk => by simp [Value.ownBlock] at hk
      rr := fun k hk => by simp [Value.ownBlock] at hk }
section
variable {w : World} {S I : Nat → Prop} {d : Nat} {l0 l1 a0 a1 : Value} {D D' : Dk}
/-- one of its plain cells is turned -/
theorem RV.turn (h : RV w S I d l0 l1 a0 a1 D) (j : Nat) (v : Value) (hc : (refCells l0 l1 a0 a1 D).setIfInBounds j v = refCells l0 l1 a0 a1 D') (h0 : D'.s0 = D.s0) (h1 : D'.s1 = D.s1) (hcur : D'.cur < 2) : RV (w.setCell ⟨d, j, none⟩ v) S I d l0 l1 a0 a1 D' :=
  have hI : ∀ k, I k → ¬ (k = d) := fun k hk e => h.id (e ▸ hk)
  { at_ := by have := blk_set h.at_ j v; rw [hc] at this; exact this
    k0 := by rw [h0]; exact h.k0.fr (Fr.set_ j v) hI (fun _ h => h)
    k1 := by rw [h1]; exact h.k1.fr (Fr.set_ j v) hI (fun _ h => h)
    m0 := by rw [h0]; exact h.m0.fr (Fr.set_ j v) hI (fun _ h => h) (fun k hk e => (h.r0 k hk).2.2 e)
    m1 := by rw [h1]; exact h.m1.fr (Fr.set_ j v) hI (fun _ h => h) (fun k hk e => (h.r1 k hk).2.2 e)
    cur := hcur
    sd := h.sd
    id := h.id
    is := h.is
    lt := fun k hk => Nat.lt_of_lt_of_le (h.lt k hk) (Fr.set_ (w := w) (g := d) j v).size
    r0 := h.r0
    r1 := h.r1
    rr := h.rr }
theorem Rt.of_turn {w1 : World} (hd : S d) (hf : Fr (fun k => k = d) w w1) (h : RV w1 S I d l0 l1 a0 a1 D) : Rt w w1 S d D :=
  ⟨⟨I, l0, l1, a0, a1, h.fr (Fr.refl (fun _ => False) _) (fun _ _ h => h) (fun _ hk => .inl hk) (fun k hk => hk.elim (fun g => h.lt k g) (fun g => g.2))⟩, hf.mono fun _ _ e => e ▸ hd⟩
theorem RV.frozen (h : RV w S I d l0 l1 a0 a1 D) (j : Nat) : w.frozen? ⟨d, j, none⟩ = false := blk_frozen h.at_ _
end
theorem RAt.cells {w : World} {S : Nat → Prop} {d : Nat} {D : Dk} (h : RAt w S d D) : w.cell? ⟨d, 4, none⟩ = some (.int .i64 (D.cur : Int)) ∧ w.cell? ⟨d, 5, none⟩ = some (.int .i64 (D.done : Int)) ∧ w.cell? ⟨d, 6, none⟩ = some (.int .i64 (D.named : Int)) ∧ w.cell? ⟨d, 7, none⟩ = some (.bool D.withIt) ∧ w.cell? ⟨d, 8, none⟩ = some (.bool D.dead) ∧ ∀ j, w.frozen? ⟨d, j, none⟩ = false := by
  obtain ⟨I, l0, l1, a0, a1, h⟩ := h
  obtain ⟨_, _, _, _, c4, c5, c6, c7, c8⟩ := h.cells
  exact ⟨c4, c5, c6, c7, c8, h.frozen⟩
theorem rActs_any (w : World) (S : Nat → Prop) (d : Nat) (D : Dk) (h : RAt w S d D) : Calls Try.prog 50 #[.pointer (some ⟨d, 0, none⟩)] w fun e w' => e = .returned (.int .i64 (D.done : Int)) ∧ w' = w := by
  obtain ⟨c4, c5, c6, c7, c8, hfz⟩ := h.cells
  clear h hfz
  go_enter Try.func50, Try.ntmps50
  go_wp2
  go_ret
  exact ⟨rfl, rfl⟩
theorem rDead_any (w : World) (S : Nat → Prop) (d : Nat) (D : Dk) (h : RAt w S d D) : Calls Try.prog 52 #[.pointer (some ⟨d, 0, none⟩)] w fun e w' => e = .returned (.bool D.dead) ∧ w' = w := by
  obtain ⟨c4, c5, c6, c7, c8, hfz⟩ := h.cells
  generalize D.dead = b at *
  clear h hfz
  go_enter Try.func52, Try.ntmps52
  go_wp2
  go_ret
  exact ⟨rfl, rfl⟩
theorem rCurrent_any (w : World) (S : Nat → Prop) (d : Nat) (D : Dk) (h : RAt w S d D) : Calls Try.prog 49 #[.pointer (some ⟨d, 0, none⟩)] w fun e w' => e = .returned (.int .i64 (D.curN : Int)) ∧ w' = w := by
  obtain ⟨c4, c5, c6, c7, c8, hfz⟩ := h.cells
  unfold Dk.curN
  cases hd : D.dead
  all_goals
    rw [hd] at c8
    clear h hd hfz
    go_enter Try.func49, Try.ntmps49
    go_wp2
    go_ret
    exact ⟨rfl, rfl⟩
theorem rPending_any (w : World) (S : Nat → Prop) (d : Nat) (D : Dk) (h : RAt w S d D) (hp : D.pending ≤ 1099511627776) : Calls Try.prog 51 #[.pointer (some ⟨d, 0, none⟩)] w fun e w' => e = .returned (.int .i64 (D.pending : Int)) ∧ ∃ n, w' = w.drewN n := by
  obtain ⟨I, l0, l1, a0, a1, hV⟩ := h
  obtain ⟨_, _, c2, c3, _⟩ := hV.cells
  obtain ⟨A, c, rfl, _⟩ := hV.m0.at_
  obtain ⟨A1, k1, rfl, _⟩ := hV.m1.at_
  have e : (D.pending : Int) = (D.s0.acts.length : Int) + (D.s1.acts.length : Int) := by unfold Dk.pending; omega
  have HE := hid e
  have hs : IntKind.i64.wrap ((D.s0.acts.length : Int) + (D.s1.acts.length : Int)) = (D.s0.acts.length : Int) + (D.s1.acts.length : Int) := by rw [IntKind.wrap_i64]; unfold Dk.pending at hp; omega
  rw [HE.out]
  clear hV e hp
  go_enter Try.func51, Try.ntmps51
  go_wp2
  go_quiet (fail)
  go_wp2
  go_ret
  exact ⟨rfl, _, rfl⟩
set_option maxRecDepth 100000 in
set_option maxHeartbeats 1000000 in
theorem rRead_any (w : World) (S : Nat → Prop) (d : Nat) (D : Dk) (n : Int) (h : RAt w S d D) (hroom : D.s0.room + D.s1.room ≤ 140737488355328) (hacts : D.pending ≤ 1099511627776) :
    Calls Try.prog 46 #[.pointer (some ⟨d, 0, none⟩), .int .i64 n] w fun e w' => ∃ v, e = .returned (.tuple #[v, .int .i64 (D.readE n)]) ∧ OwnB w' w.heap.size v (D.readB n) ∧ Below w.heap.size w w' := by
  obtain ⟨c4, c5, c6, c7, c8, hfz⟩ := h.cells
  by_cases hd : D.dead = true
  · rw [show D.readE n = 60 from if_pos hd, show D.readB n = [] from if_pos hd]
    rw [hd] at c8
    clear h hd hfz
    go_enter Try.func46, Try.ntmps46
    go_wp2
    go_ret2
    exact ⟨_, rfl, OwnB.nil _ _, Below.refl _ _⟩
  have hd' : D.dead = false := by simpa using hd
  rw [hd'] at c8
  by_cases hn : n = 0 ∨ n = 1
  · have hs : D.readB n = if n = 0 then D.s0.now else D.s1.now := by
      unfold Dk.readB
      rw [if_neg hd]
      rcases hn with rfl | rfl <;> rfl
    rw [show D.readE n = 0 by unfold Dk.readE; rw [if_neg hd, if_pos hn], hs]
    unfold Dk.pending at hacts
    have C0 : Hid (Calls Try.prog 64 #[.pointer (some ⟨d, 0, none⟩), .int .i64 0] w fun e w' => ∃ v, e = .returned v ∧ OwnB w' w.heap.size v D.s0.now ∧ Below w.heap.size w w') := hid (now_any w S d D 0 h (by omega) (show D.s0.room ≤ _ by omega) (show D.s0.acts.length ≤ _ by omega))
    have C1 : Hid (Calls Try.prog 64 #[.pointer (some ⟨d, 0, none⟩), .int .i64 1] w fun e w' => ∃ v, e = .returned v ∧ OwnB w' w.heap.size v D.s1.now ∧ Below w.heap.size w w') := hid (now_any w S d D 1 h (by omega) (show D.s1.room ≤ _ by omega) (show D.s1.acts.length ≤ _ by omega))
    clear h hd hd' hfz hs
    rcases hn with rfl | rfl
    · rw [if_pos rfl]
      go_enter Try.func46, Try.ntmps46
      go_wp2_with fail
      refine C0.out.mono ?_
      rintro e w' ⟨v, rfl, ho, hb⟩
      have HO := hid ho
      have HB := hid hb
      clear ho hb
      go_wp2
      go_ret2
      exact ⟨_, rfl, HO.out, HB.out⟩
    · rw [if_neg (by decide)]
      go_enter Try.func46, Try.ntmps46
      go_wp2_with fail
      refine C1.out.mono ?_
      rintro e w' ⟨v, rfl, ho, hb⟩
      have HO := hid ho
      have HB := hid hb
      clear ho hb
      go_wp2
      go_ret2
      exact ⟨_, rfl, HO.out, HB.out⟩
  · have q0 : (n != 0) = true := by rw [bne_iff_ne]; omega
    have q1 : (n != 1) = true := by rw [bne_iff_ne]; omega
    rw [show D.readE n = 61 by unfold Dk.readE; rw [if_neg hd, if_neg hn], show D.readB n = [] by unfold Dk.readB; rw [if_neg hd, if_neg (by omega), if_neg (by omega)]]
    clear h hd hd' hfz hn
    go_enter Try.func46, Try.ntmps46
    go_wp2
    go_ret2
    exact ⟨_, rfl, OwnB.nil _ _, Below.refl _ _⟩
set_option maxRecDepth 100000 in
set_option maxHeartbeats 1000000 in
theorem rStop_any (w : World) (S : Nat → Prop) (d : Nat) (D : Dk) (n : Int) (b : Bool) (h : RAt w S d D) :
    Calls Try.prog 61 #[.pointer (some ⟨d, 0, none⟩), .int .i64 n, .bool b] w fun e w' => e = .returned (.int .i64 (if D.dead then 60 else 0)) ∧ Rt w w' S d (D.stop n b) := by
  obtain ⟨c4, c5, c6, c7, c8, hfz⟩ := h.cells
  by_cases hd : D.dead = true
  · rw [if_pos hd, show D.stop n b = D from if_pos hd]
    rw [hd] at c8
    have R := hid (Rt.stay (Below.refl w.heap.size w) h)
    clear h hd hfz
    go_enter Try.func61, Try.ntmps61
    go_wp2
    go_ret
    exact ⟨rfl, R.out⟩
  · rw [if_neg hd, show D.stop n b = { D with named := n.toNat, withIt := b } from if_neg hd]
    have hd' : D.dead = false := by simpa using hd
    rw [hd'] at c8
    have f6 := hfz 6
    have f7 := hfz 7
    by_cases hn : 0 < n
    · have R : Hid (Rt w (((w.setCell ⟨d, 6, none⟩ (.int .i64 0)).setCell ⟨d, 6, none⟩ (.int .i64 n)).setCell ⟨d, 7, none⟩ (.bool b)) S d { D with named := n.toNat, withIt := b }) := hid (by
        obtain ⟨I, l0, l1, a0, a1, hV⟩ := h
        have hnn : (n.toNat : Int) = n := by omega
        refine Rt.of_turn hV.sd (((Fr.set_ _ _).trans ((Fr.set_ _ _).mono fun k _ e => .inl e)).trans ((Fr.set_ _ _).mono fun k _ e => .inl e)) (((hV.turn (D' := { D with named := 0 }) 6 _ rfl rfl rfl hV.cur).turn (D' := { D with named := n.toNat }) 6 _ ?_ rfl rfl hV.cur).turn (D' := { D with named := n.toNat, withIt := b }) 7 _ rfl rfl rfl hV.cur)
        unfold refCells
        simp only [hnn]
        rfl)
      clear h hd hd' hfz
      go_enter Try.func61, Try.ntmps61
      go_wp2
      go_ret
      exact ⟨rfl, R.out⟩
    · have R : Hid (Rt w ((w.setCell ⟨d, 6, none⟩ (.int .i64 0)).setCell ⟨d, 7, none⟩ (.bool b)) S d { D with named := n.toNat, withIt := b }) := hid (by
        obtain ⟨I, l0, l1, a0, a1, hV⟩ := h
        have hnn : n.toNat = 0 := by omega
        rw [hnn]
        exact Rt.of_turn hV.sd ((Fr.set_ _ _).trans ((Fr.set_ _ _).mono fun k _ e => .inl e)) ((hV.turn (D' := { D with named := 0 }) 6 _ rfl rfl rfl hV.cur).turn (D' := { D with named := 0, withIt := b }) 7 _ rfl rfl rfl hV.cur))
      clear h hd hd' hfz
      go_enter Try.func61, Try.ntmps61
      go_wp2
      go_ret
      exact ⟨rfl, R.out⟩
end Go.Proofs.Ytcadacljacbipaa

/- The document's disk: both slots. -/
namespace Go.Proofs.Ytcadacljacbipaa
open Go.RowKit
theorem SlB.fr_own {X : Nat → Prop} {w w' : World} {base : Nat} {v : Value} {l : List UInt8} (h : OwnB w base v l) (hf : Fr X w w') (hx : ∀ k, X k → k < base) : OwnB w' base v l :=
  h.fr hf fun k hk e => by have := (World.ownsRow.lt h k hk).1; have := hx k e; omega
theorem two_new (w : World) (o o2 : Obj) : Below w.heap.size w ((w.alloc o).alloc o2) ∧ ((w.alloc o).alloc o2).heap[w.heap.size]? = some o ∧ ((w.alloc o).alloc o2).heap[w.heap.size + 1]? = some o2 := by
  refine ⟨((Below.refl _ _).alloc (Nat.le_refl _) _).alloc (by simp) _, ?_, ?_⟩
  · show ((w.heap.push o).push o2)[w.heap.size]? = some o
    rw [Array.getElem?_push, if_neg (by simp)]
    simp
  · show ((w.heap.push o).push o2)[w.heap.size + 1]? = some o2
    rw [Array.getElem?_push, if_pos (by simp)]
set_option maxRecDepth 100000 in
set_option maxHeartbeats 4000000 in
theorem rSlots_any (w : World) (S : Nat → Prop) (d : Nat) (D : Dk) (h : RAt w S d D) (hroom : D.s0.room + D.s1.room ≤ 140737488355328) (hacts : D.pending ≤ 1099511627776) :
    Calls Try.prog 48 #[.pointer (some ⟨d, 0, none⟩)] w fun e w' => ∃ v0 v1, e = .returned (.tuple #[.agg #[v0, v1], .int .i64 (D.curN : Int)]) ∧ SlB w' v0 D.told0 ∧ SlB w' v1 D.told1 ∧ Below w.heap.size w w' := by
  obtain ⟨c4, c5, c6, c7, c8, hfz⟩ := h.cells
  have hdw : d < w.heap.size := World.block_lt_of_cell? w _ c4
  unfold Dk.pending at hacts
  have C0 : Hid (∀ W, Below w.heap.size w W → Calls Try.prog 64 #[.pointer (some ⟨d, 0, none⟩), .int .i64 0] W fun e w' => ∃ v, e = .returned v ∧ OwnB w' W.heap.size v D.s0.now ∧ Below W.heap.size W w') := hid fun W hb => now_any W S d D 0 (h.below hb) (by omega) (show D.s0.room ≤ _ by omega) (show D.s0.acts.length ≤ _ by omega)
  have C1 : Hid (∀ W, Below w.heap.size w W → Calls Try.prog 64 #[.pointer (some ⟨d, 0, none⟩), .int .i64 1] W fun e w' => ∃ v, e = .returned v ∧ OwnB w' W.heap.size v D.s1.now ∧ Below W.heap.size W w') := hid fun W hb => now_any W S d D 1 (h.below hb) (by omega) (show D.s1.room ≤ _ by omega) (show D.s1.acts.length ≤ _ by omega)
  have X4 := hid c4
  have X8 := hid c8
  clear h hfz c4 c5 c6 c7 c8
  go_enter Try.func48, Try.ntmps48
  go_upto_region 2 with (fail)
  refine Code.seen (fun W => Below w.heap.size w W ∧ W.heap[w.heap.size]? = some (.cells #[.slice none 0 0, .slice none 0 0] 32 (0, 0)) ∧ W.heap[w.heap.size + 1]? = some (.cells #[.slice none 0 0, .slice none 0 0] 32 (0, 0))) (two_new _ _ _) fun w1 H1 => ?_
  obtain ⟨hb1, hg2, hg4⟩ := H1.out
  have HB1 := hid hb1
  have HG2 := hid hg2
  have HG4 := hid hg4
  have hs1 : w.heap.size + 2 ≤ w1.heap.size := by have := blk_lt hg4; omega
  have c8 : w1.cell? ⟨d, 8, none⟩ = some (.bool D.dead) := (hb1.cell hdw).trans X8.out
  have a0 : w1.cell? ⟨w.heap.size, 0, none⟩ = some (.slice none 0 0) := by rw [blk_cell hg2]; rfl
  have a1 : w1.cell? ⟨w.heap.size, 1, none⟩ = some (.slice none 0 0) := by rw [blk_cell hg2]; rfl
  have b0 : w1.cell? ⟨w.heap.size + 1, 0, none⟩ = some (.slice none 0 0) := by rw [blk_cell hg4]; rfl
  have b1 : w1.cell? ⟨w.heap.size + 1, 1, none⟩ = some (.slice none 0 0) := by rw [blk_cell hg4]; rfl
  have f0 := blk_frozen hg2 0
  have f1 := blk_frozen hg2 1
  clear H1 hb1 hg2 hg4
  by_cases hd : D.dead = true
  · rw [hd] at c8
    have HD := hid hd
    clear hd
    go_wp2
    refine bodyPost_ret (v := .tuple #[.agg #[.slice none 0 0, .slice none 0 0], .int .i64 0]) ?_ rfl ⟨_, _, by rw [show D.curN = 0 from if_pos HD.out]; rfl, by rw [show D.told0 = [] from if_pos HD.out]; exact Sl.nil _ _, by rw [show D.told1 = [] from if_pos HD.out]; exact Sl.nil _ _, HB1.out.trans ?_⟩
    · simp [results, Try.results48, go_sem, *]
    · exact ((Fr.set_ _ _).trans ((Fr.set_ _ _).mono fun k _ e => .inl e)).to_below (fun k hk e => by omega) (by omega)
  have HD := hid hd
  have hd' : D.dead = false := by simpa using hd
  rw [hd'] at c8
  clear hd hd' a0 a1 f0 f1
  go_upto_region 4 with (fail)
  clear c8
  go_wp2_with fail
  refine (C0.out w1 HB1.out).mono ?_
  rintro e w2 ⟨v0, rfl, ho2, hb2⟩
  obtain ⟨A0, k0, rfl⟩ := ho2.form
  have hg4 := blk_keep hb2 HG4.out (by omega)
  have b0 : w2.cell? ⟨w.heap.size + 1, 0, none⟩ = some (.slice none 0 0) := by rw [blk_cell hg4]; rfl
  have f0 := blk_frozen hg4 0
  have h3 := blk_set hg4 0 (.slice A0 D.s0.now.length k0)
  have hs2 := hb2.size
  have HB3 : Hid (Below w.heap.size w (w2.setCell ⟨w.heap.size + 1, 0, none⟩ (.slice A0 D.s0.now.length k0))) := hid ((HB1.out.trans (hb2.mono HB1.out.size)).trans ((Fr.set_ _ _).to_below (fun k hk e => by omega) (by omega)))
  have HO3 : Hid (OwnB (w2.setCell ⟨w.heap.size + 1, 0, none⟩ (.slice A0 D.s0.now.length k0)) w1.heap.size (.slice A0 D.s0.now.length k0) D.s0.now) := hid (SlB.fr_own ho2 (Fr.set_ _ _) (fun k e => by omega))
  have HG3 := hid h3
  have HJ3 : Hid ((w2.setCell ⟨w.heap.size + 1, 0, none⟩ (.slice A0 D.s0.now.length k0)).heap[w.heap.size]? = some (.cells #[.slice none 0 0, .slice none 0 0] 32 (0, 0))) := hid (blk_fr (Fr.set_ _ _) (blk_keep hb2 HG2.out (by omega)) (fun e => by omega))
  clear HG2
  have hs3 : w2.heap.size ≤ (w2.setCell ⟨w.heap.size + 1, 0, none⟩ (.slice A0 D.s0.now.length k0)).heap.size := (Fr.set_ (w := w2) (g := w.heap.size + 1) 0 (.slice A0 D.s0.now.length k0)).size
  clear ho2 hb2 hg4 h3 b1
  go_upto_region 5 with (fail)
  clear b0 f0
  generalize w2.setCell ⟨w.heap.size + 1, 0, none⟩ (.slice A0 D.s0.now.length k0) = w3 at *
  go_wp2_with fail
  refine (C1.out w3 HB3.out).mono ?_
  rintro e w4 ⟨v1, rfl, ho4, hb4⟩
  obtain ⟨A1, k1, rfl⟩ := ho4.form
  have hg4 := blk_keep hb4 HG3.out (by omega)
  have b1 : w4.cell? ⟨w.heap.size + 1, 1, none⟩ = some (.slice none 0 0) := by rw [blk_cell hg4]; rfl
  have f1 := blk_frozen hg4 1
  have h5 := blk_set hg4 1 (.slice A1 D.s1.now.length k1)
  have hs4 := hb4.size
  have HB5 : Hid (Below w.heap.size w (w4.setCell ⟨w.heap.size + 1, 1, none⟩ (.slice A1 D.s1.now.length k1))) := hid ((HB3.out.trans (hb4.mono HB3.out.size)).trans ((Fr.set_ _ _).to_below (fun k hk e => by omega) (by omega)))
  have HO5 : Hid (OwnB (w4.setCell ⟨w.heap.size + 1, 1, none⟩ (.slice A1 D.s1.now.length k1)) w1.heap.size (.slice A0 D.s0.now.length k0) D.s0.now) := hid (SlB.fr_own (HO3.out.below hb4) (Fr.set_ _ _) (fun k e => by omega))
  have HP5 : Hid (OwnB (w4.setCell ⟨w.heap.size + 1, 1, none⟩ (.slice A1 D.s1.now.length k1)) w3.heap.size (.slice A1 D.s1.now.length k1) D.s1.now) := hid (SlB.fr_own ho4 (Fr.set_ _ _) (fun k e => by omega))
  have HG5 := hid h5
  have HG2 : Hid ((w4.setCell ⟨w.heap.size + 1, 1, none⟩ (.slice A1 D.s1.now.length k1)).heap[w.heap.size]? = some (.cells #[.slice none 0 0, .slice none 0 0] 32 (0, 0))) := hid (blk_fr (Fr.set_ _ _) (blk_keep hb4 HJ3.out (by omega)) (fun e => by omega))
  have hs5 : w4.heap.size ≤ (w4.setCell ⟨w.heap.size + 1, 1, none⟩ (.slice A1 D.s1.now.length k1)).heap.size := (Fr.set_ (w := w4) (g := w.heap.size + 1) 1 (.slice A1 D.s1.now.length k1)).size
  clear ho4 hb4 hg4 h5
  go_upto_region 6 with (fail)
  clear b1 f1
  generalize w4.setCell ⟨w.heap.size + 1, 1, none⟩ (.slice A1 D.s1.now.length k1) = w5 at *
  have y4 : w5.cell? ⟨d, 4, none⟩ = some (.int .i64 (D.cur : Int)) := (HB5.out.cell hdw).trans X4.out
  have b0 : w5.cell? ⟨w.heap.size + 1, 0, none⟩ = some (.slice A0 D.s0.now.length k0) := by rw [blk_cell HG5.out]; rfl
  have b1 : w5.cell? ⟨w.heap.size + 1, 1, none⟩ = some (.slice A1 D.s1.now.length k1) := by rw [blk_cell HG5.out]; rfl
  have a0 : w5.cell? ⟨w.heap.size, 0, none⟩ = some (.slice none 0 0) := by rw [blk_cell HG2.out]; rfl
  have a1 : w5.cell? ⟨w.heap.size, 1, none⟩ = some (.slice none 0 0) := by rw [blk_cell HG2.out]; rfl
  have f0 := blk_frozen HG2.out 0
  have f1 := blk_frozen HG2.out 1
  go_region
  go_wp2
  refine bodyPost_ret (v := .tuple #[.agg #[.slice A0 D.s0.now.length k0, .slice A1 D.s1.now.length k1], .int .i64 (D.cur : Int)]) ?_ rfl ⟨_, _, by rw [show D.curN = D.cur from if_neg HD.out], by rw [show D.told0 = D.s0.now from if_neg HD.out]; exact (SlB.fr_own HO5.out ((Fr.set_ _ _).trans ((Fr.set_ _ _).mono fun k _ e => .inl e)) (fun k e => by omega)).drew.sl, by rw [show D.told1 = D.s1.now from if_neg HD.out]; exact (SlB.fr_own HP5.out ((Fr.set_ _ _).trans ((Fr.set_ _ _).mono fun k _ e => .inl e)) (fun k e => by omega)).drew.sl, (HB5.out.trans (((Fr.set_ _ _).trans ((Fr.set_ _ _).mono fun k _ e => .inl e)).to_below (fun k hk e => by omega) (by omega))).drew⟩
  simp [results, Try.results48, go_sem, *]
end Go.Proofs.Ytcadacljacbipaa

/- The document's disk: its parts put anew. (The texts of slot 1 are those of slot 0, with the slots changed.) -/
namespace Go.Proofs.Ytcadacljacbipaa
open Go.RowKit
/-- slot 0's loose acts are put anew -/
theorem RV.puta0 {w W : World} {S I T : Nat → Prop} {d : Nat} {l0 l1 a0 a1 av' : Value} {D : Dk} {acts' : List DAct} (h : RV w S I d l0 l1 a0 a1 D) (hW : W.heap[d]? = some (.cells ((refCells l0 l1 a0 a1 D).setIfInBounds 2 av') 83 (0, 0))) (hf : Fr (fun k => k = d ∨ a0.ownBlock = some k) w W)
    (hm : LsAt W (fun k => I k ∨ T k) av' acts') (hT : ∀ k, T k → w.heap.size ≤ k ∧ k < W.heap.size) (hr : ∀ k, av'.ownBlock = some k → (a0.ownBlock = some k ∨ (w.heap.size ≤ k ∧ k < W.heap.size)) ∧ ¬ T k) : Rt w W S d { D with s0 := ⟨D.s0.lasts, acts'⟩ } := by
  have hIl : ∀ k, I k → k < w.heap.size := fun k hk => h.lt k (h.is k hk)
  have hI : ∀ k, I k → ¬ (k = d ∨ a0.ownBlock = some k) := fun k hk e => e.elim (fun e => h.id (e ▸ hk)) (fun e => (h.r0 k e).2.1 hk)
  have hdl := h.lt d h.sd
  refine ⟨⟨fun k => I k ∨ T k, l0, l1, av', a1, ?_⟩, hf.mono fun k _ e => e.elim (fun e => e ▸ h.sd) (fun e => (h.r0 k e).1)⟩
  exact
    { at_ := hW
      k0 := h.k0.fr hf hI (fun _ h => .inl h)
      k1 := h.k1.fr hf hI (fun _ h => .inl h)
      m0 := hm
      m1 := h.m1.fr hf hI (fun _ h => .inl h) (fun k hk e => e.elim (fun e => (h.r1 k hk).2.2 e) (fun e => h.rr k e hk))
      cur := h.cur
      sd := .inl h.sd
      id := fun e => e.elim h.id (fun e => by have := (hT d e).1; omega)
      is := fun k e => e.elim (fun e => .inl (h.is k e)) (fun e => .inr (hT k e))
      lt := fun k e => e.elim (fun e => Nat.lt_of_lt_of_le (h.lt k e) hf.size) (fun e => e.2)
      r0 := fun k hk => by
        obtain ⟨h1 | h1, h2⟩ := hr k hk
        · exact ⟨.inl (h.r0 k h1).1, fun e => e.elim (h.r0 k h1).2.1 h2, (h.r0 k h1).2.2⟩
        · exact ⟨.inr h1, fun e => e.elim (fun e => by have := hIl k e; omega) h2, by omega⟩
      r1 := fun k hk => ⟨.inl (h.r1 k hk).1, fun e => e.elim (h.r1 k hk).2.1 (fun e => by have := (hT k e).1; have := h.lt k (h.r1 k hk).1; omega), (h.r1 k hk).2.2⟩
      rr := fun k hk e => by
        obtain ⟨h1 | h1, h2⟩ := hr k hk
        · exact h.rr k h1 e
        · have := h.lt k (h.r1 k e).1; omega }
/-- what lasts of slot 0 is put anew -/
theorem RV.putl0 {w W : World} {S I T : Nat → Prop} {d : Nat} {l0 l1 a0 a1 lv' : Value} {D : Dk} {l' : List UInt8} (h : RV w S I d l0 l1 a0 a1 D) (hW : W.heap[d]? = some (.cells ((refCells l0 l1 a0 a1 D).setIfInBounds 0 lv') 83 (0, 0))) (hf : Fr (fun k => k = d) w W)
    (hm : SlI W T lv' l') (hT : ∀ k, T k → w.heap.size ≤ k ∧ k < W.heap.size) : Rt w W S d { D with s0 := ⟨l', D.s0.acts⟩ } := by
  have hIl : ∀ k, I k → k < w.heap.size := fun k hk => h.lt k (h.is k hk)
  have hI : ∀ k, I k → ¬ (k = d) := fun k hk e => h.id (e ▸ hk)
  have hdl := h.lt d h.sd
  refine ⟨⟨fun k => I k ∨ T k, lv', l1, a0, a1, ?_⟩, hf.mono fun k _ e => e ▸ h.sd⟩
  exact
    { at_ := hW
      k0 := hm.fr (Fr.refl (fun _ => False) _) (fun _ _ h => h) (fun _ h => .inr h)
      k1 := h.k1.fr hf hI (fun _ h => .inl h)
      m0 := h.m0.fr hf hI (fun _ h => .inl h) (fun k hk e => (h.r0 k hk).2.2 e)
      m1 := h.m1.fr hf hI (fun _ h => .inl h) (fun k hk e => (h.r1 k hk).2.2 e)
      cur := h.cur
      sd := .inl h.sd
      id := fun e => e.elim h.id (fun e => by have := (hT d e).1; omega)
      is := fun k e => e.elim (fun e => .inl (h.is k e)) (fun e => .inr (hT k e))
      lt := fun k e => e.elim (fun e => Nat.lt_of_lt_of_le (h.lt k e) hf.size) (fun e => e.2)
      r0 := fun k hk => ⟨.inl (h.r0 k hk).1, fun e => e.elim (h.r0 k hk).2.1 (fun e => by have := (hT k e).1; have := h.lt k (h.r0 k hk).1; omega), (h.r0 k hk).2.2⟩
      r1 := fun k hk => ⟨.inl (h.r1 k hk).1, fun e => e.elim (h.r1 k hk).2.1 (fun e => by have := (hT k e).1; have := h.lt k (h.r1 k hk).1; omega), (h.r1 k hk).2.2⟩
      rr := h.rr }
/-- slot 1's loose acts are put anew -/
theorem RV.puta1 {w W : World} {S I T : Nat → Prop} {d : Nat} {l0 l1 a0 a1 av' : Value} {D : Dk} {acts' : List DAct} (h : RV w S I d l0 l1 a0 a1 D) (hW : W.heap[d]? = some (.cells ((refCells l0 l1 a0 a1 D).setIfInBounds 3 av') 83 (0, 0))) (hf : Fr (fun k => k = d ∨ a1.ownBlock = some k) w W)
    (hm : LsAt W (fun k => I k ∨ T k) av' acts') (hT : ∀ k, T k → w.heap.size ≤ k ∧ k < W.heap.size) (hr : ∀ k, av'.ownBlock = some k → (a1.ownBlock = some k ∨ (w.heap.size ≤ k ∧ k < W.heap.size)) ∧ ¬ T k) : Rt w W S d { D with s1 := ⟨D.s1.lasts, acts'⟩ } := by
  have hIl : ∀ k, I k → k < w.heap.size := fun k hk => h.lt k (h.is k hk)
  have hI : ∀ k, I k → ¬ (k = d ∨ a1.ownBlock = some k) := fun k hk e => e.elim (fun e => h.id (e ▸ hk)) (fun e => (h.r1 k e).2.1 hk)
  have hdl := h.lt d h.sd
  refine ⟨⟨fun k => I k ∨ T k, l0, l1, a0, av', ?_⟩, hf.mono fun k _ e => e.elim (fun e => e ▸ h.sd) (fun e => (h.r1 k e).1)⟩
  exact
    { at_ := hW
      k0 := h.k0.fr hf hI (fun _ h => .inl h)
      k1 := h.k1.fr hf hI (fun _ h => .inl h)
      m0 := h.m0.fr hf hI (fun _ h => .inl h) (fun k hk e => e.elim (fun e => (h.r0 k hk).2.2 e) (fun e => h.rr k hk e))
      m1 := hm
      cur := h.cur
      sd := .inl h.sd
      id := fun e => e.elim h.id (fun e => by have := (hT d e).1; omega)
      is := fun k e => e.elim (fun e => .inl (h.is k e)) (fun e => .inr (hT k e))
      lt := fun k e => e.elim (fun e => Nat.lt_of_lt_of_le (h.lt k e) hf.size) (fun e => e.2)
      r0 := fun k hk => ⟨.inl (h.r0 k hk).1, fun e => e.elim (h.r0 k hk).2.1 (fun e => by have := (hT k e).1; have := h.lt k (h.r0 k hk).1; omega), (h.r0 k hk).2.2⟩
      r1 := fun k hk => by
        obtain ⟨h1 | h1, h2⟩ := hr k hk
        · exact ⟨.inl (h.r1 k h1).1, fun e => e.elim (h.r1 k h1).2.1 h2, (h.r1 k h1).2.2⟩
        · exact ⟨.inr h1, fun e => e.elim (fun e => by have := hIl k e; omega) h2, by omega⟩
      rr := fun k hk e => by
        obtain ⟨h1 | h1, h2⟩ := hr k e
        · exact h.rr k hk h1
        · have := h.lt k (h.r0 k hk).1; omega }
/-- what lasts of slot 1 is put anew -/
theorem RV.putl1 {w W : World} {S I T : Nat → Prop} {d : Nat} {l0 l1 a0 a1 lv' : Value} {D : Dk} {l' : List UInt8} (h : RV w S I d l0 l1 a0 a1 D) (hW : W.heap[d]? = some (.cells ((refCells l0 l1 a0 a1 D).setIfInBounds 1 lv') 83 (0, 0))) (hf : Fr (fun k => k = d) w W)
    (hm : SlI W T lv' l') (hT : ∀ k, T k → w.heap.size ≤ k ∧ k < W.heap.size) : Rt w W S d { D with s1 := ⟨l', D.s1.acts⟩ } := by
  have hIl : ∀ k, I k → k < w.heap.size := fun k hk => h.lt k (h.is k hk)
  have hI : ∀ k, I k → ¬ (k = d) := fun k hk e => h.id (e ▸ hk)
  have hdl := h.lt d h.sd
  refine ⟨⟨fun k => I k ∨ T k, l0, lv', a0, a1, ?_⟩, hf.mono fun k _ e => e ▸ h.sd⟩
  exact
    { at_ := hW
      k0 := h.k0.fr hf hI (fun _ h => .inl h)
      k1 := hm.fr (Fr.refl (fun _ => False) _) (fun _ _ h => h) (fun _ h => .inr h)
      m0 := h.m0.fr hf hI (fun _ h => .inl h) (fun k hk e => (h.r0 k hk).2.2 e)
      m1 := h.m1.fr hf hI (fun _ h => .inl h) (fun k hk e => (h.r1 k hk).2.2 e)
      cur := h.cur
      sd := .inl h.sd
      id := fun e => e.elim h.id (fun e => by have := (hT d e).1; omega)
      is := fun k e => e.elim (fun e => .inl (h.is k e)) (fun e => .inr (hT k e))
      lt := fun k e => e.elim (fun e => Nat.lt_of_lt_of_le (h.lt k e) hf.size) (fun e => e.2)
      r0 := fun k hk => ⟨.inl (h.r0 k hk).1, fun e => e.elim (h.r0 k hk).2.1 (fun e => by have := (hT k e).1; have := h.lt k (h.r0 k hk).1; omega), (h.r0 k hk).2.2⟩
      r1 := fun k hk => ⟨.inl (h.r1 k hk).1, fun e => e.elim (h.r1 k hk).2.1 (fun e => by have := (hT k e).1; have := h.lt k (h.r1 k hk).1; omega), (h.r1 k hk).2.2⟩
      rr := h.rr }
theorem Rt.trans {w w1 w2 : World} {S : Nat → Prop} {d : Nat} {D D' : Dk} (h1 : Rt w w1 S d D) (h2 : Rt w1 w2 (fun k => S k ∨ Nw w w1 k) d D') : Rt w w2 S d D' := by
  have s1 := h1.2.size
  have s2 := h2.2.size
  refine ⟨h2.1.fr (Fr.refl (fun _ => False) _) (fun _ _ h => h) (fun k hk => ?_) (fun k hk => ?_), h1.2.trans (h2.2.mono fun k _ hk => ?_)⟩
  · rcases hk with (hk | hk) | hk
    · exact .inl hk
    · exact .inr ⟨hk.1, by have := hk.2; omega⟩
    · exact .inr ⟨by have := hk.1; omega, hk.2⟩
  · rcases hk with hk | hk
    · exact h2.1.lt k (.inl (.inl hk))
    · exact hk.2
  · rcases hk with hk | hk
    · exact .inl hk
    · exact .inr hk.1
/-- ahead of a call, plain cells were turned -/
theorem Rt.after {w w1 w2 : World} {S : Nat → Prop} {d : Nat} {D : Dk} (hd : S d) (hf : Fr (fun k => k = d) w w1) (hs : w1.heap.size = w.heap.size) (h : Rt w1 w2 S d D) : Rt w w2 S d D := by
  refine ⟨h.1.fr (Fr.refl (fun _ => False) _) (fun _ _ h => h) (fun k hk => hk.imp id fun hk => ⟨by have := hk.1; omega, hk.2⟩) (fun k hk => h.1.lt k (hk.imp id fun hk => ⟨by have := hk.1; omega, hk.2⟩)), (hf.mono fun k _ e => e ▸ hd).trans (h.2.mono fun k _ hk => .inl hk)⟩
end Go.Proofs.Ytcadacljacbipaa

/- What an act may add to a disk; a script of acts. -/
namespace Go.Proofs.Ytcadacljacbipaa
def DOp.size : DOp → Nat
  | .append l => l.length
  | _ => 0
theorem setSlot_room (D : Dk) (i : Nat) (s : Dslot) : (D.setSlot i s).s0.room + (D.setSlot i s).s1.room + (D.slot i).room = D.s0.room + D.s1.room + s.room := by
  unfold Dk.setSlot Dk.slot
  by_cases h : i = 0 <;> simp [h] <;> omega
theorem setSlot_acts (D : Dk) (i : Nat) (s : Dslot) : (D.setSlot i s).s0.acts.length + (D.setSlot i s).s1.acts.length + (D.slot i).acts.length = D.s0.acts.length + D.s1.acts.length + s.acts.length := by
  unfold Dk.setSlot Dk.slot
  by_cases h : i = 0 <;> simp [h] <;> omega
theorem eff_room (o : DOp) (i : Nat) (D : Dk) : (o.eff i D).s0.room + (o.eff i D).s1.room ≤ D.s0.room + D.s1.room + o.size := by
  cases o with
  | append l =>
    simp only [DOp.eff, DOp.size]
    split
    · have := setSlot_room D i ((D.slot i).do (.app l))
      rw [Dslot.room_do] at this
      simp only [DAct.size] at this
      omega
    · omega
  | wipe =>
    simp only [DOp.eff, DOp.size]
    have := setSlot_room D i ((D.slot i).do .wipe)
    rw [Dslot.room_do] at this
    simp only [DAct.size] at this
    omega
  | sync =>
    simp only [DOp.eff, DOp.size]
    have := setSlot_room D i (D.slot i).sync
    have h2 := (D.slot i).room_sync
    omega
  | switch => simp [DOp.eff, DOp.size]
theorem eff_acts (o : DOp) (i : Nat) (D : Dk) : (o.eff i D).s0.acts.length + (o.eff i D).s1.acts.length ≤ D.s0.acts.length + D.s1.acts.length + 1 := by
  cases o with
  | append l =>
    simp only [DOp.eff]
    split
    · have := setSlot_acts D i ((D.slot i).do (.app l))
      have e : ((D.slot i).do (.app l)).acts.length = (D.slot i).acts.length + 1 := by simp [Dslot.do]
      omega
    · omega
  | wipe =>
    simp only [DOp.eff]
    have := setSlot_acts D i ((D.slot i).do .wipe)
    have e : ((D.slot i).do .wipe).acts.length = (D.slot i).acts.length + 1 := by simp [Dslot.do]
    omega
  | sync =>
    simp only [DOp.eff]
    have := setSlot_acts D i (D.slot i).sync
    have e : (D.slot i).sync.acts.length = 0 := rfl
    omega
  | switch => simp [DOp.eff]
theorem eff_near_room (o : DOp) (i : Nat) (D : Dk) : (o.eff i D.near).s0.room + (o.eff i D.near).s1.room ≤ D.s0.room + D.s1.room + o.size := eff_room o i D.near
theorem step_room (D : Dk) (n : Int) (o : DOp) : (D.step n o).s0.room + (D.step n o).s1.room ≤ D.s0.room + D.s1.room + o.size := by
  unfold Dk.step
  have := eff_room o n.toNat D.near
  have h2 : D.near.s0.room + D.near.s1.room = D.s0.room + D.s1.room := rfl
  split
  · omega
  split
  · omega
  split
  · show D.s0.room + D.s1.room ≤ _; omega
  · show (o.eff n.toNat D.near).s0.room + (o.eff n.toNat D.near).s1.room ≤ _; omega
theorem step_acts (D : Dk) (n : Int) (o : DOp) : (D.step n o).s0.acts.length + (D.step n o).s1.acts.length ≤ D.s0.acts.length + D.s1.acts.length + 1 := by
  unfold Dk.step
  have := eff_acts o n.toNat D.near
  have h2 : D.near.s0.acts.length + D.near.s1.acts.length = D.s0.acts.length + D.s1.acts.length := rfl
  split
  · omega
  split
  · omega
  split
  · show D.s0.acts.length + D.s1.acts.length ≤ _; omega
  · show (o.eff n.toNat D.near).s0.acts.length + (o.eff n.toNat D.near).s1.acts.length ≤ _; omega
theorem step_done (D : Dk) (n : Int) (o : DOp) : (D.step n o).done ≤ D.done + 1 := by
  unfold Dk.step
  split
  · omega
  split
  · omega
  split
  · show D.done ≤ _; omega
  · show (o.eff n.toNat D.near).done + 1 ≤ _
    rw [eff_done]; show D.done + 1 ≤ _; omega
theorem step_named (D : Dk) (n : Int) (o : DOp) : (D.step n o).named ≤ D.named := by
  unfold Dk.step
  split
  · omega
  split
  · omega
  split
  · show D.named - 1 ≤ _; omega
  · show (o.eff n.toNat D.near).named ≤ _
    rw [eff_named]; show D.named - 1 ≤ _; omega
theorem step_alive (D : Dk) (n : Int) (o : DOp) (h0 : D.named = 0) (hd : D.dead = false) : (D.step n o).dead = false := by
  unfold Dk.step
  split
  · exact hd
  split
  · exact hd
  split
  · rename_i h; omega
  · show (o.eff n.toNat D.near).dead = false
    rw [eff_dead]; show (D.named == 1) = false; rw [h0]; rfl
/-- a disk that k acts with m bytes have come to -/
structure Dk.mild (D : Dk) (k m : Nat) : Prop where
  room : D.s0.room + D.s1.room ≤ m
  acts : D.s0.acts.length + D.s1.acts.length ≤ k
  done : D.done ≤ k
theorem Dk.mild.fits {D : Dk} {k m n : Nat} (h : D.mild k m) (hn : D.named ≤ 9223372036854775807) (hk : k ≤ 4194304) (hm : m + n ≤ 4194304) : D.fits n :=
  ⟨by have := h.room; omega, by have := h.acts; omega, by have := h.done; omega, hn⟩
theorem Dk.mild.step {D : Dk} {k m : Nat} (h : D.mild k m) (n : Int) (o : DOp) : (D.step n o).mild (k + 1) (m + o.size) :=
  ⟨by have := step_room D n o; have := h.room; omega, by have := step_acts D n o; have := h.acts; omega, by have := step_done D n o; have := h.done; omega⟩
def Dop.fourB (o : Dop) : Bool := decide (1 ≤ o.kind) && decide (o.kind ≤ 4)
/-- behind a script's acts -/
def runD (D : Dk) (ops : List Dop) : Dk := ops.foldl (fun D o => if o.fourB then D.step o.slot (o.act o.data) else D) D
def bytesD (ops : List Dop) : Nat := (ops.map fun o => o.data.length).sum
theorem act_size (o : Dop) (da : List UInt8) : (o.act da).size ≤ da.length := by
  unfold Dop.act
  split
  · exact Nat.le_refl _
  split
  · exact Nat.zero_le _
  split
  · exact Nat.zero_le _
  · exact Nat.zero_le _
theorem runD_snoc (D : Dk) (ops : List Dop) (o : Dop) : runD D (ops ++ [o]) = if o.fourB then (runD D ops).step o.slot (o.act o.data) else runD D ops := by simp [runD]
theorem runD_take (D : Dk) (ops : List Dop) (k : Nat) (hk : k < ops.length) : runD D (ops.take (k + 1)) = if (ops[k]).fourB then (runD D (ops.take k)).step (ops[k]).slot ((ops[k]).act (ops[k]).data) else runD D (ops.take k) := by
  rw [List.take_succ_eq_append_getElem hk, runD_snoc]
theorem runD_state (D : Dk) (k m : Nat) (hD : D.mild k m) (h0 : D.named = 0) (hd : D.dead = false) (ops : List Dop) : (runD D ops).mild (k + ops.length) (m + bytesD ops) ∧ (runD D ops).named = 0 ∧ (runD D ops).dead = false := by
  induction ops generalizing D k m with
  | nil => exact ⟨hD, h0, hd⟩
  | cons o ops ih =>
    have e : runD D (o :: ops) = runD (if o.fourB then D.step o.slot (o.act o.data) else D) ops := rfl
    rw [e]
    by_cases hf : o.fourB = true
    · rw [if_pos hf]
      have h1 := hD.step o.slot (o.act o.data)
      have h2 := act_size o o.data
      have h3 := step_named D o.slot (o.act o.data)
      obtain ⟨a, b, c⟩ := ih (D.step o.slot (o.act o.data)) (k + 1) (m + o.data.length) ⟨by have := h1.room; omega, h1.acts, h1.done⟩ (by omega) (step_alive D _ _ h0 hd)
      refine ⟨⟨?_, ?_, ?_⟩, b, c⟩
      · have := a.room; simp only [bytesD, List.map_cons, List.sum_cons] at this ⊢; omega
      · have := a.acts; simp only [List.length_cons]; omega
      · have := a.done; simp only [List.length_cons]; omega
    · rw [if_neg hf]
      obtain ⟨a, b, c⟩ := ih D k m hD h0 hd
      refine ⟨⟨?_, ?_, ?_⟩, b, c⟩
      · have := a.room; simp only [bytesD, List.map_cons, List.sum_cons] at this ⊢; omega
      · have := a.acts; simp only [List.length_cons]; omega
      · have := a.done; simp only [List.length_cons]; omega
theorem new_mild : Dk.new.mild 0 0 := ⟨by decide, by decide, by decide⟩
theorem bytesD_take (ops : List Dop) (k : Nat) : bytesD (ops.take k) ≤ bytesD ops := by
  have : bytesD (ops.take k) + bytesD (ops.drop k) = bytesD ops := by
    unfold bytesD; rw [← List.sum_append, ← List.map_append, List.take_append_drop]
  omega
end Go.Proofs.Ytcadacljacbipaa
