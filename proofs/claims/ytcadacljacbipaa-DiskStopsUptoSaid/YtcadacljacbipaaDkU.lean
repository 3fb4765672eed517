/- The law's helpers: wide, mod, act; a disk in blocks from B on. -/
import Derived.Test.YtcadacljacbipaaDkN
import Derived.Test.YtcadacljacbipaaByX
namespace Go.Proofs.Ytcadacljacbipaa
open Go.RowKit
set_option maxHeartbeats 1000000 in
theorem wide_any (v : Value) (l : List UInt8) (w : World) (h : SlB w v l) (hl : l.length + 2 ≤ 140737488355328) :
    Calls Try.prog 10 #[v] w fun e w' => ∃ g c, e = .returned (.slice (some ⟨g, 0, none⟩) l.length c) ∧ OwnB w' w.heap.size (.slice (some ⟨g, 0, none⟩) (l.length + 2) c) (l ++ [193, 194]) ∧ l.length + 2 ≤ c ∧ Below w.heap.size w w' := by
  have H := hid h
  obtain ⟨A, c, rfl⟩ := h.form
  clear h
  go_enter Try.func10, Try.ntmps10
  go_upto_region 4 with (first
    | (at_builtin; refine wpList_appB rfl (.tmp 4) (.tmp 5) rfl w.heap.size (.slice none 0 0) _ [] l rfl rfl (OwnB.nil _ _) H.out (by simp only [List.length_nil]; omega) (Nat.le_refl _) ?_; intro v1 w1 ho1 hg1; rw [List.nil_append] at ho1; have HB := hid (OwnB.grown (Below.refl w.heap.size w) (OwnB.nil w w.heap.size) (Nat.le_refl _) (Nat.le_refl _) hg1); obtain ⟨A1, c1, rfl⟩ := ho1.form; have HO := hid ho1; clear ho1 hg1)
    | (at_builtin; refine wpList_appB rfl (.tmp 7) (.tmp 8) rfl w.heap.size _ _ l [193, 194] rfl rfl (HO.out.alloc _) (by exact lit_sl w1 [193, 194] (by simp)) (by simp only [List.length_cons, List.length_nil]; omega) (Nat.le_trans HB.out.size (by simp)) ?_; intro v2 w2 ho2 hg2; have HB2 := hid (OwnB.grown (HB.out.alloc HB.out.size _) (HO.out.alloc _) (Nat.le_refl _) (Nat.le_trans HB.out.size (by simp)) hg2); have hc2 := ho2.some_ (by simp); obtain ⟨g, cap, rfl, _, hcap, _⟩ := hc2; have HO2 := hid ho2; simp only [List.length_append, List.length_cons, List.length_nil, Nat.zero_add] at hcap HO2; clear ho2 hg2))
  have hk : (l.length : Int) ≤ (cap : Int) := by omega
  go_wp2
  go_ret
  exact ⟨g, cap, rfl, by simpa using HO2.out, by omega, HB2.out⟩
theorem mod_any (k : Int) (n : Nat) (_ : -9223372036854775808 ≤ k) (_ : k ≤ 9223372036854775807) (hn : 0 < n) (hn2 : n ≤ 1125899906842624) (w : World) :
    Calls Try.prog 16 #[.int .i64 k, .int .i64 (n : Int)] w fun e w' => e = .returned (.int .i64 (cmod k n : Int)) ∧ w' = w := by
  have t1 := Int.tmod_lt_of_pos k (show (0 : Int) < (n : Int) by omega)
  have t2 := Int.lt_tmod_of_pos k (show (0 : Int) < (n : Int) by omega)
  have hn0 : (1 : Int) ≤ (n : Int) := by omega
  have e : (cmod k n : Int) = k % n := by
    unfold cmod; rw [Int.toNat_of_nonneg (Int.emod_nonneg _ (by omega))]
  have d : k.tmod n = k % n - (if 0 ≤ k ∨ (n : Int) ∣ k then 0 else ((n : Int)).natAbs) := Int.tmod_eq_emod
  have e1 := Int.emod_nonneg k (show (n : Int) ≠ 0 by omega)
  have e2 := Int.emod_lt_of_pos k (show (0 : Int) < (n : Int) by omega)
  rcases Int.lt_or_le (k.tmod n) 0 with hneg | hneg
  · have HR : Hid (k.tmod n + n = (cmod k n : Int)) := hid (by
      rw [e]
      split at d <;> omega)
    clear e d e1 e2
    go_enter Try.func16, Try.ntmps16
    go_wp2
    go_ret
    exact ⟨congrArg (fun n => Ending.returned (.int .i64 n)) HR.out, rfl⟩
  · have HR : Hid (k.tmod n = (cmod k n : Int)) := hid (by
      rw [e]
      split at d <;> omega)
    clear e d e1 e2
    go_enter Try.func16, Try.ntmps16
    go_wp2
    go_ret
    exact ⟨congrArg (fun n => Ending.returned (.int .i64 n)) HR.out, rfl⟩
/-- a disk, all of it in blocks from B on -/
def DB (B : Nat) (w : World) (d : Nat) (D : Dk) : Prop := ∃ S, (∀ k, S k → B ≤ k) ∧ DAt w S d D
theorem DB.below {B : Nat} {w w' : World} {d : Nat} {D : Dk} (h : DB B w d D) (hb : Below w.heap.size w w') : DB B w' d D := by
  obtain ⟨S, h1, h2⟩ := h
  exact ⟨S, h1, h2.below hb⟩
theorem DB.of {B : Nat} {w w' : World} {S : Nat → Prop} {d : Nat} {D : Dk} (hS : ∀ k, S k → B ≤ k) (hB : B ≤ w.heap.size) (h : Dt w w' S d D) : DB B w' d D ∧ Below B w w' :=
  ⟨⟨_, fun k hk => hk.elim (fun g => hS k g) (fun g => Nat.le_trans hB g.1), h.1⟩, h.2.to_below (fun k hk g => by have := hS k g; omega) hB⟩
/-- the law's own word of a call -/
structure Dop where
  kind : Int
  d : Int
  slot : Int
  data : List UInt8
  n : Int
  done : Bool
  sa : List UInt8
  sb : List UInt8
  ch : List Int
def Dop.vals (o : Dop) (v a b c : Value) : List Value := [.int .i64 o.kind, .int .i64 o.d, .int .i64 o.slot, v, .int .i64 o.n, .bool o.done, a, b, c]
/-- which of the four acts -/
def Dop.act (o : Dop) (da : List UInt8) : DOp := if o.kind = 1 then .append da else if o.kind = 2 then .wipe else if o.kind = 3 then .sync else .switch
def Dop.four (o : Dop) : Prop := 1 ≤ o.kind ∧ o.kind ≤ 4
theorem fits_mono {D : Dk} {m n : Nat} (h : D.fits m) (hn : n ≤ m) : D.fits n := ⟨by have := h.room; omega, h.acts, h.done, h.named⟩
set_option maxRecDepth 100000 in
set_option maxHeartbeats 4000000 in
theorem lawact_any (w : World) (S : Nat → Prop) (d : Nat) (D : Dk) (o : Dop) (v a b c dv : Value) (da : List UInt8) (h : DAt w S d D) (hf : D.fits da.length) (hk : o.four) (hdv : SlB w dv da) :
    Calls Try.prog 28 #[.pointer (some ⟨d, 0, none⟩), .agg #[.int .i64 o.kind, .int .i64 o.d, .int .i64 o.slot, v, .int .i64 o.n, .bool o.done, a, b, c], dv] w fun e w' => e = .returned (.int .i64 (D.err o.slot (o.act da).wipes)) ∧ Dt w w' S d (D.step o.slot (o.act da)) := by
  obtain ⟨kd, dn, sl, dat, n, dn2, sa, sb, ch⟩ := o
  simp only [Dop.four] at hk
  simp only at *
  have H := hid h
  have HF := hid hf
  have HDV := hid hdv
  have hk4 : kd = 1 ∨ kd = 2 ∨ kd = 3 ∨ kd = 4 := by omega
  clear h hf hdv hk
  rcases hk4 with rfl | rfl | rfl | rfl
  · skip
    go_enter Try.func28, Try.ntmps28
    go_upto_region 1 with (fail)
    refine Code.seen (fun W => W.heap[w.heap.size]? = some (.cells #[.int .i64 1, .int .i64 dn, .int .i64 sl, v, .int .i64 n, .bool dn2, a, b, c] 51 (0, 0)) ∧ Below w.heap.size w W) ⟨heap_alloc_new _ _, (Below.refl _ _).alloc (Nat.le_refl _) _⟩ fun w1 H1 => ?_
    have x0 : w1.cell? ⟨w.heap.size, 0, none⟩ = some (.int .i64 1) := by rw [blk_cell H1.out.1]; rfl
    have x2 : w1.cell? ⟨w.heap.size, 2, none⟩ = some (.int .i64 sl) := by rw [blk_cell H1.out.1]; rfl
    go_wp2_with fail
    refine (Append_any w1 S d D sl dv da (H.out.below H1.out.2) HF.out (HDV.out.below H1.out.2)).mono ?_
    rintro e w2 ⟨rfl, h2⟩
    have R := hid (Did.close H1.out.2 (T := fun _ => False) ⟨h2.1.fr (Fr.refl (fun _ => False) _) (fun _ _ h => h) (fun k hk => hk.elim .inl (fun g => .inr (.inr g))) (fun k hk => h2.1.lt k (hk.elim .inl (fun g => g.elim (fun g => g.elim) .inr))), h2.2⟩ (fun _ h => h.elim))
    clear h2
    go_wp2
    go_ret
    exact ⟨rfl, R.out⟩
  · skip
    go_enter Try.func28, Try.ntmps28
    go_upto_region 1 with (fail)
    refine Code.seen (fun W => W.heap[w.heap.size]? = some (.cells #[.int .i64 2, .int .i64 dn, .int .i64 sl, v, .int .i64 n, .bool dn2, a, b, c] 51 (0, 0)) ∧ Below w.heap.size w W) ⟨heap_alloc_new _ _, (Below.refl _ _).alloc (Nat.le_refl _) _⟩ fun w1 H1 => ?_
    have x0 : w1.cell? ⟨w.heap.size, 0, none⟩ = some (.int .i64 2) := by rw [blk_cell H1.out.1]; rfl
    have x2 : w1.cell? ⟨w.heap.size, 2, none⟩ = some (.int .i64 sl) := by rw [blk_cell H1.out.1]; rfl
    go_wp2_with fail
    refine (Wipe_any w1 S d D sl (H.out.below H1.out.2) (fits_mono HF.out (Nat.zero_le _))).mono ?_
    rintro e w2 ⟨rfl, h2⟩
    have R := hid (Did.close H1.out.2 (T := fun _ => False) ⟨h2.1.fr (Fr.refl (fun _ => False) _) (fun _ _ h => h) (fun k hk => hk.elim .inl (fun g => .inr (.inr g))) (fun k hk => h2.1.lt k (hk.elim .inl (fun g => g.elim (fun g => g.elim) .inr))), h2.2⟩ (fun _ h => h.elim))
    clear h2
    go_wp2
    go_ret
    exact ⟨rfl, R.out⟩
  · skip
    go_enter Try.func28, Try.ntmps28
    go_upto_region 1 with (fail)
    refine Code.seen (fun W => W.heap[w.heap.size]? = some (.cells #[.int .i64 3, .int .i64 dn, .int .i64 sl, v, .int .i64 n, .bool dn2, a, b, c] 51 (0, 0)) ∧ Below w.heap.size w W) ⟨heap_alloc_new _ _, (Below.refl _ _).alloc (Nat.le_refl _) _⟩ fun w1 H1 => ?_
    have x0 : w1.cell? ⟨w.heap.size, 0, none⟩ = some (.int .i64 3) := by rw [blk_cell H1.out.1]; rfl
    have x2 : w1.cell? ⟨w.heap.size, 2, none⟩ = some (.int .i64 sl) := by rw [blk_cell H1.out.1]; rfl
    go_wp2_with fail
    refine (Sync_any w1 S d D sl (H.out.below H1.out.2) (fits_mono HF.out (Nat.zero_le _))).mono ?_
    rintro e w2 ⟨rfl, h2⟩
    have R := hid (Did.close H1.out.2 (T := fun _ => False) ⟨h2.1.fr (Fr.refl (fun _ => False) _) (fun _ _ h => h) (fun k hk => hk.elim .inl (fun g => .inr (.inr g))) (fun k hk => h2.1.lt k (hk.elim .inl (fun g => g.elim (fun g => g.elim) .inr))), h2.2⟩ (fun _ h => h.elim))
    clear h2
    go_wp2
    go_ret
    exact ⟨rfl, R.out⟩
  · skip
    go_enter Try.func28, Try.ntmps28
    go_upto_region 1 with (fail)
    refine Code.seen (fun W => W.heap[w.heap.size]? = some (.cells #[.int .i64 4, .int .i64 dn, .int .i64 sl, v, .int .i64 n, .bool dn2, a, b, c] 51 (0, 0)) ∧ Below w.heap.size w W) ⟨heap_alloc_new _ _, (Below.refl _ _).alloc (Nat.le_refl _) _⟩ fun w1 H1 => ?_
    have x0 : w1.cell? ⟨w.heap.size, 0, none⟩ = some (.int .i64 4) := by rw [blk_cell H1.out.1]; rfl
    have x2 : w1.cell? ⟨w.heap.size, 2, none⟩ = some (.int .i64 sl) := by rw [blk_cell H1.out.1]; rfl
    go_wp2_with fail
    refine (Switch_any w1 S d D sl (H.out.below H1.out.2) (fits_mono HF.out (Nat.zero_le _))).mono ?_
    rintro e w2 ⟨rfl, h2⟩
    have R := hid (Did.close H1.out.2 (T := fun _ => False) ⟨h2.1.fr (Fr.refl (fun _ => False) _) (fun _ _ h => h) (fun k hk => hk.elim .inl (fun g => .inr (.inr g))) (fun k hk => h2.1.lt k (hk.elim .inl (fun g => g.elim (fun g => g.elim) .inr))), h2.2⟩ (fun _ h => h.elim))
    clear h2
    go_wp2
    go_ret
    exact ⟨rfl, R.out⟩
end Go.Proofs.Ytcadacljacbipaa
