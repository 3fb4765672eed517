/- New, with the blocks that its matrix lies in; the lists and matrices of a law. -/
import Derived.Test.YtkklonldplekcaaMkB
namespace Go.Proofs.Ytkklonldplekcaa
open Go.RowKit
theorem Fam.frX {B : Nat} {w0 w W : World} {ts : List Thing} {X : Nat → Prop} (h : Fam B w0 w ts) (hf : Fr X w W) (hX : ∀ k, B ≤ k → k < w.heap.size → ¬ X k) : Fam B W W ts := by
  obtain ⟨ρ, h1, h2, h3, h4⟩ := h
  refine ⟨ρ, fun i t ht => t.fr (h1 i t ht) hf (fun k hk => hX k (h2 k (by omega)).1 (h2 k (by omega)).2) (fun _ h => h) (fun k hk => ?_), fun k hk => ⟨(h2 k hk).1, Nat.lt_of_lt_of_le (h2 k hk).2 hf.size⟩, Below.refl _ _, Nat.le_trans h4 hf.size⟩
  have := (h2 k (by omega)).2
  have := hf.size
  omega
theorem MB.frX {B : Nat} {w0 w W : World} {ts : List Thing} {fp : Option Addr} {m R r : Nat} {vs : List Value} {M : List (List UInt8)} {N : Nat} {X : Nat → Prop} (h : MB B w0 w ts fp m R r vs M N) (hf : Fr X w W) (hX : ∀ k, B ≤ k → k < w.heap.size → ¬ X k) : MB B W W ts fp m R r vs M N := ⟨h.fam.frX hf hX, h.r, h.vl, h.n⟩
theorem FieldAt.frX {w W : World} {g : Nat} {q : UInt8} {X : Nat → Prop} (h : FieldAt w g q) (hf : Fr X w W) (hX : ¬ X g) : FieldAt W g q :=
  ⟨by rw [hf.block g h.lt hX]; exact h.ex, h.gen⟩
/-- a fact that goes on as long as its blocks are left alone -/
def semT (P : World → Prop) : Thing := ⟨fun w S => ∀ (X : Nat → Prop) (W : World), Fr X w W → (∀ k, S k → ¬ X k) → P W, fun {X _ _ _ _} h hf hx hs _ Y W hY hd => h (fun k => X k ∨ Y k) W ((hf.mono fun _ _ h => .inl h).trans (hY.mono fun _ _ h => .inl (.inr h))) fun k hk e => e.elim (hx k hk) (hd k (hs k hk))⟩
theorem Fam.sem {B : Nat} {w0 w : World} {ts : List Thing} {P : World → Prop} (h : Fam B w0 w ts) {i : Nat} (hi : ts[i]? = some (semT P)) : P w := by
  obtain ⟨S, hS, _⟩ := h.call hi
  exact hS (fun _ => False) w (Fr.refl _ _) fun _ _ e => e
/-- a matrix in the blocks that were made between two worlds, but for its field -/
def NewSem (fg : Nat) (q : UInt8) (m : Nat) (M : List (List UInt8)) (n : Nat) (w w' : World) : Prop := ∀ (X : Nat → Prop) (W : World), Fr X w' W → (∀ k, w.heap.size ≤ k → k < w'.heap.size → ¬ X k) → FieldAt W fg q → MatAt W m q M n
theorem NewSem.at_ {fg : Nat} {q : UInt8} {m : Nat} {M : List (List UInt8)} {n : Nat} {w w' : World} (h : NewSem fg q m M n w w') (hF : FieldAt w' fg q) : MatAt w' m q M n := h (fun _ => False) w' (Fr.refl _ _) (fun _ _ _ e => e) hF
/-- matrices, lists of rows, and bytes, as they are read -/
def KS (w : World) (l : List (Nat × List (List UInt8) × Nat)) (s : List (Value × List (List UInt8))) (b : List (Value × List UInt8)) : Prop := Mats w l ∧ (∀ v M, (v, M) ∈ s → SlBB w v M) ∧ ∀ v L, (v, L) ∈ b → SlB w v L
section
variable {w w' : World} {l : List (Nat × List (List UInt8) × Nat)} {s : List (Value × List (List UInt8))} {b : List (Value × List UInt8)}
theorem KS.below (h : KS w l s b) (hb : Below w.heap.size w w') : KS w' l s b := ⟨h.1.below hb, fun v M hm => (h.2.1 v M hm).below hb, fun v L hm => (h.2.2 v L hm).below hb⟩
theorem KS.mat (h : KS w l s b) (hb : Below w.heap.size w w') {m n : Nat} {T : List (List UInt8)} (hm : MatAt w' m 0x1d T n) : KS w' ((m, T, n) :: l) s b := ⟨h.1.cons hb hm, (h.below hb).2⟩
theorem KS.rows (h : KS w l s b) (hb : Below w.heap.size w w') {v : Value} {T : List (List UInt8)} (hm : SlBB w' v T) : KS w' l ((v, T) :: s) b := ⟨h.1.below hb, fun u M hu => by
  rcases List.mem_cons.1 hu with e | e
  · injection e with e1 e2; subst e1 e2; exact hm
  · exact (h.2.1 u M e).below hb, (h.below hb).2.2⟩
theorem KS.bytes (h : KS w l s b) (hb : Below w.heap.size w w') {v : Value} {L : List UInt8} (hm : SlB w' v L) : KS w' l s ((v, L) :: b) := ⟨h.1.below hb, (h.below hb).2.1, fun u M hu => by
  rcases List.mem_cons.1 hu with e | e
  · injection e with e1 e2; subst e1 e2; exact hm
  · exact (h.2.2 u M e).below hb⟩
end
theorem Told.partsT {B : Nat} {w0 W : World} {ts : List Thing} {M : List (List UInt8)} {v : Value} (h : Told B w0 W ts M M.length v) : ∃ R c vs, v = .slice (some ⟨R, 0, none⟩) M.length c ∧ vs.length = M.length ∧ Fam B w0 W (ts ++ gridT v vs M) := by
  obtain ⟨R, c, vs, e, hl, hf⟩ := h
  rw [List.take_length] at hf
  exact ⟨R, c, vs, e, hl, hf⟩
set_option maxRecDepth 100000 in
set_option maxHeartbeats 8000000 in
theorem New_sem (w : World) (fg : Nat) (q : UInt8) (hF : FieldAt w fg q) (Rv : Value) (M : List (List UInt8)) (n : Nat) (hM : SlBB w Rv M) (hpos : 0 < M.length ∧ M.length ≤ 256) (hn : ∀ i, i < M.length → (M.getD i []).length = n) (hn0 : 0 < n ∧ n ≤ 256) :
    Calls Try.prog 32 #[.pointer (some ⟨fg, 0, none⟩), Rv] w fun e w' => ∃ m, e = .returned (.tuple #[.pointer (some ⟨m, 0, none⟩), .int .i64 0]) ∧ NewSem fg q m M n w w' ∧ Below w.heap.size w w' := by
  have hmf : ∀ (fn : Fn) (first cap : Array Value) (w : World), (Instr.makeFunc fn first cap).run Try.prog w = .ok (.func fn first cap) w := fun _ _ _ _ => rfl
  obtain ⟨R, o, c, rfl, hrows⟩ := hM.cells hpos.1 hn
  obtain ⟨r, hr⟩ : ∃ r, M.length = r := ⟨_, rfl⟩
  rw [hr] at hrows hpos ⊢
  have HR := hid hr
  have HROWS := hid hrows
  have HFD := hid hF
  have HN := hid hn
  obtain ⟨hr0, hr1⟩ := hpos
  obtain ⟨hn1, hn2⟩ := hn0
  clear hM hrows hr hF hn
  go_enter Try.func32, Try.ntmps32
  go_upto_region 1 with (fail)
  obtain ⟨rb, hrb⟩ : ∃ rb, w.heap.size = rb := ⟨_, rfl⟩
  have HRB := hid hrb
  refine Code.seen (fun W => Bx1 W rb R o r c n ∧ Below w.heap.size w W ∧ Fam w.heap.size w W [blkT rb (.cells #[.slice (some ⟨R, o, none⟩) r c] 35 (0, 0))]) ?_ fun w1 H1 => ?_
  · rw [← hrb]
    have hb := (Below.refl w.heap.size w).alloc (Nat.le_refl _) (.cells #[.slice (some ⟨R, o, none⟩) r c] 35 (0, 0))
    exact ⟨⟨by rw [blk_cell (heap_alloc_new _ _)]; rfl, fun i hi => by obtain ⟨A, k, c0, _⟩ := HROWS.out i hi; exact ⟨A, k, (hb.cell (World.block_lt_of_cell? w _ c0)).trans c0⟩, hr0⟩, hb, (Fam.start w).new _⟩
  rw [hrb]
  have b0 := H1.out.1.box
  obtain ⟨A0, k0, c0⟩ := H1.out.1.rows 0 hr0
  rw [Nat.add_zero] at c0
  have z1 : ((r : Int) == 0) = false := by rw [beq_eq_false_iff_ne]; omega
  have z2 : ((n : Int) == 0) = false := by rw [beq_eq_false_iff_ne]; omega
  have z3 : (r : Int) ≤ 256 := by omega
  have z4 : (n : Int) ≤ 256 := by omega
  have z5 : (r == 0) = false := by rw [beq_eq_false_iff_ne]; omega
  have z6 : (n == 0) = false := by rw [beq_eq_false_iff_ne]; omega
  clear hrb
  go_upto_region 7 with (go_at_call 74; (with_reducible refine (ContainsFunc_no _ rb R o r c n H1.out.1 (by omega)).mono ?_); rintro e wz ⟨rfl, hwz⟩; have hwz := hwz.symm; subst hwz)
  have HW := hid (H1.out.2.2.below (Below.refl w1.heap.size w1).drew)
  clear H1
  go_still_tail 7, (by kernel_rfl)
  change wpList _ _ _ _ _ w1.drew
  clear b0 c0
  generalize w1.drew = w2 at *
  go_wp2_with fail
  refine (blank_mb w.heap.size w w2 [blkT rb (.cells #[.slice (some ⟨R, o, none⟩) r c] 35 (0, 0))] HW.out (some ⟨fg, 0, none⟩) r n (by omega) (by omega)).mono ?_
  rintro e w3 ⟨m, R1, vs, rfl, h3⟩
  have H3 := hid h3
  obtain ⟨Z, hZ⟩ : ∃ Z, List.replicate r (List.replicate n (0 : UInt8)) = Z := ⟨_, rfl⟩
  rw [hZ] at H3
  have HZ : Hid (Z.length = r ∧ ∀ i, i < r → (Z.getD i []).length = n) := hid (by
    rw [← hZ]
    refine ⟨by simp, fun i hi => ?_⟩
    rw [List.getD_eq_getElem?_getD, List.getElem?_replicate, if_pos hi]; simp)
  have H3u : Hid (MB w.heap.size w w3 [blkT rb (.cells #[.slice (some ⟨R, o, none⟩) r c] 35 (0, 0))] (some ⟨fg, 0, none⟩) m R1 r vs (upTo M Z 0) n) := hid (by rw [upTo_zero]; exact H3.out)
  clear h3 hZ
  have b0 : w3.cell? ⟨rb, 0, none⟩ = some (.slice (some ⟨R, o, none⟩) r c) := by rw [blk_cell (H3.out.fam.back.back.blkL (ts := []) 0 rfl)]; rfl
  clear H3
  go_wp2
  clear b0
  go_loopw [7, 8, 46] (fun _ _ x wr => ∃ k : Nat, k ≤ r ∧ x = .int .i64 k ∧ MB w.heap.size w wr [blkT rb (.cells #[.slice (some ⟨R, o, none⟩) r c] 35 (0, 0))] (some ⟨fg, 0, none⟩) m R1 r vs (upTo M Z k) n) (fun _ _ x _ => r - (intOf x).toNat)
  case atStart => exact ⟨0, Nat.zero_le _, rfl, H3u.out⟩
  case round =>
    clear H3u
    obtain ⟨k, hk, rfl, hm⟩ := hrel
    have HM := hid hm
    by_cases hlt : k < r
    · obtain ⟨A, kk, c0, hs⟩ := HROWS.out k hlt
      have c1 : wr.cell? ⟨R, o + k, none⟩ = some (.slice A n kk) := (hm.fam.base.cell (World.block_lt_of_cell? w _ c0)).trans c0
      have HS := hid (hs.below hm.fam.base)
      obtain ⟨y0, y1⟩ := hm.box
      obtain ⟨v, L, hv, hL, ci, fi, oi, li, gi⟩ := hm.row k hlt
      obtain ⟨Av, cv, rfl⟩ := oi.form
      have hML := HN.out k (by have := HR.out; omega)
      obtain ⟨K, hK⟩ : ∃ K, M.getD k [] = K := ⟨_, rfl⟩
      rw [hK] at HS hML
      have HK := hid hK
      have HKL := hid hML
      have HV := hid hv
      have HO := hid oi
      have HLI := hid li
      have i0 : (0 : Int) ≤ (k : Int) := by omega
      have i1 : (k : Int) < (r : Int) := by omega
      clear hm hs c0 hv hL fi oi li gi hML hK y0
      go_wp2_with (with_reducible show wpList _ _ _ (⟨some 59, _, _, _, _, _⟩ :: _) _ _; (refine wpList_copyB rfl (.tmp 57) (.tmp 58) rfl (.slice Av L.length cv) (.slice A n kk) L K rfl rfl HO.out HS.out (by rw [HKL.out, HLI.out]; exact Nat.le_refl _) ?_; intro w5 ho5 hf5; have H5 := hid (copied_row HM.out hlt HV.out HKL.out HLI.out HK.out (by have := HR.out; omega) (by have := HZ.out.1; have := HR.out; omega) ho5 hf5); clear ho5 hf5))
      clear ci c1 y1
      go_roundw
      case rel => exact ⟨k + 1, by omega, by go_num, H5.out⟩
      case measure => simp [intOf]; omega
    · have HE : Hid (NewSem fg q m M n w wr ∧ Below w.heap.size w wr) := hid (by
        have e := upTo_all (A := M) (C := Z) (k := k) (by have := HZ.out.1; have := HR.out; omega) (by have := HR.out; omega)
        rw [e] at hm
        exact ⟨fun X W hfr hX hF => (hm.frX hfr hX).done hF ⟨hr0, by omega⟩ ⟨hn1, by omega⟩, hm.fam.base⟩)
      clear hm
      go_wp2
      go_ret2
      exact ⟨m, rfl, HE.out.1, HE.out.2⟩
end Go.Proofs.Ytkklonldplekcaa
