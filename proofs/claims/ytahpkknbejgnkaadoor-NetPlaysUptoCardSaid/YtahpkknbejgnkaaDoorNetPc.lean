/- Burst, Cut, Lose of a network; Copy. -/
import Derived.Test.YtahpkknbejgnkaaDoorNetPb
namespace Go.Proofs.YtahpkknbejgnkaaDoor
open Go.RowKit
theorem Nt.of_eq {w w' : World} {S : Nat → Prop} {d : Nat} {P : List Pkt} (h : NAt w S d P) (hw : w' = w) : Nt w w' S d P := by subst hw; exact Nt.stay (Below.refl _ _) h
theorem Nt.of_same {w : World} {S : Nat → Prop} {d : Nat} {P : List Pkt} (h : NAt w S d P) : Nt w w S d P := Nt.stay (Below.refl _ _) h
theorem befall_lose (w : World) (S : Nat → Prop) (d : Nat) (P : List Pkt) (i : Nat) (p : Pkt) (a : Int) (pat : Int) (hF : FtAt w) (h : NAt w S d P) (hp : P[i]? = some p) :
    Calls Tryd.prog 23 #[.pointer (some ⟨d, 0, none⟩), .int .i64 4, .int .i64 (i : Int), .int .i64 a, .int .u32 pat] w fun e w' => e = .returned (.int .i64 (0)) ∧ Nt w w' S d (P.set i p.lose) := by
  have f0 := hF.c4
  have hi := (List.getElem?_eq_some_iff.1 hp).1
  have HC := hid (lose_at w S d P i p a pat h hp)
  obtain ⟨I, fv, vs, hN⟩ := h
  obtain ⟨Af, cf, rfl⟩ := own_form hN.row
  have c0 : w.cell? ⟨d, 0, none⟩ = some (.slice Af P.length cf) := by rw [blk_cell hN.at_]; rfl
  clear hN hF hp
  go_enter Tryd.func23, Tryd.ntmps23
  go_wp2_with fail
  refine HC.out.mono ?_
  rintro e w1 ⟨rfl, h1⟩
  have H1 := hid h1
  clear h1
  go_wp2
  go_ret
  exact ⟨rfl, H1.out⟩
theorem befall_cut (w : World) (S : Nat → Prop) (d : Nat) (P : List Pkt) (i : Nat) (p : Pkt) (n : Int) (pat : Int) (hF : FtAt w) (h : NAt w S d P) (hp : P[i]? = some p) (hn : 0 ≤ n) (hn2 : n ≤ 9223372036854775807) (hl : p.data.length ≤ 140737488355328) :
    Calls Tryd.prog 23 #[.pointer (some ⟨d, 0, none⟩), .int .i64 3, .int .i64 (i : Int), .int .i64 n, .int .u32 pat] w fun e w' => e = .returned (.int .i64 (0)) ∧ Nt w w' S d (P.set i (p.cut n)) := by
  have f0 := hF.c3
  have hi := (List.getElem?_eq_some_iff.1 hp).1
  have HC := hid (cut_at w S d P i p n pat h hp hn hn2 hl)
  obtain ⟨I, fv, vs, hN⟩ := h
  obtain ⟨Af, cf, rfl⟩ := own_form hN.row
  have c0 : w.cell? ⟨d, 0, none⟩ = some (.slice Af P.length cf) := by rw [blk_cell hN.at_]; rfl
  clear hN hF hp
  go_enter Tryd.func23, Tryd.ntmps23
  go_wp2_with fail
  refine HC.out.mono ?_
  rintro e w1 ⟨rfl, h1⟩
  have H1 := hid h1
  clear h1
  go_wp2
  go_ret
  exact ⟨rfl, H1.out⟩
theorem befall_cutn (w : World) (S : Nat → Prop) (d : Nat) (P : List Pkt) (i : Nat) (p : Pkt) (n : Int) (pat : Int) (hF : FtAt w) (h : NAt w S d P) (hp : P[i]? = some p) (hn : n < 0) :
    Calls Tryd.prog 23 #[.pointer (some ⟨d, 0, none⟩), .int .i64 3, .int .i64 (i : Int), .int .i64 n, .int .u32 pat] w fun e w' => e = .returned (.int .i64 (1)) ∧ Nt w w' S d (P) := by
  have f0 := hF.c3
  have hi := (List.getElem?_eq_some_iff.1 hp).1
  have HC := hid ((cut_neg w d i n pat hn).mono fun e w' ⟨he, hw⟩ => (⟨he, Nt.of_eq h hw⟩ : _ ∧ Nt w w' S d P))
  obtain ⟨I, fv, vs, hN⟩ := h
  obtain ⟨Af, cf, rfl⟩ := own_form hN.row
  have c0 : w.cell? ⟨d, 0, none⟩ = some (.slice Af P.length cf) := by rw [blk_cell hN.at_]; rfl
  clear hN hF hp
  go_enter Tryd.func23, Tryd.ntmps23
  go_wp2_with fail
  refine HC.out.mono ?_
  rintro e w1 ⟨rfl, h1⟩
  have H1 := hid h1
  clear h1
  go_wp2
  go_ret
  exact ⟨rfl, H1.out⟩
theorem befall_burst (w : World) (S : Nat → Prop) (d : Nat) (P : List Pkt) (i : Nat) (p : Pkt) (n : Nat) (pat : BitVec 32) (hF : FtAt w) (h : NAt w S d P) (hp : P[i]? = some p) (hn2 : n ≤ 9223372036854775807) (hl : p.data.length ≤ 140737488355328) :
    Calls Tryd.prog 23 #[.pointer (some ⟨d, 0, none⟩), .int .i64 2, .int .i64 (i : Int), .int .i64 (n : Int), W32 pat] w fun e w' => e = .returned (.int .i64 (0)) ∧ Nt w w' S d (P.set i (p.with_ (Crc.turn n pat p.data))) := by
  have f0 := hF.c2
  have hi := (List.getElem?_eq_some_iff.1 hp).1
  have HC := hid (burst_at w S d P i p n pat h hp hn2 hl)
  obtain ⟨I, fv, vs, hN⟩ := h
  obtain ⟨Af, cf, rfl⟩ := own_form hN.row
  have c0 : w.cell? ⟨d, 0, none⟩ = some (.slice Af P.length cf) := by rw [blk_cell hN.at_]; rfl
  clear hN hF hp
  go_enter Tryd.func23, Tryd.ntmps23
  go_wp2_with fail
  refine HC.out.mono ?_
  rintro e w1 ⟨rfl, h1⟩
  have H1 := hid h1
  clear h1
  go_wp2
  go_ret
  exact ⟨rfl, H1.out⟩
theorem befall_burstn (w : World) (S : Nat → Prop) (d : Nat) (P : List Pkt) (i : Nat) (p : Pkt) (n : Int) (pat : BitVec 32) (hF : FtAt w) (h : NAt w S d P) (hp : P[i]? = some p) (hn : n < 0) :
    Calls Tryd.prog 23 #[.pointer (some ⟨d, 0, none⟩), .int .i64 2, .int .i64 (i : Int), .int .i64 n, W32 pat] w fun e w' => e = .returned (.int .i64 (1)) ∧ Nt w w' S d (P) := by
  have f0 := hF.c2
  have hi := (List.getElem?_eq_some_iff.1 hp).1
  have HC := hid ((burst_neg w S d P i p n pat h hp hn).mono fun e w' ⟨he, hw⟩ => (⟨he, Nt.of_eq h hw⟩ : _ ∧ Nt w w' S d P))
  obtain ⟨I, fv, vs, hN⟩ := h
  obtain ⟨Af, cf, rfl⟩ := own_form hN.row
  have c0 : w.cell? ⟨d, 0, none⟩ = some (.slice Af P.length cf) := by rw [blk_cell hN.at_]; rfl
  clear hN hF hp
  go_enter Tryd.func23, Tryd.ntmps23
  go_wp2_with fail
  refine HC.out.mono ?_
  rintro e w1 ⟨rfl, h1⟩
  have H1 := hid h1
  clear h1
  go_wp2
  go_ret
  exact ⟨rfl, H1.out⟩
theorem Lose_ok (w : World) (S : Nat → Prop) (d : Nat) (P : List Pkt) (i : Nat) (p : Pkt) (hF : FtAt w) (h : NAt w S d P) (hp : P[i]? = some p) :
    Calls Tryd.prog 36 #[.pointer (some ⟨d, 0, none⟩), .int .i64 (i : Int)] w fun e w' => e = .returned (.int .i64 (0)) ∧ Nt w w' S d (P.set i p.lose) := by
  have H := hid (befall_lose w S d P i p 0 0 hF h hp)
  clear h hF hp
  go_enter Tryd.func36, Tryd.ntmps36
  go_wp2_with fail
  refine H.out.mono ?_
  rintro e w1 ⟨rfl, h1⟩
  have H1 := hid h1
  clear h1
  go_wp2
  go_ret
  exact ⟨rfl, H1.out⟩
theorem Cut_ok (w : World) (S : Nat → Prop) (d : Nat) (P : List Pkt) (i : Nat) (p : Pkt) (n : Int) (hF : FtAt w) (h : NAt w S d P) (hp : P[i]? = some p) (hn : 0 ≤ n) (hn2 : n ≤ 9223372036854775807) (hl : p.data.length ≤ 140737488355328) :
    Calls Tryd.prog 34 #[.pointer (some ⟨d, 0, none⟩), .int .i64 (i : Int), .int .i64 n] w fun e w' => e = .returned (.int .i64 (0)) ∧ Nt w w' S d (P.set i (p.cut n)) := by
  have H := hid (befall_cut w S d P i p n 0 hF h hp hn hn2 hl)
  clear h hF hp
  go_enter Tryd.func34, Tryd.ntmps34
  go_wp2_with fail
  refine H.out.mono ?_
  rintro e w1 ⟨rfl, h1⟩
  have H1 := hid h1
  clear h1
  go_wp2
  go_ret
  exact ⟨rfl, H1.out⟩
theorem Cut_neg (w : World) (S : Nat → Prop) (d : Nat) (P : List Pkt) (i : Nat) (p : Pkt) (n : Int) (hF : FtAt w) (h : NAt w S d P) (hp : P[i]? = some p) (hn : n < 0) :
    Calls Tryd.prog 34 #[.pointer (some ⟨d, 0, none⟩), .int .i64 (i : Int), .int .i64 n] w fun e w' => e = .returned (.int .i64 (1)) ∧ Nt w w' S d (P) := by
  have H := hid (befall_cutn w S d P i p n 0 hF h hp hn)
  clear h hF hp
  go_enter Tryd.func34, Tryd.ntmps34
  go_wp2_with fail
  refine H.out.mono ?_
  rintro e w1 ⟨rfl, h1⟩
  have H1 := hid h1
  clear h1
  go_wp2
  go_ret
  exact ⟨rfl, H1.out⟩
theorem Burst_ok (w : World) (S : Nat → Prop) (d : Nat) (P : List Pkt) (i : Nat) (p : Pkt) (n : Nat) (pat : BitVec 32) (hF : FtAt w) (h : NAt w S d P) (hp : P[i]? = some p) (hn2 : n ≤ 9223372036854775807) (hl : p.data.length ≤ 140737488355328) :
    Calls Tryd.prog 32 #[.pointer (some ⟨d, 0, none⟩), .int .i64 (i : Int), .int .i64 (n : Int), W32 pat] w fun e w' => e = .returned (.int .i64 (0)) ∧ Nt w w' S d (P.set i (p.with_ (Crc.turn n pat p.data))) := by
  have H := hid (befall_burst w S d P i p n pat hF h hp hn2 hl)
  clear h hF hp
  go_enter Tryd.func32, Tryd.ntmps32
  go_wp2_with fail
  refine H.out.mono ?_
  rintro e w1 ⟨rfl, h1⟩
  have H1 := hid h1
  clear h1
  go_wp2
  go_ret
  exact ⟨rfl, H1.out⟩
theorem Burst_neg (w : World) (S : Nat → Prop) (d : Nat) (P : List Pkt) (i : Nat) (p : Pkt) (n : Int) (pat : BitVec 32) (hF : FtAt w) (h : NAt w S d P) (hp : P[i]? = some p) (hn : n < 0) :
    Calls Tryd.prog 32 #[.pointer (some ⟨d, 0, none⟩), .int .i64 (i : Int), .int .i64 n, W32 pat] w fun e w' => e = .returned (.int .i64 (1)) ∧ Nt w w' S d (P) := by
  have H := hid (befall_burstn w S d P i p n pat hF h hp hn)
  clear h hF hp
  go_enter Tryd.func32, Tryd.ntmps32
  go_wp2_with fail
  refine H.out.mono ?_
  rintro e w1 ⟨rfl, h1⟩
  have H1 := hid h1
  clear h1
  go_wp2
  go_ret
  exact ⟨rfl, H1.out⟩
theorem Lose_no (w : World) (S : Nat → Prop) (d : Nat) (P : List Pkt) (i : Int) (h : NAt w S d P) (hi : i < 0 ∨ (P.length : Int) ≤ i) :
    Calls Tryd.prog 36 #[.pointer (some ⟨d, 0, none⟩), .int .i64 i] w fun e w' => e = .returned (.int .i64 (50)) ∧ Nt w w' S d (P) := by
  have H := hid ((befall_none w S d P 4 i 0 0 h hi).mono fun e w' ⟨he, hw⟩ => (⟨he, Nt.of_eq h hw⟩ : _ ∧ Nt w w' S d P))
  clear h hi
  go_enter Tryd.func36, Tryd.ntmps36
  go_wp2_with fail
  refine H.out.mono ?_
  rintro e w1 ⟨rfl, h1⟩
  have H1 := hid h1
  clear h1
  go_wp2
  go_ret
  exact ⟨rfl, H1.out⟩
theorem Cut_no (w : World) (S : Nat → Prop) (d : Nat) (P : List Pkt) (i : Int) (n : Int) (h : NAt w S d P) (hi : i < 0 ∨ (P.length : Int) ≤ i) :
    Calls Tryd.prog 34 #[.pointer (some ⟨d, 0, none⟩), .int .i64 i, .int .i64 n] w fun e w' => e = .returned (.int .i64 (50)) ∧ Nt w w' S d (P) := by
  have H := hid ((befall_none w S d P 3 i n 0 h hi).mono fun e w' ⟨he, hw⟩ => (⟨he, Nt.of_eq h hw⟩ : _ ∧ Nt w w' S d P))
  clear h hi
  go_enter Tryd.func34, Tryd.ntmps34
  go_wp2_with fail
  refine H.out.mono ?_
  rintro e w1 ⟨rfl, h1⟩
  have H1 := hid h1
  clear h1
  go_wp2
  go_ret
  exact ⟨rfl, H1.out⟩
theorem Burst_no (w : World) (S : Nat → Prop) (d : Nat) (P : List Pkt) (i : Int) (n : Int) (pat : BitVec 32) (h : NAt w S d P) (hi : i < 0 ∨ (P.length : Int) ≤ i) :
    Calls Tryd.prog 32 #[.pointer (some ⟨d, 0, none⟩), .int .i64 i, .int .i64 n, W32 pat] w fun e w' => e = .returned (.int .i64 (50)) ∧ Nt w w' S d (P) := by
  have H := hid ((befall_none w S d P 2 i n (pat.toNat : Int) h hi).mono fun e w' ⟨he, hw⟩ => (⟨he, Nt.of_eq h hw⟩ : _ ∧ Nt w w' S d P))
  clear h hi
  go_enter Tryd.func32, Tryd.ntmps32
  go_wp2_with fail
  refine H.out.mono ?_
  rintro e w1 ⟨rfl, h1⟩
  have H1 := hid h1
  clear h1
  go_wp2
  go_ret
  exact ⟨rfl, H1.out⟩
theorem Drop_nil (i : Int) (w : World) : Calls Tryd.prog 9 #[.pointer none, .int .i64 i] w fun e w' => e = .returned (.int .i64 0) ∧ w' = w := by
  go_enter Tryd.func9, Tryd.ntmps9
  go_wp2_with fail
  refine (befall_nil w 0 i 0 0).mono ?_
  rintro e w1 ⟨rfl, rfl⟩
  go_wp2
  go_ret
  exact ⟨rfl, rfl⟩
theorem Double_nil (i : Int) (w : World) : Calls Tryd.prog 8 #[.pointer none, .int .i64 i] w fun e w' => e = .returned (.int .i64 0) ∧ w' = w := by
  go_enter Tryd.func8, Tryd.ntmps8
  go_wp2_with fail
  refine (befall_nil w 1 i 0 0).mono ?_
  rintro e w1 ⟨rfl, rfl⟩
  go_wp2
  go_ret
  exact ⟨rfl, rfl⟩
theorem Lose_nil (i : Int) (w : World) : Calls Tryd.prog 36 #[.pointer none, .int .i64 i] w fun e w' => e = .returned (.int .i64 0) ∧ w' = w := by
  go_enter Tryd.func36, Tryd.ntmps36
  go_wp2_with fail
  refine (befall_nil w 4 i 0 0).mono ?_
  rintro e w1 ⟨rfl, rfl⟩
  go_wp2
  go_ret
  exact ⟨rfl, rfl⟩
theorem Cut_nil (i : Int) (n : Int) (w : World) : Calls Tryd.prog 34 #[.pointer none, .int .i64 i, .int .i64 n] w fun e w' => e = .returned (.int .i64 0) ∧ w' = w := by
  go_enter Tryd.func34, Tryd.ntmps34
  go_wp2_with fail
  refine (befall_nil w 3 i n 0).mono ?_
  rintro e w1 ⟨rfl, rfl⟩
  go_wp2
  go_ret
  exact ⟨rfl, rfl⟩
theorem Burst_nil (i : Int) (n : Int) (pat : BitVec 32) (w : World) : Calls Tryd.prog 32 #[.pointer none, .int .i64 i, .int .i64 n, W32 pat] w fun e w' => e = .returned (.int .i64 0) ∧ w' = w := by
  go_enter Tryd.func32, Tryd.ntmps32
  go_wp2_with fail
  refine (befall_nil w 2 i n (pat.toNat : Int)).mono ?_
  rintro e w1 ⟨rfl, rfl⟩
  go_wp2
  go_ret
  exact ⟨rfl, rfl⟩
theorem Copy_nil (w : World) : Calls Tryd.prog 14 #[.pointer none] w fun e w' => e = .returned (.pointer none) ∧ w' = w := by
  go_enter Tryd.func14, Tryd.ntmps14
  go_wp2
  go_ret
  exact ⟨rfl, rfl⟩
/-- a new network that holds a list of new blocks -/
theorem HAt.box {t : TypeId} {w w1 : World} {v : Value} {P : List Pkt} (hb : Below w.heap.size w w1) (h : PAt w1 (Nw w w1) v P) : HAt t (w1.alloc (.cells #[v] t)) (Nw w (w1.alloc (.cells #[v] t))) w1.heap.size P := by
  obtain ⟨I, vs, h⟩ := h
  have hal : Below w1.heap.size w1 (w1.alloc (.cells #[v] t)) := (Below.refl _ _).alloc (Nat.le_refl _) _
  have h2 := h.below hal
  refine ⟨I, v, vs, heap_alloc_new _ _, ⟨h2.len, h2.row, h2.each, fun k hk => ?_, fun k hk => hk.2, fun k hk => ⟨?_, (h2.r k hk).2⟩⟩, ⟨hb.size, by simp⟩, fun e => ?_, fun k hk e => ?_⟩
  · have := h2.it k hk; exact ⟨this.1, by have := this.2; simp; omega⟩
  · have := (h2.r k hk).1; exact ⟨this.1, by have := this.2; simp; omega⟩
  · have := (h.it _ e).2; omega
  · have := (h.r k hk).1.2; omega
theorem Copy_any (w : World) (S : Nat → Prop) (d : Nat) (P : List Pkt) (h : NAt w S d P) (hl : ∀ p ∈ P, p.data.length ≤ 140737488355328) (hP : P.length ≤ 1099511627776) :
    Calls Tryd.prog 14 #[.pointer (some ⟨d, 0, none⟩)] w fun e w' => ∃ d', e = .returned (.pointer (some ⟨d', 0, none⟩)) ∧ NAt w' (Nw w w') d' P ∧ Below w.heap.size w w' := by
  have H := hid (Flight_any w S d P h hl hP)
  clear h hl
  go_enter Tryd.func14, Tryd.ntmps14
  go_wp2_with fail
  refine H.out.mono ?_
  rintro e w1 ⟨v, rfl, hv, hb⟩
  have HV := hid hv
  have HB := hid hb
  obtain ⟨A, c, rfl⟩ := hv.form
  clear hv hb
  go_wp2
  go_ret
  exact ⟨w1.heap.size, rfl, NAt.iff.2 (HAt.box HB.out HV.out), HB.out.alloc HB.out.size _⟩
end Go.Proofs.YtahpkknbejgnkaaDoor
