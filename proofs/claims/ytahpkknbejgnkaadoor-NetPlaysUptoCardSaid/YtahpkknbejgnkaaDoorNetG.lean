/- What befalls a datagram: the table of fates; Drop, Double. -/
import Derived.Test.YtahpkknbejgnkaaDoorNetF
namespace Go.Proofs.YtahpkknbejgnkaaDoor
open Go.RowKit
/-- the table of fates lies where it lies -/
structure FtAt (w : World) : Prop where
  c0 : w.cell? ⟨0, 0, none⟩ = some (.func (.func 60) #[] #[])
  c1 : w.cell? ⟨0, 1, none⟩ = some (.func (.func 61) #[] #[])
  c2 : w.cell? ⟨0, 2, none⟩ = some (.func (.func 62) #[] #[])
  c3 : w.cell? ⟨0, 3, none⟩ = some (.func (.func 63) #[] #[])
  c4 : w.cell? ⟨0, 4, none⟩ = some (.func (.func 64) #[] #[])
theorem FtAt.below {B : Nat} {w w' : World} (h : FtAt w) (hB : 0 < B) (hb : Below B w w') : FtAt w' :=
  ⟨(hb.cell (p := ⟨_, 0, none⟩) hB).trans h.c0, (hb.cell (p := ⟨_, 1, none⟩) hB).trans h.c1, (hb.cell (p := ⟨_, 2, none⟩) hB).trans h.c2, (hb.cell (p := ⟨_, 3, none⟩) hB).trans h.c3, (hb.cell (p := ⟨_, 4, none⟩) hB).trans h.c4⟩
theorem befall_none (w : World) (S : Nat → Prop) (d : Nat) (P : List Pkt) (k : Int) (i : Int) (a : Int) (pat : Int) (h : NAt w S d P) (hi : i < 0 ∨ (P.length : Int) ≤ i) :
    Calls Tryd.prog 23 #[.pointer (some ⟨d, 0, none⟩), .int .i64 k, .int .i64 i, .int .i64 a, .int .u32 pat] w fun e w' => e = .returned (.int .i64 50) ∧ w' = w := by
  obtain ⟨I, fv, vs, hN⟩ := h
  obtain ⟨Af, cf, rfl⟩ := own_form hN.row
  have c0 : w.cell? ⟨d, 0, none⟩ = some (.slice Af P.length cf) := by rw [blk_cell hN.at_]; rfl
  clear hN
  by_cases h0 : i < 0
  · clear hi
    go_enter Tryd.func23, Tryd.ntmps23
    go_wp2
    go_ret
    exact ⟨rfl, rfl⟩
  · have h1 : (P.length : Int) ≤ i := by omega
    clear hi
    go_enter Tryd.func23, Tryd.ntmps23
    go_wp2
    go_ret
    exact ⟨rfl, rfl⟩
theorem befall_nil (w : World) (k : Int) (i : Int) (a : Int) (pat : Int) :
    Calls Tryd.prog 23 #[.pointer none, .int .i64 k, .int .i64 i, .int .i64 a, .int .u32 pat] w fun e w' => e = .returned (.int .i64 0) ∧ w' = w := by
  go_enter Tryd.func23, Tryd.ntmps23
  go_wp2
  go_ret
  exact ⟨rfl, rfl⟩
theorem befall_drop (w : World) (S : Nat → Prop) (d : Nat) (P : List Pkt) (i : Nat) (a : Int) (pat : Int) (hF : FtAt w) (h : NAt w S d P) (hi : i < P.length) (hP : P.length ≤ 1099511627776) :
    Calls Tryd.prog 23 #[.pointer (some ⟨d, 0, none⟩), .int .i64 0, .int .i64 (i : Int), .int .i64 a, .int .u32 pat] w fun e w' => e = .returned (.int .i64 0) ∧ Nt w w' S d (P.eraseIdx i) := by
  have f0 := hF.c0
  have H := hid h
  obtain ⟨I, fv, vs, hN⟩ := h
  obtain ⟨Af, cf, rfl⟩ := own_form hN.row
  have c0 : w.cell? ⟨d, 0, none⟩ = some (.slice Af P.length cf) := by rw [blk_cell hN.at_]; rfl
  clear hN hF
  go_enter Tryd.func23, Tryd.ntmps23
  go_wp2_with fail
  refine (drop_at w S d P i a pat H.out hi hP).mono ?_
  rintro e w1 ⟨rfl, h1⟩
  have H1 := hid h1
  clear h1
  go_wp2
  go_ret
  exact ⟨rfl, H1.out⟩
theorem befall_double (w : World) (S : Nat → Prop) (d : Nat) (P : List Pkt) (i : Nat) (a : Int) (pat : Int) (hF : FtAt w) (h : NAt w S d P) (hi : i < P.length) (hl : ∀ p ∈ P, p.data.length ≤ 140737488355328) (hP : P.length ≤ 1099511627776) :
    Calls Tryd.prog 23 #[.pointer (some ⟨d, 0, none⟩), .int .i64 1, .int .i64 (i : Int), .int .i64 a, .int .u32 pat] w fun e w' => e = .returned (.int .i64 0) ∧ Nt w w' S d (P ++ [P[i]]) := by
  have f0 := hF.c1
  have H := hid h
  have HL := hid hl
  obtain ⟨I, fv, vs, hN⟩ := h
  obtain ⟨Af, cf, rfl⟩ := own_form hN.row
  have c0 : w.cell? ⟨d, 0, none⟩ = some (.slice Af P.length cf) := by rw [blk_cell hN.at_]; rfl
  clear hN hF hl
  go_enter Tryd.func23, Tryd.ntmps23
  go_wp2_with fail
  refine (double_at w S d P i a pat H.out hi HL.out hP).mono ?_
  rintro e w1 ⟨rfl, h1⟩
  have H1 := hid h1
  clear h1
  go_wp2
  go_ret
  exact ⟨rfl, H1.out⟩
theorem Drop_ok (w : World) (S : Nat → Prop) (d : Nat) (P : List Pkt) (i : Nat) (hF : FtAt w) (h : NAt w S d P) (hi : i < P.length) (hP : P.length ≤ 1099511627776) :
    Calls Tryd.prog 9 #[.pointer (some ⟨d, 0, none⟩), .int .i64 (i : Int)] w fun e w' => e = .returned (.int .i64 0) ∧ Nt w w' S d (P.eraseIdx i) := by
  have H := hid (befall_drop w S d P i 0 0 hF h hi hP)
  clear h hF
  go_enter Tryd.func9, Tryd.ntmps9
  go_wp2_with fail
  refine H.out.mono ?_
  rintro e w1 ⟨rfl, h1⟩
  have H1 := hid h1
  clear h1
  go_wp2
  go_ret
  exact ⟨rfl, H1.out⟩
theorem Double_ok (w : World) (S : Nat → Prop) (d : Nat) (P : List Pkt) (i : Nat) (hF : FtAt w) (h : NAt w S d P) (hi : i < P.length) (hl : ∀ p ∈ P, p.data.length ≤ 140737488355328) (hP : P.length ≤ 1099511627776) :
    Calls Tryd.prog 8 #[.pointer (some ⟨d, 0, none⟩), .int .i64 (i : Int)] w fun e w' => e = .returned (.int .i64 0) ∧ Nt w w' S d (P ++ [P[i]]) := by
  have H := hid (befall_double w S d P i 0 0 hF h hi hl hP)
  clear h hF hl
  go_enter Tryd.func8, Tryd.ntmps8
  go_wp2_with fail
  refine H.out.mono ?_
  rintro e w1 ⟨rfl, h1⟩
  have H1 := hid h1
  clear h1
  go_wp2
  go_ret
  exact ⟨rfl, H1.out⟩
theorem Drop_no (w : World) (S : Nat → Prop) (d : Nat) (P : List Pkt) (i : Int) (h : NAt w S d P) (hi : i < 0 ∨ (P.length : Int) ≤ i) :
    Calls Tryd.prog 9 #[.pointer (some ⟨d, 0, none⟩), .int .i64 i] w fun e w' => e = .returned (.int .i64 50) ∧ w' = w := by
  have H := hid (befall_none w S d P 0 i 0 0 h hi)
  clear h hi
  go_enter Tryd.func9, Tryd.ntmps9
  go_wp2_with fail
  refine H.out.mono ?_
  rintro e w1 ⟨rfl, rfl⟩
  go_wp2
  go_ret
  exact ⟨rfl, rfl⟩
theorem Double_no (w : World) (S : Nat → Prop) (d : Nat) (P : List Pkt) (i : Int) (h : NAt w S d P) (hi : i < 0 ∨ (P.length : Int) ≤ i) :
    Calls Tryd.prog 8 #[.pointer (some ⟨d, 0, none⟩), .int .i64 i] w fun e w' => e = .returned (.int .i64 50) ∧ w' = w := by
  have H := hid (befall_none w S d P 1 i 0 0 h hi)
  clear h hi
  go_enter Tryd.func8, Tryd.ntmps8
  go_wp2_with fail
  refine H.out.mono ?_
  rintro e w1 ⟨rfl, rfl⟩
  go_wp2
  go_ret
  exact ⟨rfl, rfl⟩
end Go.Proofs.YtahpkknbejgnkaaDoor
