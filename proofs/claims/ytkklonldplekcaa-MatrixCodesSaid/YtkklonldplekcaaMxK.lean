/- The walks of package matrix: Identity, Mul, Transpose. -/
import Derived.Test.YtkklonldplekcaaMxJ
namespace Go.Proofs.Ytkklonldplekcaa
open Go.RowKit
theorem ent_byte {M : List (List UInt8)} {i j : Nat} {L : List UInt8} {b : UInt8} (hi : i < M.length) (hL : M.getD i [] = L) (hj : j < L.length) : ent (M.set i (L.set j b)) = fun a t => if a = i ∧ t = j then b else ent M a t := by
  rw [ent_set M i _ hi]
  funext a t
  by_cases h1 : a = i
  · subst h1
    rw [if_pos rfl, List.getD_eq_getElem?_getD, List.getElem?_set]
    by_cases h2 : j = t
    · subst h2
      rw [if_pos rfl, if_pos hj, if_pos ⟨rfl, rfl⟩]; rfl
    · rw [if_neg h2, if_neg (fun h => h2 h.2.symm), ← List.getD_eq_getElem?_getD]
      unfold ent
      rw [hL]
  · rw [if_neg h1, if_neg (fun h => h1 h.1)]
theorem ent_zero (r n i j : Nat) : ent (List.replicate r (List.replicate n 0)) i j = 0 := by
  unfold ent
  by_cases h : i < r
  · rw [List.getD_eq_getElem?_getD (l := List.replicate r _), List.getElem?_replicate, if_pos h, List.getD_eq_getElem?_getD]
    show ((List.replicate n (0 : UInt8))[j]?).getD 0 = 0
    rw [List.getElem?_replicate]
    split <;> rfl
  · rw [List.getD_eq_getElem?_getD (l := List.replicate r _), List.getElem?_replicate, if_neg h]; rfl
section
variable {B : Nat} {w0 w w' : World} {ts : List Thing} {fp : Option Addr} {m R r : Nat} {vs : List Value} {M : List (List UInt8)} {N : Nat}
/-- a byte of a row, with all that a store needs -/
theorem MB.cell (h : MB B w0 w ts fp m R r vs M N) (i j : Nat) (hi : i < r) (hj : j < N) : ∃ g k, w.cell? ⟨R, i, none⟩ = some (.slice (some ⟨g, 0, none⟩) N k) ∧ w.cell? ⟨g, j, none⟩ = some (Go.Proofs.Ytkklonldplekcaa.B (ent M i j)) ∧ w.frozen? ⟨g, j, none⟩ = false ∧ ∀ b, ∃ M', MB B w0 (w.setCell ⟨g, j, none⟩ (Go.Proofs.Ytkklonldplekcaa.B b)) ts fp m R r vs M' N ∧ M'.length = M.length ∧ ent M' = fun a t => if a = i ∧ t = j then b else ent M a t := by
  obtain ⟨v, L, hv, hL, ci, fi, oi, li, gi⟩ := h.row i hi
  obtain ⟨g, k, e, _, _, _⟩ := oi.some_ (by omega)
  subst e
  obtain ⟨x0, f0⟩ := oi.at_ j (by omega)
  have hr := h.r
  refine ⟨g, k, by rw [ci, li], by rw [x0]; unfold ent; rw [hL], f0, fun b => ⟨_, h.byte hi hv hL j b, by simp, ent_byte (by omega) hL (by omega)⟩⟩
end
set_option maxRecDepth 100000 in
set_option maxHeartbeats 8000000 in
theorem Identity_any (w : World) (fg : Nat) (q : UInt8) (hF : FieldAt w fg q) (n : Nat) (hn1 : 0 < n) (hn2 : n ≤ 256) :
    Calls Try.prog 17 #[.pointer (some ⟨fg, 0, none⟩), .int .i64 n] w fun e w' => ∃ m M, e = .returned (.tuple #[.pointer (some ⟨m, 0, none⟩), .int .i64 0]) ∧ MatAt w' m q M n ∧ M.length = n ∧ (∀ i j, i < n → j < n → ent M i j = Mx.unitM i j) ∧ Below w.heap.size w w' := by
  have HFD := hid hF
  have z1 : ¬ (n : Int) < 1 := by omega
  have z2 : (n : Int) ≤ 256 := by omega
  clear hF
  go_enter Try.func17, Try.ntmps17
  go_wp2_with fail
  refine (blank_mb w.heap.size w w [] (Fam.start w) (some ⟨fg, 0, none⟩) n n (by omega) (by omega)).mono ?_
  rintro e w3 ⟨m, R1, vs, rfl, h3⟩
  have H3 := hid h3
  clear h3
  go_wp2
  go_loopw [7, 21] (fun _ x wr => ∃ (k : Nat) (M : List (List UInt8)), k ≤ n ∧ x = .int .i64 k ∧ MB w.heap.size w wr [] (some ⟨fg, 0, none⟩) m R1 n vs M n ∧ ∀ a b, ent M a b = if a < k ∧ a = b then 1 else 0) (fun _ x _ => n - (intOf x).toNat)
  case atStart => exact ⟨0, _, Nat.zero_le _, rfl, H3.out, fun a b => by rw [ent_zero, if_neg (by omega)]⟩
  case round =>
    clear H3
    obtain ⟨k, M, hk, rfl, hm, hent⟩ := hrel
    have HE := hid hent
    by_cases hlt : k < n
    · obtain ⟨y0, y1⟩ := hm.box
      obtain ⟨g, c, c0, x0, f0, hput⟩ := hm.cell k k hlt hlt
      obtain ⟨M', hM', hl', he'⟩ := hput 1
      have R1' := hid hM'
      have R2 : Hid (∀ a b, ent M' a b = if a < k + 1 ∧ a = b then 1 else 0) := hid fun a b => by
        rw [he']
        show (if a = k ∧ b = k then (1 : UInt8) else ent M a b) = _
        rw [HE.out a b]
        by_cases h1 : a = k ∧ b = k
        · rw [if_pos h1, if_pos ⟨by omega, by omega⟩]
        · rw [if_neg h1]
          by_cases h2 : a < k ∧ a = b
          · rw [if_pos h2, if_pos ⟨by omega, h2.2⟩]
          · rw [if_neg h2, if_neg (by omega)]
      have i0 : (0 : Int) ≤ (k : Int) := by omega
      have i1 : (k : Int) < (n : Int) := by omega
      clear hm hent hput hM' hl' he' y0
      go_wp2
      go_roundw
      case rel => exact ⟨k + 1, M', by omega, by go_num, R1'.out, R2.out⟩
      case measure => simp [intOf]; omega
    · have R1 : Hid (MatAt wr m q M n ∧ M.length = n ∧ (∀ i j, i < n → j < n → ent M i j = Mx.unitM i j) ∧ Below w.heap.size w wr) := hid ⟨hm.done (HFD.out.next hm.fam.base) ⟨hn1, by omega⟩ ⟨hn1, by omega⟩, hm.r.symm, fun i j hi hj => by
        rw [HE.out i j]
        unfold Mx.unitM
        by_cases h1 : i = j
        · rw [if_pos ⟨by omega, h1⟩, if_pos h1]
        · rw [if_neg (fun h => h1 h.2), if_neg h1], hm.fam.base⟩
      clear hm hent
      go_wp2
      go_ret2
      exact ⟨m, M, rfl, R1.out⟩
end Go.Proofs.Ytkklonldplekcaa
