/- The laws' own helper: one of the sixteen fields; calls with constants. -/
import Derived.Test.YtgfnfjnjlogpkaaGfW
namespace Go.Proofs.Ytgfnfjnjlogpkaa
open Go.RowKit

theorem New_at {pv : Int} (q : UInt8) (hq : Gf.Gen q) (hp : pv = 256 + (q.toNat : Int)) (w : World) :
    Calls Try.prog 24 #[.int .i64 pv] w fun e w' => ∃ g, e = .returned (.tuple #[.pointer (some ⟨g, 0, none⟩), .int .i64 0]) ∧ g = w.heap.size ∧ FieldAt w' g q ∧ Below w.heap.size w w' := by
  subst hp; exact New_gen q hq w
theorem Add_at {av bv : Int} (a b : UInt8) (ha : av = (a.toNat : Int)) (hb : bv = (b.toNat : Int)) (w : World) : Calls Try.prog 11 #[.int .u8 av, .int .u8 bv] w fun e w' => e = .returned (B (a ^^^ b)) ∧ w' = w := by
  subst ha hb; exact Add_any a b w
theorem Mul_at {av bv : Int} (g : Nat) (q a b : UInt8) (ha : av = (a.toNat : Int)) (hb : bv = (b.toNat : Int)) (w : World) (h : FieldAt w g q) :
    Calls Try.prog 13 #[.pointer (some ⟨g, 0, none⟩), .int .u8 av, .int .u8 bv] w fun e w' => e = .returned (B (Gf.mul q a b)) ∧ ∃ n, w' = w.drewN n := by
  subst ha hb; exact Mul_any g q a b w h

theorem Div_at {av : Int} (g : Nat) (q a b c : UInt8) (hbc : Gf.mul q b c = 1) (w : World) (h : FieldAt w g q) (ha : av = (a.toNat : Int)) :
    Calls Try.prog 14 #[.pointer (some ⟨g, 0, none⟩), .int .u8 av, B b] w fun e w' => e = .returned (.tuple #[B (Gf.mul q a c), .int .i64 0]) ∧ ∃ n, w' = w.drewN n := by
  subst ha; exact Div_any g q a b c hbc w h
def polyCells : Array Value := (Gf.qs.map fun q => Value.int .i64 (256 + (q.toNat : Int))).toArray
theorem poly_cell (k : Nat) (hk : k < 16) : polyCells[k]? = some (.int .i64 (256 + ((Gf.qs.getD k 0).toNat : Int))) := by
  have : k < Gf.qs.length := hk
  simp [polyCells, this]

set_option maxRecDepth 100000 in
set_option maxHeartbeats 1000000 in
theorem field_any (n : Int) (h0 : -9223372036854775808 ≤ n) (h1 : n ≤ 9223372036854775807) (w : World) :
    Calls Try.prog 10 #[.int .i64 n] w fun e w' => ∃ g q, e = .returned (.pointer (some ⟨g, 0, none⟩)) ∧ FieldAt w' g q ∧ w.heap.size ≤ g ∧ Below w.heap.size w w' := by
  have t1 := Int.tmod_lt_of_pos n (show (0 : Int) < 16 by decide)
  have t2 := Int.lt_tmod_of_pos n (show (0 : Int) < 16 by decide)
  go_enter Try.func10, Try.ntmps10
  go_upto_region 2 with (fail)
  refine Code.seen (fun W => W.heap[w.heap.size]? = some (.cells polyCells 66 (0, 0)) ∧ Below w.heap.size w W) ⟨heap_alloc_new _ _, (Below.refl _ _).alloc (Nat.le_refl _) _⟩ fun w1 H1 => ?_
  rcases Int.lt_or_le (n.tmod 16) 0 with hneg | hneg
  case' inl =>
    obtain ⟨k, hk⟩ := Int.eq_ofNat_of_zero_le (show 0 ≤ n.tmod 16 + 16 by omega)
    have hk16 : k < 16 := by omega
    have hc := blk_cell H1.out.1 k
    rw [poly_cell k hk16] at hc
    have hg := Gf.gen_sixteen (Gf.qs.getD k 0) (by
      have : k < Gf.qs.length := hk16
      simp [this])
    generalize Gf.qs.getD k 0 = q at *
    have HG := hid hg
    clear hg
    have h16 : n.tmod 16 + 16 = (k : Int) := hk
    clear hk
    go_wp2_with fail
  case' inr =>
    obtain ⟨k, hk⟩ := Int.eq_ofNat_of_zero_le hneg
    have hk16 : k < 16 := by omega
    have hc := blk_cell H1.out.1 k
    rw [poly_cell k hk16] at hc
    have hg := Gf.gen_sixteen (Gf.qs.getD k 0) (by
      have : k < Gf.qs.length := hk16
      simp [this])
    generalize Gf.qs.getD k 0 = q at *
    have HG := hid hg
    clear hg
    have h16 : n.tmod 16 = (k : Int) := hk
    clear hk
    go_wp2_with fail
  all_goals
    refine (New_at q HG.out rfl w1).mono ?_
    rintro e w2 ⟨g, rfl, rfl, hf, hb⟩
    go_wp2
    go_ret
    exact ⟨_, q, rfl, hf, H1.out.2.size, below_then H1.out.2 hb⟩
end Go.Proofs.Ytgfnfjnjlogpkaa
