
/- The laws' own helper: one of the sixteen fields; calls with constants. -/
import Derived.Test.YtkklonldplekcaaGfW
namespace Go.Proofs.Ytkklonldplekcaa
open Go.RowKit

theorem New_at {pv : Int} (q : UInt8) (hq : Gf.Gen q) (hp : pv = 256 + (q.toNat : Int)) (w : World) :
    Calls Try.prog 68 #[.int .i64 pv] w fun e w' => ∃ g, e = .returned (.tuple #[.pointer (some ⟨g, 0, none⟩), .int .i64 0]) ∧ g = w.heap.size ∧ FieldAt w' g q ∧ Below w.heap.size w w' := by
  subst hp; exact New_gen q hq w
theorem Add_at {av bv : Int} (a b : UInt8) (ha : av = (a.toNat : Int)) (hb : bv = (b.toNat : Int)) (w : World) : Calls Try.prog 82 #[.int .u8 av, .int .u8 bv] w fun e w' => e = .returned (B (a ^^^ b)) ∧ w' = w := by
  subst ha hb; exact Add_any a b w
theorem Mul_at {av bv : Int} (g : Nat) (q a b : UInt8) (ha : av = (a.toNat : Int)) (hb : bv = (b.toNat : Int)) (w : World) (h : FieldAt w g q) :
    Calls Try.prog 37 #[.pointer (some ⟨g, 0, none⟩), .int .u8 av, .int .u8 bv] w fun e w' => e = .returned (B (Gf.mul q a b)) ∧ ∃ n, w' = w.drewN n := by
  subst ha hb; exact Mul_any g q a b w h

theorem Div_at {av : Int} (g : Nat) (q a b c : UInt8) (hbc : Gf.mul q b c = 1) (w : World) (h : FieldAt w g q) (ha : av = (a.toNat : Int)) :
    Calls Try.prog 46 #[.pointer (some ⟨g, 0, none⟩), .int .u8 av, B b] w fun e w' => e = .returned (.tuple #[B (Gf.mul q a c), .int .i64 0]) ∧ ∃ n, w' = w.drewN n := by
  subst ha; exact Div_any g q a b c hbc w h
def polyCells : Array Value := (Gf.qs.map fun q => Value.int .i64 (256 + (q.toNat : Int))).toArray
theorem poly_cell (k : Nat) (hk : k < 16) : polyCells[k]? = some (.int .i64 (256 + ((Gf.qs.getD k 0).toNat : Int))) := by
  have : k < Gf.qs.length := hk
  simp [polyCells, this]

end Go.Proofs.Ytkklonldplekcaa
