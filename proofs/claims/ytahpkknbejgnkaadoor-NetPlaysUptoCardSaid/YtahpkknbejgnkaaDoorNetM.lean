/- Datagrams in flight: the plain machine. No program in sight. -/
import Derived.Test.YtahpkknbejgnkaaDoorOwn
namespace Go.Proofs.YtahpkknbejgnkaaDoor
structure Pkt where
  fk : Int
  fi : Int
  tk : Int
  ti : Int
  data : List UInt8
  lost : Bool
deriving DecidableEq
/-- a datagram as a value, its bytes at v -/
def Pkt.val (p : Pkt) (v : Value) : Value := .agg #[.int .i64 p.fk, .int .i64 p.fi, .int .i64 p.tk, .int .i64 p.ti, v, .bool p.lost]
def Pkt.cells (p : Pkt) (v : Value) : List Value := [.int .i64 p.fk, .int .i64 p.fi, .int .i64 p.tk, .int .i64 p.ti, v, .bool p.lost]
/-- the cells of datagrams -/
def pktCells : List Value → List Pkt → List Value
  | v :: vs, p :: ps => p.cells v ++ pktCells vs ps
  | _, _ => []
theorem pktCells_length : ∀ (vs : List Value) (ps : List Pkt), vs.length = ps.length → (pktCells vs ps).length = ps.length * 6
  | [], [], _ => rfl
  | v :: vs, p :: ps, h => by simp [pktCells, Pkt.cells, pktCells_length vs ps (by simpa using h)]; omega
theorem pktCells_append : ∀ (vs : List Value) (ps : List Pkt) (us : List Value) (qs : List Pkt), vs.length = ps.length → pktCells (vs ++ us) (ps ++ qs) = pktCells vs ps ++ pktCells us qs
  | [], [], us, qs, _ => rfl
  | v :: vs, p :: ps, us, qs, h => by simp [pktCells, pktCells_append vs ps us qs (by simpa using h)]
theorem pktCells_at : ∀ (vs : List Value) (ps : List Pkt) (i j : Nat) (v : Value) (p : Pkt) (u : Value), vs.length = ps.length → vs[i]? = some v → ps[i]? = some p → (p.cells v)[j]? = some u → (pktCells vs ps)[i * 6 + j]? = some u
  | [], [], _, _, _, _, _, _, h, _, _ => by simp at h
  | v :: vs, p :: ps, 0, j, _, _, u, h, hv, hp, hu => by
    simp at hv hp; subst hv hp
    have : j < 6 := (List.getElem?_eq_some_iff.1 hu).1
    rw [Nat.zero_mul, Nat.zero_add, pktCells, List.getElem?_append_left (by simpa [Pkt.cells] using this)]
    exact hu
  | v :: vs, p :: ps, i + 1, j, w, q, u, h, hv, hp, hu => by
    have := pktCells_at vs ps i j w q u (by simpa using h) (by simpa using hv) (by simpa using hp) hu
    rw [pktCells, List.getElem?_append_right (by simp [Pkt.cells]; omega), show (i + 1) * 6 + j - (p.cells v).length = i * 6 + j by simp [Pkt.cells]; omega]
    exact this
def okNode (k i : Int) : Bool := if k = 1 then decide (0 ≤ i) && decide (i < 255) else if k = 2 then decide (1 ≤ i) && decide (i ≤ 65535) else false
end Go.Proofs.YtahpkknbejgnkaaDoor
