/- over: spare room and all is written over; what five acts make of a disk that a crash left. -/
import Derived.Test.YtcadacljacbipaaDiskLastsW
namespace Go.Proofs.Ytcadacljacbipaa
open Go.RowKit
set_option maxHeartbeats 1000000 in
theorem over_any (v : Value) (l : List UInt8) (base : Nat) (w : World) (h : OwnB w base v l) :
    Calls Try.prog 23 #[v] w fun e w' => e = .returned (.tuple #[]) ∧ Fr (fun k => v.ownBlock = some k) w w' := by
  obtain ⟨_, ⟨rfl, _⟩ | ⟨g, cap, cur, rfl, _, hg, hn, hm, hs, _⟩⟩ := h
  · go_enter Try.func23, Try.ntmps23
    go_wp2
    go_loopw [3] (fun i wr => i = .int .i64 0 ∧ wr = w) (fun _ _ => 0)
    case atStart => exact ⟨rfl, rfl⟩
    case round =>
      obtain ⟨rfl, hw⟩ := hrel
      have hw := hw.symm
      subst hw
      go_wp2
      go_returns
      exact ⟨rfl, Fr.refl _ _⟩
  · rw [Nat.mul_one] at hs
    have HG := hid hg
    have HS := hid hs
    have hm2 : cap ≤ 9223372036854775807 := by unfold maxLen at hm; omega
    have hown : Hid ((Value.slice (some ⟨g, 0, none⟩) l.length cap).ownBlock = some g) := hid rfl
    clear hg hs
    go_enter Try.func23, Try.ntmps23
    go_wp2
    go_loopw [3] (fun i wr => ∃ (j : Nat) (cur' : Array Value), j ≤ cap ∧ i = .int .i64 j ∧ wr.heap[g]? = some (.cells cur' 5 (0, 0)) ∧ cur'.size = cap ∧ Fr (fun k => k = g) w wr) (fun i _ => cap - (intOf i).toNat)
    case atStart => exact ⟨0, cur, Nat.zero_le _, rfl, HG.out, HS.out, Fr.refl _ _⟩
    case round =>
      clear HG HS
      obtain ⟨j, cur', hj, rfl, hg, hs, hf⟩ := hrel
      have HG := hid hg
      have HS := hid hs
      have HF := hid hf
      clear hg hs hf
      by_cases hlt : j < cap
      · have c0 : wr.cell? ⟨g, j, none⟩ = some (cur'[j]'(by rw [HS.out]; exact hlt)) := by rw [blk_cell HG.out]; exact Array.getElem?_eq_getElem _
        have f0 : wr.frozen? ⟨g, j, none⟩ = false := blk_frozen HG.out _
        go_wp2
        go_roundw
        case rel => exact ⟨j + 1, _, by omega, by go_num, blk_set HG.out j _, by rw [Array.size_setIfInBounds]; exact HS.out, HF.out.trans ((Fr.set_ (g := g) j _).mono fun k _ e => .inl e)⟩
        case measure => simp [intOf]; omega
      · go_wp2
        go_returns
        exact ⟨rfl, HF.out.mono fun k _ e => by rw [e]; exact hown.out⟩
def five (A : Dk) (m : List UInt8) (n : Int) : Dk := ((((A.step 0 (.append m)).step 1 (.append m)).step (1 - n) .switch).step n .wipe).step n .sync
theorem five_0 (a b m : List UInt8) : (five (Dk.load a b 0) m 0).told0 = [] ∧ (five (Dk.load a b 0) m 0).told1 = b ++ m ∧ (Dk.load a b 0).err 0 false = 0 ∧ ((Dk.load a b 0).step 0 (.append m)).err 1 false = 0 ∧ (((Dk.load a b 0).step 0 (.append m)).step 1 (.append m)).err 1 false = 0 ∧
    ((((Dk.load a b 0).step 0 (.append m)).step 1 (.append m)).step 1 .switch).err 0 true = 0 ∧ (((((Dk.load a b 0).step 0 (.append m)).step 1 (.append m)).step 1 .switch).step 0 .wipe).err 0 false = 0 := by
  cases m with
  | nil => exact ⟨rfl, by show b = b ++ []; simp, rfl, rfl, rfl, rfl, rfl⟩
  | cons x m => exact ⟨rfl, rfl, rfl, rfl, rfl, rfl, rfl⟩
theorem five_1 (a b m : List UInt8) : (five (Dk.load a b 1) m 1).told1 = [] ∧ (five (Dk.load a b 1) m 1).told0 = a ++ m ∧ (Dk.load a b 1).err 0 false = 0 ∧ ((Dk.load a b 1).step 0 (.append m)).err 1 false = 0 ∧ (((Dk.load a b 1).step 0 (.append m)).step 1 (.append m)).err 0 false = 0 ∧
    ((((Dk.load a b 1).step 0 (.append m)).step 1 (.append m)).step 0 .switch).err 1 true = 0 ∧ (((((Dk.load a b 1).step 0 (.append m)).step 1 (.append m)).step 0 .switch).step 1 .wipe).err 1 false = 0 := by
  cases m with
  | nil => exact ⟨rfl, by show a = a ++ []; simp, rfl, rfl, rfl, rfl, rfl⟩
  | cons x m => exact ⟨rfl, rfl, rfl, rfl, rfl, rfl, rfl⟩
end Go.Proofs.Ytcadacljacbipaa
