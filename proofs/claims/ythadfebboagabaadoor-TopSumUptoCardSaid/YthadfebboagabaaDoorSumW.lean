/- The walks of package sum. -/
import Derived.Test.YthadfebboagabaaDoorRows
import Derived.Test.YthadfebboagabaaDoorLib
import Derived.Test.YthadfebboagabaaDoorCrcM
namespace Go.Proofs.YthadfebboagabaaDoor
open Go.RowKit

def tabI (a : Int) : Int := ((Crc.tab.getD (bits .and .u32 a 15).toNat 0#32).toNat : Int)
def halfI (a : Int) : Int := bits .xor .u32 (tabI a) (a / 16)
/-- the table lies where it lies -/
def TabAt (w : World) : Prop := ∀ i : Nat, i < 16 → w.cell? ⟨0, i, none⟩ = some (W32 (Crc.tab.getD i 0#32))

theorem and15_0 (a : Int) : 0 ≤ bits .and .u32 a 15 := by
  simp only [bits, IntKind.wrap_u32']; omega
theorem and15_16 (a : Int) : bits .and .u32 a 15 < 16 := by
  simp only [bits, IntKind.wrap_u32']
  have : (BitVec.ofInt (IntKind.u32.bits) a &&& BitVec.ofInt (IntKind.u32.bits) 15).toNat ≤ 15 := by
    rw [BitVec.toNat_and]; exact Nat.and_le_right
  omega
theorem xor32 (a b : BitVec 32) : bits .xor .u32 (a.toNat : Int) (b.toNat : Int) = ((a ^^^ b).toNat : Int) := by
  rw [u32_xor_nat _ _ a.isLt b.isLt, BitVec.toNat_xor]
theorem halfI_eq (x : BitVec 32) : halfI x.toNat = ((Crc.half x).toNat : Int) := by
  unfold halfI tabI Crc.half
  have h1 : bits .and .u32 (x.toNat : Int) 15 = ((x &&& 15#32).toNat : Int) := by
    rw [BitVec.toNat_and, show (15 : Int) = ((15 : Nat) : Int) from rfl, u32_and_nat _ _ x.isLt (by omega)]; rfl
  have h2 : (x.toNat : Int) / ((16 : Nat) : Int) = ((x >>> 4).toNat : Int) := by
    rw [BitVec.toNat_ushiftRight, Nat.shiftRight_eq_div_pow]; rfl
  simp only [h1, Int.toNat_natCast]
  rw [show (16 : Int) = ((16 : Nat) : Int) from rfl, h2, xor32]

set_option maxHeartbeats 400000 in
theorem step_int (x b : Int) (hb : 0 ≤ b) (hb' : b < 256) (w : World) (hT : TabAt w) :
    Calls Tryd.prog 29 #[.int .u32 x, .int .u8 b] w fun e w' => e = .returned (.int .u32 (halfI (halfI (bits .xor .u32 x b)))) ∧ w = w' := by
  have hc : ∀ a : Int, w.cell? ⟨0, (bits .and .u32 a 15).toNat, none⟩ = some (.int .u32 (tabI a)) := fun a => hT _ (by have := and15_0 a; have := and15_16 a; omega)
  have h0 := and15_0
  have h1 := and15_16
  clear hT
  go_enter Tryd.func29, Tryd.ntmps29
  go_wp2
  go_ret
  exact ⟨rfl, rfl⟩

theorem step_any (x : BitVec 32) (b : UInt8) (w : World) (hT : TabAt w) :
    Calls Tryd.prog 29 #[W32 x, B b] w fun e w' => e = .returned (W32 (Crc.stepB x b)) ∧ w = w' := by
  refine (step_int _ _ (by omega) (by have := b.toNat_lt; omega) w hT).mono ?_
  rintro e w' ⟨rfl, rfl⟩
  refine ⟨?_, rfl⟩
  have e : ((b.toNat : Nat) : Int) = ((Crc.zx b).toNat : Int) := by
    have := b.toNat_lt
    simp only [Crc.zx, BitVec.toNat_setWidth, UInt8.toNat_toBitVec]; omega
  rw [e, xor32, halfI_eq, halfI_eq, Crc.half_half]; rfl

theorem bit_test (x : BitVec 32) (k : Nat) : (bits .and .u32 ((x.toNat : Int) / 2 ^ k) 1 == 1) = x.getLsbD k := by
  have h : (x.toNat : Int) / 2 ^ k = ((x >>> k).toNat : Int) := by
    rw [BitVec.toNat_ushiftRight, Nat.shiftRight_eq_div_pow]; push_cast; rfl
  rw [h, show (1 : Int) = ((1 : Nat) : Int) from rfl, u32_and_nat _ _ (x >>> k).isLt (by omega), Nat.and_one_is_mod, BitVec.toNat_ushiftRight, Nat.shiftRight_eq_div_pow]
  simp only [BitVec.getLsbD, Nat.testBit_eq_decide_div_mod_eq]
  have : ((((x.toNat / 2 ^ k % 2 : Nat) : Int)) == ((1 : Nat) : Int)) = decide (x.toNat / 2 ^ k % 2 = 1) := by
    rw [Bool.eq_iff_iff, beq_iff_eq, decide_eq_true_iff]; omega
  exact this

theorem step_at {xv bv : Int} (x : BitVec 32) (b : UInt8) (w : World) (hT : TabAt w) (hx : xv = (x.toNat : Int)) (hb : bv = (b.toNat : Int)) :
    Calls Tryd.prog 29 #[.int .u32 xv, .int .u8 bv] w fun e w' => e = .returned (W32 (Crc.stepB x b)) ∧ w = w' := by
  subst hx hb; exact step_any x b w hT

def c0 : BitVec 32 := Crc.ones
theorem not32 (x : BitVec 32) : bits .xor .u32 IntKind.u32.max (x.toNat : Int) = ((~~~x).toNat : Int) := by
  rw [show IntKind.u32.max = ((Crc.ones).toNat : Int) from by decide, xor32, show Crc.ones = BitVec.allOnes 32 from by decide, BitVec.allOnes_xor]

set_option maxHeartbeats 400000 in
theorem Of_any (v : Value) (ll : List (List UInt8)) (w : World) (hT : TabAt w) (h : SlBB w v ll) (hsz : ll.length ≤ 140737488351232) (hsz2 : ∀ i, (ll.getD i []).length ≤ 281474976710656) :
    Calls Tryd.prog 19 #[v] w fun e w' => e = .returned (W32 (Crc.sumOf ll.flatten)) ∧ w = w' := by
  obtain ⟨f, ⟨A, c, rfl, hc, _, hA⟩, hf⟩ := h
  have HT := hid hT
  have HA := hid hA
  have HF := hid hf
  clear hT hA hf
  go_enter Tryd.func19, Tryd.ntmps19
  go_wp2
  go_loop [3, 10] (fun x i => ∃ k : Nat, k ≤ ll.length ∧ i = .int .i64 k ∧ x = W32 (Crc.crc c0 (ll.take k).flatten)) (fun _ i => ll.length - (intOf i).toNat)
  case atStart => exact ⟨0, Nat.zero_le _, rfl, rfl⟩
  case round =>
    obtain ⟨k, hk, rfl, rfl⟩ := hrel
    by_cases hlt : k < ll.length
    · obtain ⟨b, off, rfl, hcell⟩ := HA.out (by omega)
      replace hcell := hcell k hlt
      obtain ⟨A1, c1, e1, hc1, _, h1⟩ := HF.out k hlt
      rw [e1] at hcell
      have hs := hsz2 k
      have HN : Hid (Crc.crc c0 (ll.take (k + 1)).flatten = Crc.crc (Crc.crc c0 (ll.take k).flatten) (ll.getD k [])) := by
        show _ = _; rw [← Crc.crc_append, List.take_succ_eq_append_getElem hlt]; simp [hlt, -List.take_append_getElem]
      generalize ll.getD k [] = l at *
      have H1 := hid h1
      clear e1 h1
      generalize Crc.crc c0 (ll.take k).flatten = x0 at *
      go_wp2
      go_loop [3, 16] (fun x i => ∃ j : Nat, j ≤ l.length ∧ i = .int .i64 j ∧ x = W32 (Crc.crc x0 (l.take j))) (fun _ i => l.length - (intOf i).toNat)
      case atStart => exact ⟨0, Nat.zero_le _, rfl, rfl⟩
      case round =>
        obtain ⟨j, hj, rfl, rfl⟩ := hrel
        by_cases hjl : j < l.length
        · obtain ⟨b1, off1, rfl, hc2⟩ := H1.out (by omega)
          replace hc2 := hc2 j hjl
          have HS := hid (Crc.crc_snoc x0 l j hjl)
          generalize Crc.crc x0 (l.take j) = x1 at *
          generalize l.getD j 0 = b2 at *
          go_wp2_with (go_at_call 29; refine (step_any _ _ _ HT.out).mono ?_; rintro e w' ⟨rfl, rfl⟩)
          go_round
          case rel => exact ⟨j+1, by omega, by go_num, by rw [HS.out]⟩
          case measure => simp [intOf]; omega
        · obtain rfl : j = l.length := by omega
          rw [List.take_length]
          go_wp2
          go_round
          case rel => exact ⟨k + 1, by omega, by go_num, by rw [HN.out]⟩
          case measure => simp [intOf]; omega
    · obtain rfl : k = ll.length := by omega
      rw [List.take_length]
      generalize hx : Crc.crc c0 ll.flatten = x
      have HX : Hid (Crc.sumOf ll.flatten = ~~~x) := by rw [← hx]; rfl
      clear hx
      go_wp2
      go_ret
      exact ⟨by rw [HX.out]; exact congrArg (fun n => Ending.returned (.int .u32 n)) (not32 x), rfl⟩

/-- the pictures of the single bits, in an array -/
def MapAt (w : World) (g : Nat) (l : Nat → BitVec 32) : Prop := ∀ i, i < 32 → w.cell? ⟨g, i, none⟩ = some (W32 (l i))

set_option maxHeartbeats 400000 in
theorem linear_of (g : Nat) (l : Nat → BitVec 32) (x : BitVec 32) (w : World) (h : MapAt w g l) :
    Calls Tryd.prog 30 #[.pointer (some ⟨g, 0, none⟩), W32 x] w fun e w' => e = .returned (W32 (Crc.ofMap l x 32)) ∧ w = w' := by
  have H := hid h
  clear h
  go_enter Tryd.func30, Tryd.ntmps30
  go_wp2
  go_loop [5, 7] (fun y i => ∃ k : Nat, k ≤ 32 ∧ i = .int .i64 k ∧ y = W32 (Crc.ofMap l x k)) (fun _ i => 32 - (intOf i).toNat)
  case atStart => exact ⟨0, Nat.zero_le _, rfl, rfl⟩
  case round =>
    obtain ⟨k, hk, rfl, rfl⟩ := hrel
    by_cases hlt : k < 32
    · have hc := H.out k hlt
      have HN : Hid (Crc.ofMap l x (k + 1) = Crc.ofMap l x k ^^^ (if x.getLsbD k then l k else 0#32)) := rfl
      generalize Crc.ofMap l x k = y at *
      have ht := bit_test x k
      cases hx : x.getLsbD k
      · rw [hx] at ht HN
        clear hx
        go_wp2
        go_round
        case rel => exact ⟨k + 1, by omega, by go_num, by rw [HN.out]; simp only [Bool.false_eq_true, if_false, BitVec.xor_zero]⟩
        case measure => simp [intOf]; omega
      · rw [hx] at ht HN
        clear hx
        go_wp2
        go_round
        case rel => exact ⟨k + 1, by omega, by go_num, by rw [xor32, HN.out]; rfl⟩
        case measure => simp [intOf]; omega
    · obtain rfl : k = 32 := by omega
      go_wp2
      go_ret
      exact ⟨rfl, rfl⟩
theorem TabAt.below {w w' : World} {B : Nat} (h : TabAt w) (hb : Below B w w') (hB : 0 < B) : TabAt w' :=
  fun i hi => (hb.cell (p := ⟨0, i, none⟩) hB).trans (h i hi)
theorem TabAt.lt {w : World} (h : TabAt w) : 0 < w.heap.size := World.block_lt_of_cell? w _ (h 0 (by omega))

abbrev lins (l : Nat → BitVec 32) : Array Value := arr 32 fun i => W32 (l i)
theorem MapAt.of {w : World} {g : Nat} {l : Nat → BitVec 32} (h : w.heap[g]? = some (.cells (lins l) 61 (0, 0))) : MapAt w g l :=
  fun i hi => by rw [blk_cell h, arr_get _ _ _ hi]

theorem bit_int (k : Nat) (h : k < 32) : ((2 : Int) ^ k % 4294967296) = ((Crc.bit k).toNat : Int) := by
  unfold Crc.bit
  rw [BitVec.toNat_ofNat]
  show (2 : Int) ^ k % 4294967296 = ((2 ^ k % 4294967296 : Nat) : Int)
  rw [Int.natCast_emod]
  congr 1

theorem and1_i64 (n : Nat) (h : n ≤ 9223372036854775807) : bits .and .i64 (n : Int) 1 = ((n % 2 : Nat) : Int) := by
  have := bits_mask .i64 63 (by decide) (fun m h0 h1 => by rw [IntKind.wrap_i64]; omega) 1 (by omega) (n : Int) (by omega) (by omega)
  rw [show ((2 : Int) ^ 1 - 1) = 1 from rfl] at this
  rw [this]; rfl

theorem linear_size : (Tryd.prog.info? 61).map (·.size) = some 32 := by kernel_rfl
theorem Join_neg (a b : BitVec 32) (n : Int) (hn : n < 0) (w : World) :
    Calls Tryd.prog 9 #[W32 a, W32 b, .int .i64 n] w fun e w' => e = .returned (.tuple #[.int .u32 0, .int .i64 1]) ∧ Below w.heap.size w w' := by
  go_enter Tryd.func9, Tryd.ntmps9
  go_wp2
  go_ret2
  exact ⟨rfl, Below.refl _ _⟩

set_option maxHeartbeats 1000000 in
theorem Join_any (a b : BitVec 32) (n : Nat) (hn : n ≤ 9223372036854775807) (w : World) (hT : TabAt w) :
    Calls Tryd.prog 9 #[W32 a, W32 b, .int .i64 n] w fun e w' => e = .returned (.tuple #[W32 (Crc.rounds Crc.Z n a ^^^ b), .int .i64 0]) ∧ Below w.heap.size w w' := by
  have HT := hid hT
  clear hT
  go_enter Tryd.func9, Tryd.ntmps9
  go_wp2
  go_loopw [14] (fun i wr => ∃ (k : Nat) (l : Nat → BitVec 32), k ≤ 32 ∧ i = .int .i64 k ∧ (∀ i, i < k → l i = Crc.Z (Crc.bit i)) ∧ wr.heap[w.heap.size]? = some (.cells (lins l) 61 (0, 0)) ∧ Below w.heap.size w wr) (fun i _ => 32 - (intOf i).toNat)
  case atStart => exact ⟨0, fun _ => 0#32, Nat.zero_le _, rfl, fun i h => absurd h (by omega), heap_alloc_new _ _, (Below.refl _ _).alloc (Nat.le_refl _) _⟩
  case round =>
    obtain ⟨k, l, hk, rfl, hl, hg, hb⟩ := hrel
    by_cases hlt : k < 32
    · go_wp2_with fail
      refine (step_at (Crc.bit k) 0 wr (HT.out.below hb HT.out.lt) (bit_int k hlt) rfl).mono ?_
      rintro e w' ⟨rfl, rfl⟩
      have hc := blk_cell hg k
      rw [arr_get _ _ _ hlt] at hc
      have hf := blk_frozen hg k
      have HG := hid hg
      have HB := hid hb
      have HL := hid hl
      clear hg hb hl
      go_wp2
      go_roundw
      case rel =>
        refine ⟨k + 1, fun j => if j = k then Crc.stepB (Crc.bit k) 0 else l j, by omega, by go_num, ?_, ?_, below_set HB.out (Nat.le_refl _) _ _⟩
        · intro i hi
          show (if i = k then _ else _) = _
          split
          · rename_i h; subst h; exact Crc.stepB_zero _
          · exact HL.out i (by omega)
        · rw [blk_set HG.out, arr_set]
          congr 2
          exact arr_congr (fun i _ => by dsimp only; split <;> rfl)
      case measure => simp [intOf]; omega
    · have hl32 : ∀ i, i < 32 → l i = Crc.Z (Crc.bit i) := fun i hi => hl i (by omega)
      have HL := hid hl32
      have hge : 32 ≤ k := by omega
      clear hl hl32
      go_wp2
      go_loopw [0, 2] (fun x i wr => ∃ (a' : BitVec 32) (n' : Nat) (f : BitVec 32 → BitVec 32), x = W32 a' ∧ i = .int .i64 n' ∧ n' ≤ n ∧ Crc.Lin f ∧ Crc.rounds f n' a' = Crc.rounds Crc.Z n a ∧ wr.heap[w.heap.size]? = some (.cells (lins fun i => f (Crc.bit i)) 61 (0, 0)) ∧ Below w.heap.size w wr) (fun _ i _ => (intOf i).toNat)
      case atStart => exact ⟨a, n, Crc.Z, rfl, rfl, Nat.le_refl _, Crc.Z_lin, rfl, by rw [hg]; congr 2; exact arr_congr (fun i hi => by rw [HL.out i hi]), hb⟩
      case round =>
        clear hg hb HL
        obtain ⟨a', n', f, rfl, rfl, hn', hf, he, hg, hb⟩ := hrel
        have HE := hid he
        clear he
        by_cases hpos : 0 < n'
        · have hsz := blk_lt hg
          obtain ⟨wo, rfl⟩ : ∃ wo : World, wo = wr := ⟨_, rfl⟩
          rcases Decidable.em (n' % 2 = 1) with hodd | hodd
          case' inl =>
            have ht : (bits .and .i64 (n' : Int) 1 == 1) = true := by rw [and1_i64 n' (by omega), beq_iff_eq]; omega
            have HN : Hid (Crc.rounds (fun y => f (f y)) (n' / 2) (f a') = Crc.rounds Crc.Z n a) := by
              show _ = _; rw [← HE.out, Crc.rounds_half f n' a']; simp [hodd]
            go_wp2_with fail
            refine (linear_of _ (fun i => f (Crc.bit i)) a' wo (MapAt.of hg)).mono ?_
            rintro e w' ⟨rfl, rfl⟩
            rw [Crc.ofMap_eq hf]
            clear HE
            generalize f a' = a2 at *
            go_wp2
          case' inr =>
            have ht : (bits .and .i64 (n' : Int) 1 == 1) = false := by rw [and1_i64 n' (by omega), beq_eq_false_iff_ne]; omega
            have HN : Hid (Crc.rounds (fun y => f (f y)) (n' / 2) a' = Crc.rounds Crc.Z n a) := by
              show _ = _; rw [← HE.out, Crc.rounds_half f n' a']; simp [hodd]
            clear HE
            obtain ⟨a2, rfl⟩ : ∃ x, x = a' := ⟨a', rfl⟩
            go_wp2
          all_goals
            clear ht hodd
            go_loopw [32] (fun i wr => ∃ (k : Nat) (l : Nat → BitVec 32), k ≤ 32 ∧ i = .int .i64 k ∧ (∀ i, i < k → l i = f (f (Crc.bit i))) ∧ wr.heap[w.heap.size]? = some (.cells (lins fun i => f (Crc.bit i)) 61 (0, 0)) ∧ wr.heap[wo.heap.size]? = some (.cells (lins l) 61 (0, 0)) ∧ Below w.heap.size w wr) (fun i _ => 32 - (intOf i).toNat)
            case atStart => exact ⟨0, fun _ => 0#32, Nat.zero_le _, rfl, fun i h => absurd h (by omega), by rw [heap_alloc_old _ _ hsz]; exact hg, heap_alloc_new _ _, hb.alloc (Nat.le_of_lt hsz) _⟩
            case round =>
              clear hg hb
              obtain ⟨k, l, hk, rfl, hl, hg, hg2, hb⟩ := hrel
              by_cases hlt : k < 32
              · have hc := blk_cell hg k
                rw [arr_get _ _ _ hlt] at hc
                have hc2 := blk_cell hg2 k
                rw [arr_get _ _ _ hlt] at hc2
                have hf2 := blk_frozen hg2 k
                have HL := hid hl
                have HB := hid hb
                have HG := hid hg
                have HG2 := hid hg2
                clear hl hg hg2 hb
                go_wp2_with fail
                refine (linear_of _ (fun i => f (Crc.bit i)) _ wr (MapAt.of HG.out)).mono ?_
                rintro e w' ⟨rfl, rfl⟩
                rw [Crc.ofMap_eq hf]
                go_wp2
                go_roundw
                case rel =>
                  refine ⟨k + 1, fun j => if j = k then f (f (Crc.bit k)) else l j, by omega, by go_num, ?_, ?_, ?_, below_set HB.out (Nat.le_of_lt hsz) _ _⟩
                  · intro i hi
                    show (if i = k then _ else _) = _
                    split
                    · rename_i h; subst h; rfl
                    · exact HL.out i (by omega)
                  · rw [heap_setCell_other _ _ _ _ (by show w.heap.size ≠ wo.heap.size; omega)]; exact HG.out
                  · rw [blk_set HG2.out, arr_set]
                    congr 2
                    exact arr_congr (fun i _ => by dsimp only; split <;> rfl)
                case measure => simp [intOf]; omega
              · have hsz0 : (Tryd.prog.info? 61).map (·.size) = some (lins l).size := by rw [arr_size]; exact linear_size
                have hL : lins l = lins (fun i => f (f (Crc.bit i))) := arr_congr (fun i hi => by rw [hl i (by omega)])
                have HL := hid hL
                have HG := hid hg
                have HG2 := hid hg2
                have HB := hid hb
                have HZ := hid hsz0
                clear hL hl hg hg2 hb hsz0
                go_wp2_with (first | (refine wpList_load_row rfl 61 (.tmp 10) rfl wo.heap.size rfl 61 (lins l) (0, 0) _ HG2.out Tryd.underlying61 rfl HZ.out ?_) | (refine wpList_store_row rfl 61 (.tmp 8) (.tmp 42) rfl w.heap.size (lins l) rfl rfl 61 _ HG.out HZ.out (by rw [arr_size, arr_size]) (arr_one _ _ (fun _ => rfl)) ?_))
                go_roundw
                case rel =>
                  refine ⟨a2, n' / 2, fun y => f (f y), rfl, by go_num, by omega, fun x y => by show f (f _) = f (f x) ^^^ f (f y); rw [hf, hf], HN.out, ?_, below_row HB.out (Nat.le_refl _) _⟩
                  rw [setRow_heap _ _ _ _ _ _ HG.out, HL.out]
                case measure => simp [intOf]; omega
        · obtain rfl : n' = 0 := by omega
          have HN : Hid (a' = Crc.rounds Crc.Z n a) := HE.out
          have HB := hid hb
          clear HE hb hg
          go_wp2
          go_ret2
          exact ⟨by rw [← HN.out]; exact congrArg (fun n => Ending.returned (.tuple #[.int .u32 n, .int .i64 0])) (xor32 a' b), HB.out⟩
theorem TabAt.next {w w' : World} (h : TabAt w) (hb : Below w.heap.size w w') : TabAt w' := h.below hb h.lt
/-- a world that has grown out of an elder one, with the table where it lies -/
structure En (w0 w : World) : Prop where
  b : Below w0.heap.size w0 w
  t0 : TabAt w0
theorem En.t {w0 w : World} (h : En w0 w) : TabAt w := h.t0.below h.b h.t0.lt
theorem En.refl {w : World} (h : TabAt w) : En w w := ⟨Below.refl _ _, h⟩
theorem En.next {w0 w w' : World} (h : En w0 w) (hb : Below w.heap.size w w') : En w0 w' := ⟨below_then h.b hb, h.t0⟩
theorem En.alloc {w0 w : World} (h : En w0 w) (o : Obj) : En w0 (w.alloc o) := h.next ((Below.refl _ _).alloc (Nat.le_refl _) o)
theorem En.drewN {w0 w : World} (h : En w0 w) (n : Nat) : En w0 (w.drewN n) := h.next (below_drewN (Below.refl _ _) n)
theorem En.drew {w0 w : World} (h : En w0 w) : En w0 w.drew := h.next ((Below.refl _ _).drew)
theorem Join_at {av bv nv : Int} (a b r : BitVec 32) (n : Nat) (w : World) (hT : TabAt w) (ha : av = (a.toNat : Int)) (hb : bv = (b.toNat : Int)) (hnv : nv = (n : Int)) (hn : n ≤ 9223372036854775807) (hr : Crc.rounds Crc.Z n a ^^^ b = r) :
    Calls Tryd.prog 9 #[.int .u32 av, .int .u32 bv, .int .i64 nv] w fun e w' => e = .returned (.tuple #[W32 r, .int .i64 0]) ∧ Below w.heap.size w w' := by
  subst ha hb hnv hr; exact Join_any a b n hn w hT

end Go.Proofs.YthadfebboagabaaDoor
