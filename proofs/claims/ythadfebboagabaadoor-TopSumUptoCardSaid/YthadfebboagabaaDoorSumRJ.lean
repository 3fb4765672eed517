/- The walk of the document's Join. -/
import Derived.Test.YthadfebboagabaaDoorSumR
import Derived.Deep.MidRow
namespace Go.Proofs.YthadfebboagabaaDoor
open Go.RowKit
set_option maxHeartbeats 1000000 in
theorem through_any (l : Nat → BitVec 32) (x : BitVec 32) (w : World) :
    Calls Tryd.prog 33 #[.agg (lins l), W32 x] w fun e w' => e = .returned (W32 (Crc.ofMap l x 32)) ∧ Below w.heap.size w w' := by
  go_enter Tryd.func33, Tryd.ntmps33
  go_wp2
  have HG := hid (heap_alloc_new w (.cells (lins l) 60))
  have HB := hid (Below.alloc (Below.refl w.heap.size w) (Nat.le_refl _) (.cells (lins l) 60))
  generalize (w.alloc (.cells (lins l) 60)) = w1 at *
  go_loop [5, 6] (fun y i => ∃ k : Nat, k ≤ 32 ∧ i = .int .i64 k ∧ y = W32 (Crc.ofMap l x k)) (fun _ i => 32 - (intOf i).toNat)
  case atStart => exact ⟨0, Nat.zero_le _, rfl, rfl⟩
  case round =>
    obtain ⟨k, hk, rfl, rfl⟩ := hrel
    by_cases hlt : k < 32
    · have hc := blk_cell HG.out k
      rw [arr_get _ _ _ hlt] at hc
      have HN : Hid (Crc.ofMap l x (k + 1) = Crc.ofMap l x k ^^^ (if x.getLsbD k then l k else 0#32)) := rfl
      generalize Crc.ofMap l x k = y at *
      have ht := bit_test x k
      cases hx : x.getLsbD k
      · rw [hx] at ht HN
        clear hx
        go_wp2
        go_round
        case rel => exact ⟨k + 1, by omega, by go_num, by rw [HN.out]; simp only [Bool.false_eq_true, if_false, BitVec.xor_zero]⟩
        case measure => simp [intOf]; omega
      · rw [hx] at ht HN
        clear hx
        go_wp2
        go_round
        case rel => exact ⟨k + 1, by omega, by go_num, by rw [xor32, HN.out]; rfl⟩
        case measure => simp [intOf]; omega
    · obtain rfl : k = 32 := by omega
      go_wp2
      go_ret
      exact ⟨rfl, HB.out⟩
theorem lin_size : (Tryd.prog.info? 60).map (·.size) = some 32 := by kernel_rfl
/-- what a step of the doubling reads, in any world of the region -/
abbrev SJ (g k : Nat) (F : Nat → BitVec 32) (W : World) : Prop := W.rangeAt g 0 (lins F).toList ∧ W.cell? ⟨g, k, none⟩ = some (W32 (F k))
theorem SJ.of {W : World} {g k : Nat} {F : Nat → BitVec 32} (hk : k < 32) (h1 : W.heap[g]? = some (.cells (lins F) 60 (0, 0))) : SJ g k F W := by
  refine ⟨?_, by rw [blk_cell h1, arr_get _ _ _ hk]⟩
  intro j v hj
  rw [Nat.zero_add, blk_cell h1, ← Array.getElem?_toList]; exact hj
abbrev JS (w : World) (g g2 : Nat) (F l : Nat → BitVec 32) (W : World) : Prop :=
  W.heap[g]? = some (.cells (lins F) 60 (0, 0)) ∧ W.heap[g2]? = some (.cells (lins l) 60 (0, 0)) ∧ Below w.heap.size w W
theorem JS.keep {w W W' : World} {g g2 : Nat} {F l : Nat → BitVec 32} (h : JS w g g2 F l W) (hb : Below W.heap.size W W') : JS w g g2 F l W' :=
  ⟨blk_keep hb h.1 (blk_lt h.1), blk_keep hb h.2.1 (blk_lt h.2.1), below_then h.2.2 hb⟩
theorem through_J {w W : World} {g g2 k : Nat} {F l : Nat → BitVec 32} (hk : k < 32) (h : JS w g g2 F l W) (x : BitVec 32) :
    Calls Tryd.prog 33 #[.agg (lins F), W32 x] W fun e w' => e = .returned (W32 (Crc.ofMap F x 32)) ∧ SJ g k F w' ∧ w'.cell? ⟨g2, k, none⟩ = some (W32 (l k)) ∧ w'.frozen? ⟨g2, k, none⟩ = false ∧ Hid (JS w g g2 F l w') :=
  (through_any F x W).mono fun _ _ h2 => ⟨h2.1, SJ.of hk (h.keep h2.2).1, by rw [blk_cell (h.keep h2.2).2.1, arr_get _ _ _ hk], blk_frozen (h.keep h2.2).2.1 k, hid (h.keep h2.2)⟩
theorem refJoin_neg (a b : BitVec 32) (n : Int) (hn : n < 0) (w : World) :
    Calls Tryd.prog 21 #[W32 a, W32 b, .int .i64 n] w fun e w' => e = .returned (.tuple #[.int .u32 0, .int .i64 1]) ∧ Below w.heap.size w w' := by
  go_enter Tryd.func21, Tryd.ntmps21
  go_wp2
  go_ret2
  exact ⟨rfl, Below.refl _ _⟩
set_option maxHeartbeats 1000000 in
theorem refJoin_any (a b : BitVec 32) (n : Nat) (hn : n ≤ 9223372036854775807) (w : World) :
    Calls Tryd.prog 21 #[W32 a, W32 b, .int .i64 n] w fun e w' => e = .returned (.tuple #[W32 (Crc.rounds Crc.Z n a ^^^ b), .int .i64 0]) ∧ Below w.heap.size w w' := by
  go_enter Tryd.func21, Tryd.ntmps21
  go_wp2
  go_loopw [9] (fun i wr => ∃ (k : Nat) (l : Nat → BitVec 32), k ≤ 32 ∧ i = .int .i64 k ∧ (∀ i, i < k → l i = Crc.Z (Crc.bit i)) ∧ wr.heap[w.heap.size]? = some (.cells (lins l) 60 (0, 0)) ∧ Below w.heap.size w wr) (fun i _ => 32 - (intOf i).toNat)
  case atStart => exact ⟨0, fun _ => 0#32, Nat.zero_le _, rfl, fun i h => absurd h (by omega), heap_alloc_new _ _, (Below.refl _ _).alloc (Nat.le_refl _) _⟩
  case round =>
    obtain ⟨k, l, hk, rfl, hl, hg, hb⟩ := hrel
    by_cases hlt : k < 32
    · go_wp2_with fail
      refine Calls.mono (bitwise_at (Crc.bit k) wr (bit_int k hlt)) ?_
      rintro e w' ⟨rfl, rfl⟩
      have hc := blk_cell hg k
      rw [arr_get _ _ _ hlt] at hc
      have hf := blk_frozen hg k
      have HG := hid hg
      have HB := hid hb
      have HL := hid hl
      clear hg hb hl
      go_wp2
      go_roundw
      case rel =>
        refine ⟨k + 1, fun j => if j = k then Crc.Z (Crc.bit k) else l j, by omega, by go_num, ?_, ?_, below_set HB.out (Nat.le_refl _) _ _⟩
        · intro i hi
          show (if i = k then _ else _) = _
          split
          · rename_i h; subst h; rfl
          · exact HL.out i (by omega)
        · rw [blk_set HG.out, arr_set]
          congr 2
          exact arr_congr (fun i _ => by dsimp only; split <;> rfl)
      case measure => simp [intOf]; omega
    · have hl32 : ∀ i, i < 32 → l i = Crc.Z (Crc.bit i) := fun i hi => hl i (by omega)
      have HL := hid hl32
      have hge : 32 ≤ k := by omega
      clear hl hl32
      go_wp2
      go_loopw [0, 2] (fun x i wr => ∃ (a' : BitVec 32) (n' : Nat) (f : BitVec 32 → BitVec 32), x = W32 a' ∧ i = .int .i64 n' ∧ n' ≤ n ∧ Crc.Lin f ∧ Crc.rounds f n' a' = Crc.rounds Crc.Z n a ∧ wr.heap[w.heap.size]? = some (.cells (lins fun i => f (Crc.bit i)) 60 (0, 0)) ∧ Below w.heap.size w wr) (fun _ i _ => (intOf i).toNat)
      case atStart => exact ⟨a, n, Crc.Z, rfl, rfl, Nat.le_refl _, Crc.Z_lin, rfl, by rw [hg]; congr 2; exact arr_congr (fun i hi => by rw [HL.out i hi]), hb⟩
      case round =>
        clear hg hb HL
        obtain ⟨a', n', f, rfl, rfl, hn', hf, he, hg, hb⟩ := hrel
        have HE := hid he
        clear he
        by_cases hpos : 0 < n'
        · have hsz := blk_lt hg
          have HZ := hid (show (Tryd.prog.info? 60).map (·.size) = some (lins fun i => f (Crc.bit i)).size by rw [arr_size]; exact lin_size)
          have HF := hid hf
          rcases Decidable.em (n' % 2 = 1) with hodd | hodd
          case' inl =>
            have ht : (((n' : Int) % 2) == 1) = true := by rw [beq_iff_eq]; omega
            have HN : Hid (Crc.rounds (fun y => f (f y)) (n' / 2) (f a') = Crc.rounds Crc.Z n a) := by
              show _ = _; rw [← HE.out, Crc.rounds_half f n' a']; simp [hodd]
            go_wp2_with (first | (refine wpList_load_row rfl 60 (.tmp 8) rfl w.heap.size rfl 60 (lins fun i => f (Crc.bit i)) (0, 0) _ hg Tryd.underlying60 rfl HZ.out ?_) | fail)
            refine (through_any (fun i => f (Crc.bit i)) a' wr).mono ?_
            rintro e wo ⟨rfl, hbw⟩
            replace hg := blk_keep hbw hg hsz
            replace hb := below_then hb hbw
            replace hsz := Nat.lt_of_lt_of_le hsz hbw.size
            rw [Crc.ofMap_eq hf]
            clear HE hbw
            generalize f a' = a2 at *
            go_wp2
          case' inr =>
            have ht : (((n' : Int) % 2) == 1) = false := by rw [beq_eq_false_iff_ne]; omega
            have HN : Hid (Crc.rounds (fun y => f (f y)) (n' / 2) a' = Crc.rounds Crc.Z n a) := by
              show _ = _; rw [← HE.out, Crc.rounds_half f n' a']; simp [hodd]
            clear HE
            obtain ⟨a2, rfl⟩ : ∃ x, x = a' := ⟨a', rfl⟩
            obtain ⟨wo, rfl⟩ : ∃ wo : World, wo = wr := ⟨_, rfl⟩
            go_wp2
          all_goals
            clear ht hodd
            go_loopw [11] (fun i wr => ∃ (k : Nat) (l : Nat → BitVec 32), k ≤ 32 ∧ i = .int .i64 k ∧ (∀ i, i < k → l i = f (f (Crc.bit i))) ∧ wr.heap[w.heap.size]? = some (.cells (lins fun i => f (Crc.bit i)) 60 (0, 0)) ∧ wr.heap[wo.heap.size]? = some (.cells (lins l) 60 (0, 0)) ∧ Below w.heap.size w wr) (fun i _ => 32 - (intOf i).toNat)
            case atStart => exact ⟨0, fun _ => 0#32, Nat.zero_le _, rfl, fun i h => absurd h (by omega), by rw [heap_alloc_old _ _ hsz]; exact hg, heap_alloc_new _ _, hb.alloc (Nat.le_of_lt hsz) _⟩
            case round =>
              clear hg hb
              obtain ⟨k, l, hk, rfl, hl, hg, hg2, hb⟩ := hrel
              by_cases hlt : k < 32
              · have HL := hid hl
                have hu := Tryd.underlying60
                have hz : (Tryd.prog.info? 60).map (·.size) = some (lins fun i => f (Crc.bit i)).toList.length := by rw [Array.length_toList]; exact HZ.out
                have HJ : Hid (JS w w.heap.size wo.heap.size (fun i => f (Crc.bit i)) l wr) := hid ⟨hg, hg2, hb⟩
                clear hl hg hg2 hb
                go_wp2
                go_region_held3 (SJ w.heap.size k (fun i => f (Crc.bit i)))
                  (first | assumption | exact SJ.of hlt HJ.out.1 | exact SJ.of hlt (HJ.out.keep (Below.refl _ _).drew).1 | (refine SJ.of hlt ?_; rw [heap_setCell_other _ _ _ _ (by show w.heap.size ≠ wo.heap.size; omega)]; exact hJ'.out.1))
                  (first | (go_at_call 33; refine (through_J (w := w) (g := w.heap.size) (g2 := wo.heap.size) (k := k) (F := fun i => f (Crc.bit i)) (l := l) hlt (HJ.out.keep (Below.refl _ _).drew) _).mono ?_; rintro e w' ⟨rfl, hs1, hs2, hs3, hJ'⟩))
                rw [Crc.ofMap_eq hf]
                go_wp2
                go_roundw
                case rel =>
                  refine ⟨k + 1, fun j => if j = k then f (f (Crc.bit k)) else l j, by omega, by go_num, ?_, ?_, ?_, below_set hJ'.out.2.2 (Nat.le_of_lt hsz) _ _⟩
                  · intro i hi
                    show (if i = k then _ else _) = _
                    split
                    · rename_i h; subst h; rfl
                    · exact HL.out i (by omega)
                  · rw [heap_setCell_other _ _ _ _ (by show w.heap.size ≠ wo.heap.size; omega)]; exact hJ'.out.1
                  · rw [blk_set hJ'.out.2.1, arr_set]
                    congr 2
                    exact arr_congr (fun i _ => by dsimp only; split <;> rfl)
                case measure => simp [intOf]; omega
              · have hsz0 : (Tryd.prog.info? 60).map (·.size) = some (lins l).size := by rw [arr_size]; exact lin_size
                have hL : lins l = lins (fun i => f (f (Crc.bit i))) := arr_congr (fun i hi => by rw [hl i (by omega)])
                have HL := hid hL
                have HG := hid hg
                have HG2 := hid hg2
                have HB := hid hb
                have HZ := hid hsz0
                clear hL hl hg hg2 hb hsz0
                go_wp2_with (first | (refine wpList_load_row rfl 60 (.tmp 10) rfl wo.heap.size rfl 60 (lins l) (0, 0) _ HG2.out Tryd.underlying60 rfl HZ.out ?_) | (refine wpList_store_row rfl 60 (.tmp 8) (.tmp 43) rfl w.heap.size (lins l) rfl rfl 60 _ HG.out HZ.out (by rw [arr_size, arr_size]) (arr_one _ _ (fun _ => rfl)) ?_))
                go_roundw
                case rel =>
                  refine ⟨a2, n' / 2, fun y => f (f y), rfl, by go_num, by omega, fun x y => by show f (f _) = f (f x) ^^^ f (f y); rw [hf, hf], HN.out, ?_, below_row HB.out (Nat.le_refl _) _⟩
                  rw [setRow_heap _ _ _ _ _ _ HG.out, HL.out]
                case measure => simp [intOf]; omega
        · obtain rfl : n' = 0 := by omega
          have HN : Hid (a' = Crc.rounds Crc.Z n a) := HE.out
          have HB := hid hb
          clear HE hb hg
          go_wp2
          go_ret2
          exact ⟨by rw [← HN.out]; exact congrArg (fun n => Ending.returned (.tuple #[.int .u32 n, .int .i64 0])) (xor32 a' b), HB.out⟩
end Go.Proofs.YthadfebboagabaaDoor
