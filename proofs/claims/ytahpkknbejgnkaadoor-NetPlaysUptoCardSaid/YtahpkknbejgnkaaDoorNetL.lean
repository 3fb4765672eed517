/- The law's helpers: right, samePacket. -/
import Derived.Test.YtahpkknbejgnkaaDoorNetK
import Derived.Test.YtahpkknbejgnkaaDoorByX
namespace Go.Proofs.YtahpkknbejgnkaaDoor
open Go.RowKit
/-- the datagram that the law sends for number i -/
def rightP (i : Nat) (l : List UInt8) : Pkt := ⟨2, 1 + (i : Int) % 9, 1, (i : Int) % 5, l.take 300, (i : Int) % 7 == 3⟩
theorem rightP_ok (i : Nat) (l : List UInt8) : okNode (rightP i l).fk (rightP i l).fi = true ∧ okNode (rightP i l).tk (rightP i l).ti = true ∧ (rightP i l).data.length ≤ 300 := by
  refine ⟨?_, ?_, by simp [rightP]; omega⟩
  · show okNode 2 (1 + (i : Int) % 9) = true; unfold okNode; rw [if_neg (by decide), if_pos rfl]; simp; omega
  · show okNode 1 ((i : Int) % 5) = true; unfold okNode; rw [if_pos rfl]; simp; omega
set_option maxRecDepth 100000 in
set_option maxHeartbeats 1000000 in
theorem right_any (i : Nat) (dv : Value) (l : List UInt8) (w : World) (h : SlB w dv l) (hl : l.length ≤ 140737488355328) (hi : i ≤ 140737488355328) :
    Calls Tryd.prog 21 #[.int .i64 (i : Int), dv] w fun e w' => ∃ u, e = .returned ((rightP i l).val u) ∧ OwnB w' w.heap.size u (l.take 300) ∧ Below w.heap.size w w' := by
  obtain ⟨A, c, rfl⟩ := h.form
  obtain ⟨k, hk⟩ : ∃ k, k = min l.length 300 := ⟨_, rfl⟩
  have hmin : (if (300 : Int) < (l.length : Int) then (300 : Int) else (l.length : Int)) = (k : Int) := by split <;> omega
  have hmin2 : (if (l.length : Int) < 300 then (l.length : Int) else 300) = (k : Int) := by split <;> omega
  have hkl : k ≤ l.length := by omega
  have hkc : k ≤ c := by
    obtain ⟨_, _, e, h1, _⟩ := h
    injection e with e1 e2 e3
    omega
  have ht : l.take 300 = l.take k := by
    rcases Nat.le_total l.length 300 with h | h
    · rw [List.take_of_length_le h, List.take_of_length_le (by omega)]
    · rw [show k = 300 by omega]
  have H : Hid (SlB w (.slice A k c) (l.take k)) := hid (h.take_ k hkl hkc)
  have hlk : (l.take k).length = k := by rw [List.length_take]; omega
  unfold rightP Pkt.val
  rw [ht]
  generalize l.take k = m at *
  obtain rfl : k = m.length := hlk.symm
  have hml : m.length ≤ 140737488355328 := by omega
  obtain ⟨b, hb⟩ : ∃ b, ((i : Int) % 7 == 3) = b := ⟨_, rfl⟩
  rw [hb]
  clear h hk ht hlk
  go_enter Tryd.func21, Tryd.ntmps21
  go_upto_region 3 with (fail)
  refine Code.seen (fun W => W.heap[w.heap.size]? = some (.cells #[.int .i64 0, .int .i64 0, .int .i64 0, .int .i64 0, .slice none 0 0, .bool false] 32 (0, 0)) ∧ W.heap[w.heap.size + 1]? = some (.cells #[.int .i64 2, .int .i64 (1 + (i : Int) % 9), .int .i64 1, .int .i64 ((i : Int) % 5), .slice none 0 0, .bool b] 32 (0, 0)) ∧ W.heap.size = w.heap.size + 2 ∧ Below w.heap.size w W) ⟨?_, ?_, by simp, ((Below.refl _ _).alloc (Nat.le_refl _) _).alloc (by simp) _⟩ fun w1 Z1 => ?_
  · exact (heap_alloc_old _ _ (by simp)).trans (heap_alloc_new _ _)
  · have := heap_alloc_new (w.alloc (.cells #[.int .i64 0, .int .i64 0, .int .i64 0, .int .i64 0, .slice none 0 0, .bool false] 32)) (.cells #[.int .i64 2, .int .i64 (1 + (i : Int) % 9), .int .i64 1, .int .i64 ((i : Int) % 5), .slice none 0 0, .bool b] 32)
    simpa using this
  obtain ⟨x0, x1, x2, x3, x4, x5⟩ := pk_at Z1.out.2.1
  have HB1 := hid Z1.out.2.2.2
  have HZ1 := hid Z1.out.2.2.1
  have HR0 := hid Z1.out.1
  have HR1 := hid Z1.out.2.1
  clear Z1
  have HM := hid hmin
  have HM2 := hid hmin2
  have HBB := hid hb
  clear hmin hmin2 hb
  go_upto_region 4 with (at_builtin; refine wpList_appBX rfl (.tmp 27) (.tmp 28) rfl w1.heap.size (.slice none 0 0) (.slice A m.length c) [] m rfl rfl (OwnB.nil _ _) (H.out.below HB1.out) (by simp only [List.length_nil]; omega) (Nat.le_refl _) ?_; intro v2 w2 ho2 hg2 hat2; rw [List.nil_append] at ho2; obtain ⟨A2, c2, rfl⟩ := ho2.form; have HO2 := hid ho2; have hb2 : Below w1.heap.size w1 w2 := OwnB.grown (Below.refl _ _) (OwnB.nil _ _) (Nat.le_refl _) (Nat.le_refl _) hg2; have HB2 := hid hb2; have hbl1 := hid (blk_keep hb2 HR1.out (by rw [HZ1.out]; omega)); have hbl0 := hid (blk_keep hb2 HR0.out (by rw [HZ1.out]; omega)); have f1 : ∀ i, w2.frozen? ⟨w.heap.size + 1, i, none⟩ = false := (fun i => blk_frozen hbl1.out i); obtain ⟨y0, y1, y2, y3, y4, y5⟩ := pk_at hbl1.out; clear ho2 hg2 hb2 x0 x1 x2 x3 x4 x5 hat2)
  have hs1 : w1.heap.size = w.heap.size + 2 := HZ1.out
  refine Code.seen (fun W => W.heap[w.heap.size]? = some (.cells #[.int .i64 0, .int .i64 0, .int .i64 0, .int .i64 0, .slice none 0 0, .bool false] 32 (0, 0)) ∧ W.heap[w.heap.size + 1]? = some (.cells #[.int .i64 2, .int .i64 (1 + (i : Int) % 9), .int .i64 1, .int .i64 ((i : Int) % 5), .slice A2 m.length c2, .bool b] 32 (0, 0)) ∧ OwnB W w1.heap.size (.slice A2 m.length c2) m ∧ Below w.heap.size w W) ⟨?_, ?_, ?_, ?_⟩ fun w3 Z3 => ?_
  · rw [heap_setCell_other _ _ _ _ (by simp)]; exact hbl0.out
  · rw [blk_set hbl1.out]; rfl
  · exact HO2.out.fr (Fr.set_ (g := w.heap.size + 1) 4 _) (fun k hk e => by have := (World.ownsRow.lt HO2.out k hk).1; omega)
  · exact below_set (below_then HB1.out HB2.out) (Nat.le_succ _) _ _
  obtain ⟨x0, x1, x2, x3, x4, x5⟩ := pk_at Z3.out.2.1
  obtain ⟨z0, z1, z2, z3, z4, z5⟩ := pk_at Z3.out.1
  have hfz : ∀ i, w3.frozen? ⟨w.heap.size, i, none⟩ = false := fun i => blk_frozen Z3.out.1 i
  clear y0 y1 y2 y3 y4 y5 f1 hbl0 hbl1
  go_wp2_with fail
  have e0 := hid (set6 Z3.out.1 (.int .i64 2) (.int .i64 (1 + (i : Int) % 9)) (.int .i64 1) (.int .i64 ((i : Int) % 5)) (.slice A2 m.length c2) (.bool b))
  have hf := fr6 w3 w.heap.size (.int .i64 2) (.int .i64 (1 + (i : Int) % 9)) (.int .i64 1) (.int .i64 ((i : Int) % 5)) (.slice A2 m.length c2) (.bool b)
  have e1 := hid (Z3.out.2.2.1.fr hf (fun k hk e => by have := (World.ownsRow.lt Z3.out.2.2.1 k hk).1; omega))
  have e2 := hid (Z3.out.2.2.2.trans (hf.to_below (fun k hk e => by omega) Z3.out.2.2.2.size))
  clear x0 x1 x2 x3 x4 x5 z0 z1 z2 z3 z4 z5 hfz hf
  generalize ((((((w3.setCell ⟨w.heap.size, 0, none⟩ (.int .i64 2)).setCell ⟨w.heap.size, 1, none⟩ (.int .i64 (1 + (i : Int) % 9))).setCell ⟨w.heap.size, 2, none⟩ (.int .i64 1)).setCell ⟨w.heap.size, 3, none⟩ (.int .i64 ((i : Int) % 5))).setCell ⟨w.heap.size, 4, none⟩ (.slice A2 m.length c2)).setCell ⟨w.heap.size, 5, none⟩ (.bool b)) = w5 at *
  obtain ⟨q0, q1, q2, q3, q4, q5⟩ := pk_at e0.out
  have R := hid (And.intro (own_base e1.out (show w.heap.size ≤ w1.heap.size by omega)) e2.out)
  clear e0 e1 e2 Z3
  refine bodyPost_ret (v := .agg #[.int .i64 2, .int .i64 (1 + (i : Int) % 9), .int .i64 1, .int .i64 ((i : Int) % 5), .slice A2 m.length c2, .bool b]) ?_ rfl ⟨_, rfl, R.out⟩
  simp [results, Tryd.results21, go_sem, *]
end Go.Proofs.YtahpkknbejgnkaaDoor
