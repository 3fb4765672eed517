/- The walk of the law PackWrites. -/
import Derived.Test.YtamhlfhblgmhoaaPackWritesQ
import Derived.Test.YtamhlfhblgmhoaaPackBackW
namespace Go.Proofs.Ytamhlfhblgmhoaa
open Go.RowKit
theorem put_op (K : Nat → Prop) (w0 W : World) (gw gv gb n : Nat) (e : Int) (l : List UInt8) (o : POp) (ov : Value) (n0 : -9223372036854775808 ≤ o.n) (n1 : o.n ≤ 9223372036854775807) (ho : SlB w0 ov o.l) (hok : 0 < o.l.length → ∀ k, ov.ownBlock = some k → K k) (hol : o.l.length ≤ 1048576) (hs : o.s.toList.length ≤ 1048576) (hn : n + 1 ≤ 1048576) (hl : l.length ≤ 500000000) (h : PS K w0 W gw gv gb n e l) :
    Calls Try.prog 13 #[.pointer (some ⟨gw, 0, none⟩), .pointer (some ⟨gv, 0, none⟩), .agg #[.int .i64 o.kind, .int .i64 o.n, B o.b, ov, .string o.s], .pointer (some ⟨gb, 0, none⟩)] W (PPost K w0 gw gv gb n l o) := by
  obtain ⟨kd, k, b, ol, s⟩ := o
  simp only at *
  by_cases q1 : kd = 1
  · subst q1
    rcases Int.lt_or_le k 0 with hk | hk
    · exact put_neg K w0 W gw gv gb n e l k b ol s ov hk n0 hl h
    · exact put_uint K w0 W gw gv gb n e l k b ol s ov hk n1 hl h
  by_cases q2 : kd = 2
  · subst q2; exact put_byte K w0 W gw gv gb n e l k b ol s ov hl h
  by_cases q3 : kd = 3
  · subst q3; exact put_bool K w0 W gw gv gb n e l k b ol s ov _ rfl hl h
  by_cases q4 : kd = 4
  · subst q4; exact put_bytes K w0 W gw gv gb n e l k b ol s ov ho hok hol (by omega) hl h
  by_cases q5 : kd = 5
  · subst q5; exact put_text K w0 W gw gv gb n e l k b ol s ov hs hl h
  by_cases q6 : kd = 6
  · subst q6; exact put_end K w0 W gw gv gb n e l k b ol s ov hn hl h
  exact put_none K w0 W gw gv gb n e l k b ol s ov kd (by rw [beq_eq_false_iff_ne]; exact q1) (by rw [beq_eq_false_iff_ne]; exact q2) (by rw [beq_eq_false_iff_ne]; exact q3) (by rw [beq_eq_false_iff_ne]; exact q4) (by rw [beq_eq_false_iff_ne]; exact q5) (by rw [beq_eq_false_iff_ne]; exact q6) hl h
theorem PS.init (w w1 w2 : World) (h1 : WAt w1 w.heap.size 0 (.slice none 0 0) []) (b1 : Below w.heap.size w w1) (s1 : w1.heap.size = w.heap.size + 1) (h2 : VAt w2 w1.heap.size 0 (.slice none 0 0) []) (b2 : Below w1.heap.size w1 w2) (s2 : w2.heap.size = w1.heap.size + 1) :
    PS (fun k => k < w.heap.size) w (w2.alloc (.cells #[.slice none 0 0, .slice none 0 0] 38)) w.heap.size w1.heap.size w2.heap.size 0 0 [] := by
  have b3 : Below w2.heap.size w2 (w2.alloc (.cells #[.slice none 0 0, .slice none 0 0] 38)) := (Below.refl _ _).alloc (Nat.le_refl _) _
  have s3 : (w2.alloc (.cells #[.slice none 0 0, .slice none 0 0] 38)).heap.size = w2.heap.size + 1 := by simp
  refine ⟨fun k => if k < w.heap.size then 9 else if k = w.heap.size then 4 else if k = w1.heap.size then 6 else if k = w2.heap.size then 1 else 8, .slice none 0 0, .slice none 0 0, [], [], ⟨⟨heap_alloc_new _ _, World.ownsRow_nil _ _ _ _, World.ownsRow_nil _ _ _ _, rfl, fun i u hu => by simp at hu, fun i u hu => by simp at hu, ?_, fun k hk => by simp [Value.ownBlock] at hk, fun k hk => by simp [Value.ownBlock] at hk⟩, ⟨_, (h1.below b2).below b3, ?_, fun k hk => by simp [Value.ownBlock] at hk⟩, ⟨_, h2.below b3, ?_, fun k hk => by simp [Value.ownBlock] at hk⟩, ?_, fun k hk => ⟨if_pos hk, hk⟩, fun k hk => ?_⟩, rfl⟩
  · rw [if_neg (by omega), if_neg (by omega), if_neg (by omega), if_pos rfl]
  · dsimp only; rw [if_neg (by omega), if_pos rfl]
  · dsimp only; rw [if_neg (by omega), if_neg (by omega), if_pos rfl]
  · have := below_then (below_then b1 b2) b3
    exact ⟨this.os, this.tape, this.output, this.size, fun k hk _ => this.block k hk⟩
  · rw [s3] at hk
    rw [if_neg (by omega), if_neg (by omega), if_neg (by omega), if_neg (by omega)]
theorem m_three (l : List POp) : 3 * l.length ≤ (l.map POp.m).sum := by
  induction l with
  | nil => simp
  | cons a l ih =>
    have : 3 ≤ a.m := by unfold POp.m; omega
    simp only [List.map_cons, List.sum_cons, List.length_cons]; omega
theorem m_take (l : List POp) (i : Nat) (o : POp) (h : l[i]? = some o) : ((l.take (i + 1)).map POp.m).sum = ((l.take i).map POp.m).sum + o.m := by
  obtain ⟨hi, rfl⟩ := List.getElem?_eq_some_iff.1 h
  rw [List.take_succ_eq_append_getElem hi, List.map_append, List.sum_append]; simp
set_option maxRecDepth 100000 in
set_option maxHeartbeats 8000000 in
theorem PackWrites_walk (sv : Value) (ops : List POp) (z : Int) (z1 : z ≤ 9223372036854775807) (w : World) (hS : SlR POp.R 5 w sv ops) (hM : (ops.map POp.m).sum + 1 ≤ 1048576) (hlen : ops.length ≤ 1048576) :
    Calls Try.prog 4 #[sv, .int .i64 z] w fun e w' => e = .returned (.bool true) ∧ Below w.heap.size w w' := by
  have HS := hid hS
  obtain ⟨A, c, rfl, hlc⟩ : ∃ A c, sv = .slice A ops.length c ∧ ops.length ≤ c := by obtain ⟨A, c, _, e, h, _⟩ := hS; exact ⟨A, c, e, h⟩
  have HOP : Hid (∀ (i : Nat) (o : POp), ops[i]? = some o → (-9223372036854775808 ≤ o.n ∧ o.n ≤ 9223372036854775807) ∧ o.s.toList.length ≤ 1048576 ∧ o.l.length ≤ 1048576) := hid fun i o hi => by
    obtain ⟨_, _, ys, _, _, _, h3, _⟩ := hS
    have hm := m_le (List.mem_of_getElem? hi)
    obtain ⟨_, _, n0, n1⟩ := h3 i o hi
    have hmo : o.m = o.l.length + o.s.data.toList.length + 3 := rfl
    refine ⟨⟨n0, n1⟩, ?_, ?_⟩
    · rw [toList_eq]; omega
    · omega
  have h3 := m_three ops
  have HM : Hid (∀ i, ((ops.take i).map POp.m).sum ≤ 1048575) := hid fun i => by
    have h2 : ((ops.take i).map POp.m).sum ≤ (ops.map POp.m).sum := by
      conv => rhs; rw [← List.take_append_drop i ops]
      rw [List.map_append, List.sum_append]; omega
    omega
  have hlen3 : 3 * ops.length ≤ 1048575 := by omega
  clear hS hM h3
  have HSZ := hid op_size
  go_enter Try.func4, Try.ntmps4
  go_wp2_with fail
  refine (NewWriter_any w).mono ?_
  rintro r w1 ⟨rfl, hw1, hb1, hs1⟩
  go_wp2_with fail
  refine (vNewWriter_any w1).mono ?_
  rintro r w2 ⟨rfl, hw2, hb2, hs2⟩
  have hp := PS.init w w1 w2 hw1 hb1 hs1 hw2 hb2 hs2
  have HP := hid hp
  obtain ⟨gw, hgw⟩ : ∃ x, x = w.heap.size := ⟨_, rfl⟩
  obtain ⟨gv, hgv⟩ : ∃ x, x = w1.heap.size := ⟨_, rfl⟩
  obtain ⟨gb, hgb⟩ : ∃ x, x = w2.heap.size := ⟨_, rfl⟩
  have HP2 : Hid (PS (fun k => k < w.heap.size) w (w2.alloc (.cells #[.slice none 0 0, .slice none 0 0] 38)) gw gv gb 0 0 []) := hid (by rw [hgw, hgv, hgb]; exact HP.out)
  simp only [← hgw, ← hgv]
  clear hw1 hb1 hs1 hw2 hb2 hs2 hp HP hgw hgv
  go_wp2
  simp only [← hgb]
  clear hgb
  go_loopw [8] (fun i wr => ∃ (j n : Nat) (e : Int) (l : List UInt8), j ≤ ops.length ∧ i = .int .i64 j ∧ PS (fun k => k < w.heap.size) w wr gw gv gb n e l ∧ n ≤ 2 * j ∧ l.length ≤ 4 * ((ops.take j).map POp.m).sum) (fun i _ => ops.length - (intOf i).toNat)
  case atStart => exact ⟨0, 0, 0, [], Nat.zero_le _, rfl, HP2.out, by omega, by simp⟩
  case round =>
    clear HP2
    obtain ⟨j, n, e, l, hj, rfl, hp, hn, hl⟩ := hrel
    have HP := hid hp
    have HL := hid hl
    have hl5 : l.length ≤ 4194300 := by have := HM.out j; omega
    clear hp hl
    by_cases hlt : j < ops.length
    · obtain ⟨o, ho⟩ : ∃ o, ops[j]? = some o := ⟨_, List.getElem?_eq_getElem hlt⟩
      obtain ⟨b, off, rfl⟩ : ∃ b off, A = some ⟨b, off, none⟩ := by
        obtain ⟨A', c', ys, e1, _, _, _, h4⟩ := HS.out
        injection e1 with e1
        obtain ⟨b, off, eA, _⟩ := h4 (by omega)
        exact ⟨b, off, e1.trans eA⟩
      obtain ⟨ov, hr, hov⟩ := op_at HS.out j o ho
      have HB : Hid (Below w.heap.size w wr) := hid (HP.out.fr.to_below (fun k hk hh => hh hk) (Nat.le_refl _))
      have HRW := hid (cells_at hr)
      have HOV := hid hov
      obtain ⟨⟨n0, n1⟩, s0, l0⟩ := HOP.out j o ho
      have HN := hid (m_take ops j o ho)
      have c0 := (HRW.out wr HB.out).1
      have c1 := (HRW.out wr HB.out).2.1
      have c2 := (HRW.out wr HB.out).2.2.1
      have c3 := (HRW.out wr HB.out).2.2.2.1
      have c4 := (HRW.out wr HB.out).2.2.2.2
      clear hov ho hr
      go_wp2_with (fail)
      refine (put_op _ w wr gw gv gb n e l o ov n0 n1 HOV.out (fun h0 k hk => sl_lt HOV.out h0 k hk) l0 s0 (by omega) (by omega) HP.out).mono ?_
      rintro r w3 ⟨rfl, e', l', n', hp', hl', hn'⟩
      have HP3 := hid hp'
      have HL3 := hid hl'
      clear hp' hl' c0 c1 c2 c3 c4
      go_wp2_with (fail)
      refine (PWs.kept HP3.out (by omega)).mono ?_
      rintro r w' ⟨rfl, hw⟩
      replace hw := hw.symm
      subst hw
      go_wp2
      go_roundw
      case rel => exact ⟨j + 1, n', e', l', by omega, by go_num, HP3.out, by omega, by have h1 := HL.out; have h2 := HL3.out; rw [HN.out]; omega⟩
      case measure => simp [intOf]; omega
    · have hge := hlt
      go_wp2_with (fail)
      refine (Size_z z z1 wr).mono ?_
      rintro r w3 ⟨rfl, hb⟩
      have HP3 := hid (HP.out.below (AW.stab _ _ _) (AV.stab _ _ _) hb)
      clear hb HP
      go_wp2_with (fail)
      refine (vSize_z z z1 w3).mono ?_
      rintro r w4 ⟨rfl, hb⟩
      have HP4 := hid (HP3.out.below (AW.stab _ _ _) (AV.stab _ _ _) hb)
      clear hb HP3
      go_wp2_with (fail)
      refine (put_end _ w w4 gw gv gb n e l 0 0 [] ⟨#[]⟩ (.slice none 0 0) (by omega) (by omega) HP4.out).mono ?_
      rintro r w5 ⟨rfl, e5, l5, n5, hp5, hl5', hn5⟩
      have HP5 := hid hp5
      rw [show POp.m ⟨6, 0, 0, [], ⟨#[]⟩⟩ = 3 by rfl] at hl5'
      clear hp5 HP4
      go_wp2_with (fail)
      refine (put_end _ w w5 gw gv gb n5 e5 l5 0 0 [] ⟨#[]⟩ (.slice none 0 0) (by omega) (by omega) HP5.out).mono ?_
      rintro r w6 ⟨rfl, e6, l6, n6, hp6, hl6', hn6⟩
      have HP6 := hid hp6
      clear hp6 HP5
      go_wp2_with (fail)
      refine (PWs.kept HP6.out (by omega)).mono ?_
      rintro r w' ⟨rfl, hw⟩
      replace hw := hw.symm
      subst hw
      go_wp2
      go_ret
      exact ⟨rfl, HP6.out.fr.to_below (fun k hk hh => hh hk) (Nat.le_refl _)⟩
end Go.Proofs.Ytamhlfhblgmhoaa
