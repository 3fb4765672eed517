/- A new disk behind a script's acts. -/
import Derived.Test.YtcadacljacbipaaDkO
namespace Go.Proofs.Ytcadacljacbipaa
open Go.RowKit
theorem dop_at {w : World} {b off c n : Nat} {ops : List Dop} (h : SlR Dop.R 9 w (.slice (some ⟨b, off, none⟩) n c) ops) (i : Nat) (o : Dop) (hi : ops[i]? = some o) :
    ∃ v x y z, w.rangeAt b (off + i * 9) (o.vals v x y z) ∧ SlB w v o.data ∧ SlB w x o.sa ∧ SlB w y o.sb ∧ SlZ w z o.ch ∧ (-9223372036854775808 ≤ o.slot ∧ o.slot ≤ 9223372036854775807) ∧ (-9223372036854775808 ≤ o.n ∧ o.n ≤ 9223372036854775807) ∧ (-9223372036854775808 ≤ o.d ∧ o.d ≤ 9223372036854775807) := by
  obtain ⟨A, c', ys, e1, h1, h2, h3, h4⟩ := h
  injection e1 with e1 e2 e3
  have hil := (List.getElem?_eq_some_iff.1 hi).1
  obtain ⟨b', off', eA, hc⟩ := h4 (by omega)
  rw [← e1] at eA
  injection eA with eA
  injection eA with ea eb
  subst ea eb
  obtain ⟨_, ⟨v, x, y, z, hv, hs, hs2, hs3, hs4⟩, r1, r2, r3⟩ := h3 i o hi
  refine ⟨v, x, y, z, fun j u hj => ?_, hs, hs2, hs3, hs4, r1, r2, r3⟩
  have hj5 : j < 9 := (List.getElem?_eq_some_iff.1 hj).1
  have := hc i hil j hj5
  rw [hv, hj] at this
  rw [Nat.add_assoc]
  exact this
theorem mem_le_sum : ∀ (l : List Nat) (n : Nat), n ∈ l → n ≤ l.sum
  | [], n, h => by cases h
  | a :: l, n, h => by
    simp only [List.sum_cons]
    rcases List.mem_cons.1 h with rfl | h
    · omega
    · have := mem_le_sum l n h; omega
theorem wide_sl {w : World} {base g c : Nat} {l : List UInt8} (h : OwnB w base (.slice (some ⟨g, 0, none⟩) (l.length + 2) c) (l ++ [193, 194])) : SlB w (.slice (some ⟨g, 0, none⟩) l.length c) l := by
  have := OwnB.pre_ h l.length (by simp)
  rw [List.take_left] at this
  exact this.sl
/-- a call's word as it lies -/
def DW (b p : Nat) (o : Dop) (v x y z : Value) (W : World) : Prop :=
  W.cell? ⟨b, p, none⟩ = some (.int .i64 o.kind) ∧ W.cell? ⟨b, p + 1, none⟩ = some (.int .i64 o.d) ∧ W.cell? ⟨b, p + 2, none⟩ = some (.int .i64 o.slot) ∧ W.cell? ⟨b, p + 3, none⟩ = some v ∧ W.cell? ⟨b, p + 4, none⟩ = some (.int .i64 o.n) ∧ W.cell? ⟨b, p + 5, none⟩ = some (.bool o.done) ∧ W.cell? ⟨b, p + 6, none⟩ = some x ∧ W.cell? ⟨b, p + 7, none⟩ = some y ∧ W.cell? ⟨b, p + 8, none⟩ = some z
theorem dcells_at {w : World} {b p : Nat} {o : Dop} {v x y z : Value} (h : w.rangeAt b p (o.vals v x y z)) (W : World) (hb : Below w.heap.size w W) : DW b p o v x y z W := by
  have key : ∀ (j : Nat) (u : Value), (o.vals v x y z)[j]? = some u → W.cell? ⟨b, p + j, none⟩ = some u := fun j u hx =>
    (hb.cell (World.block_lt_of_cell? w _ (h j u hx))).trans (h j u hx)
  exact ⟨key 0 _ rfl, key 1 _ rfl, key 2 _ rfl, key 3 _ rfl, key 4 _ rfl, key 5 _ rfl, key 6 _ rfl, key 7 _ rfl, key 8 _ rfl⟩
theorem new_run_fits (ops : List Dop) (k : Nat) (hM : bytesD ops ≤ 1048576) (hlen : ops.length ≤ 1048576) (m : Nat) (hm : m ≤ 1048576) : (runD Dk.new (ops.take k)).fits m := by
  obtain ⟨h1, h2, _⟩ := runD_state Dk.new 0 0 new_mild rfl rfl (ops.take k)
  have h3 := bytesD_take ops k
  have h4 : (ops.take k).length ≤ ops.length := by simp; omega
  exact h1.fits (by omega) (by omega) (by omega)
theorem lawact_db (B : Nat) (w : World) (d : Nat) (D : Dk) (o : Dop) (v a b c dv : Value) (da : List UInt8) (hB : B ≤ w.heap.size) (h : DB B w d D) (hf : D.fits da.length) (hk : o.four) (hdv : SlB w dv da) :
    Calls Try.prog 28 #[.pointer (some ⟨d, 0, none⟩), .agg #[.int .i64 o.kind, .int .i64 o.d, .int .i64 o.slot, v, .int .i64 o.n, .bool o.done, a, b, c], dv] w fun e w' => e = .returned (.int .i64 (D.err o.slot (o.act da).wipes)) ∧ DB B w' d (D.step o.slot (o.act da)) ∧ Below B w w' := by
  obtain ⟨S, h1, h2⟩ := h
  refine (lawact_any w S d D o v a b c dv da h2 hf hk hdv).mono ?_
  rintro e w' ⟨rfl, h3⟩
  exact ⟨rfl, DB.of h1 hB h3⟩
set_option maxRecDepth 100000 in
set_option maxHeartbeats 8000000 in
theorem begun_any (sv : Value) (ops : List Dop) (w : World) (hS : SlR Dop.R 9 w sv ops) (hM : bytesD ops ≤ 1048576) (hlen : ops.length ≤ 1048576) :
    Calls Try.prog 17 #[sv] w fun e w' => ∃ d, e = .returned (.pointer (some ⟨d, 0, none⟩)) ∧ DB w.heap.size w' d (runD Dk.new ops) ∧ Below w.heap.size w w' := by
  have HS := hid hS
  obtain ⟨A, c, rfl, hlc⟩ : ∃ A c, sv = .slice A ops.length c ∧ ops.length ≤ c := by obtain ⟨A, c, _, e, h, _⟩ := hS; exact ⟨A, c, e, h⟩
  have HF := hid (fun k m hm => new_run_fits ops k hM hlen m hm)
  have HDL : Hid (∀ (i : Nat) (o : Dop), ops[i]? = some o → o.data.length ≤ 1048576) := hid fun i o hi => by
    have h1 : o.data.length ≤ bytesD ops := by
      unfold bytesD
      have : o.data.length ∈ ops.map fun o => o.data.length := List.mem_map.2 ⟨o, List.mem_of_getElem? hi, rfl⟩
      exact mem_le_sum _ _ this
    omega
  have HSZ : Hid (Try.prog.cellsOf 51 = 9) := hid (by kernel_rfl)
  clear hS hM
  go_enter Try.func17, Try.ntmps17
  go_wp2_with fail
  refine (New_any w).mono ?_
  rintro e w1 ⟨d, rfl, hb1, hd⟩
  have HD1 : Hid (DB w.heap.size w1 d Dk.new) := hid ⟨_, fun k hk => hk.1, hd⟩
  have HB1 := hid hb1
  clear hd hb1
  go_wp2
  go_loopw [4] (fun i wr => ∃ j : Nat, j ≤ ops.length ∧ i = .int .i64 j ∧ DB w.heap.size wr d (runD Dk.new (ops.take j)) ∧ Below w.heap.size w wr) (fun i _ => ops.length - (intOf i).toNat)
  case atStart => exact ⟨0, Nat.zero_le _, rfl, HD1.out, HB1.out⟩
  case round =>
    clear HD1 HB1
    obtain ⟨j, hj, rfl, hd, hb⟩ := hrel
    have HD := hid hd
    have HB := hid hb
    clear hd hb
    by_cases hlt : j < ops.length
    · obtain ⟨o, ho⟩ : ∃ o, ops[j]? = some o := ⟨_, List.getElem?_eq_getElem hlt⟩
      obtain ⟨b, off, rfl⟩ : ∃ b off, A = some ⟨b, off, none⟩ := by
        obtain ⟨A', c', ys, e1, _, _, _, h4⟩ := HS.out
        injection e1 with e1
        obtain ⟨b, off, eA, _⟩ := h4 (by omega)
        exact ⟨b, off, e1.trans eA⟩
      obtain ⟨ov, ox, oy, oz, hr, hov, _, _, _, _⟩ := dop_at HS.out j o ho
      have HRT := hid (runD_take Dk.new ops j hlt)
      rw [show ops[j] = o by rw [List.getElem?_eq_getElem hlt] at ho; injection ho] at HRT
      have hdl := HDL.out j o ho
      have HRW := hid (dcells_at hr)
      have HOV := hid hov
      clear hov hr ho
      by_cases hfour : o.fourB = true
      · rw [if_pos hfour] at HRT
        have h14 : o.four := by unfold Dop.fourB at hfour; simpa [Dop.four] using hfour
        have H14 := hid h14
        have hk1 : (1 : Int) ≤ o.kind := h14.1
        have hk2 : o.kind ≤ 4 := h14.2
        obtain ⟨c0, c1, c2, c3, c4, c5, c6, c7, c8⟩ := HRW.out wr HB.out
        have HF0 := hid (HF.out j o.data.length hdl)
        clear hfour h14
        have i0 : (0 : Int) ≤ (j : Int) := by omega
        have i1 : (j : Int) < (ops.length : Int) := by omega
        have HW0 := hid (HRW.out wr HB.out)
        go_wp2
        go_region_held3 (fun W => W.cell? ⟨b, off + j * 9, none⟩ = some (.int .i64 o.kind) ∧ W.cell? ⟨b, off + j * 9 + 1, none⟩ = some (.int .i64 o.d) ∧ W.cell? ⟨b, off + j * 9 + 2, none⟩ = some (.int .i64 o.slot) ∧ W.cell? ⟨b, off + j * 9 + 3, none⟩ = some ov ∧ W.cell? ⟨b, off + j * 9 + 4, none⟩ = some (.int .i64 o.n) ∧ W.cell? ⟨b, off + j * 9 + 5, none⟩ = some (.bool o.done) ∧ W.cell? ⟨b, off + j * 9 + 6, none⟩ = some ox ∧ W.cell? ⟨b, off + j * 9 + 7, none⟩ = some oy ∧ W.cell? ⟨b, off + j * 9 + 8, none⟩ = some oz)
          (first | assumption | exact HW0.out | exact HW2.out | exact HW3.out)
          (first
            | (go_at_call 10; refine (wide_any ov o.data _ (HOV.out.below (below_then HB.out (drew_below wr))) (by omega)).mono ?_; rintro e w2 ⟨g, cw, rfl, how, hcw, hbw⟩; have HB2 := hid (below_then (below_then HB.out (drew_below wr)) hbw); have HW2 := hid (HRW.out w2 HB2.out); have HD2 := hid ((HD.out.below (drew_below wr)).below hbw); have HSW := hid (wide_sl how); clear how hbw)
            | (go_at_call 28; refine (lawact_db w.heap.size w2 d _ o ov ox oy oz _ o.data HB2.out.size HD2.out HF0.out H14.out HSW.out).mono ?_; rintro e w3 ⟨rfl, hd3, hb3⟩; have HB3 := hid (HB2.out.trans hb3); have HW3 := hid (HRW.out w3 HB3.out); have HD3 := hid hd3; clear hd3 hb3))
        go_wp2
        go_roundw
        case rel => exact ⟨j + 1, by omega, by go_num, by rw [HRT.out]; exact HD3.out, HB3.out⟩
        case measure => simp [intOf]; omega
      · rw [if_neg hfour] at HRT
        obtain ⟨c0, c1, c2, c3, c4, c5, c6, c7, c8⟩ := HRW.out wr HB.out
        have hk : ¬ (1 ≤ o.kind ∧ o.kind ≤ 4) := fun h => hfour (by unfold Dop.fourB; simpa using h)
        rcases Int.lt_or_le o.kind 1 with hk1 | hk1
        case' inl => have hk2 : ¬ (1 ≤ o.kind) := by omega
        case' inr => have hk2 : 4 < o.kind := by omega
        all_goals
          clear hk hfour c1 c2 c3 c4 c5 c6 c7 c8
          go_wp2
          go_roundw
          case rel => exact ⟨j + 1, by omega, by go_num, by rw [HRT.out]; exact HD.out, HB.out⟩
          case measure => simp [intOf]; omega
    · obtain rfl : j = ops.length := by omega
      rw [List.take_length] at HD
      go_wp2
      go_ret
      exact ⟨d, rfl, HD.out, HB.out⟩
end Go.Proofs.Ytcadacljacbipaa
