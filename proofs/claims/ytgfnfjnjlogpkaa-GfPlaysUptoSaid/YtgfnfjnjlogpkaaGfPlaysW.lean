/- The walk of the law GfPlays. -/
import Derived.Test.YtgfnfjnjlogpkaaGfP10
namespace Go.Proofs.Ytgfnfjnjlogpkaa
open Go.RowKit
/-- the fields beside one another, as the loop finds them -/
structure GS (w W : World) (s t : Nat) (fg : Option (Nat × Nat × UInt8)) : Prop where
  b : Below w.heap.size w W
  s : FieldAt W s 0x1d
  t : RF W t 0x1d
  f : ∀ x, fg = some x → FieldAt W x.1 x.2.2 ∧ RF W x.2.1 x.2.2
theorem GS.below {w W W' : World} {s t : Nat} {fg : Option (Nat × Nat × UInt8)} (h : GS w W s t fg) (hb : Below W.heap.size W W') : GS w W' s t fg :=
  ⟨below_then h.b hb, h.s.below hb h.s.lt, h.t.below hb, fun x hx => ⟨(h.f x hx).1.below hb (h.f x hx).1.lt, (h.f x hx).2.below hb⟩⟩
theorem GS.fld {w W : World} {s t f g : Nat} {q : UInt8} (h : GS w W s t (some (f, g, q))) : FieldAt W f q ∧ RF W g q := h.f _ rfl
set_option maxRecDepth 100000 in
set_option maxHeartbeats 8000000 in
theorem GfPlays_out (n : Int) (hr : n < 256 ∨ 511 < n) (sv : Value) (ops : List Gop) (w : World) (hS : SlR Gop.R 6 w sv ops) (hM : (ops.map Gop.size).sum + 1 ≤ 1048576) (hlen : ops.length ≤ 1048576) :
    Calls Try.prog 8 #[.int .i64 n, sv] w fun e w' => e = .returned (.bool true) ∧ Below w.heap.size w w' := by
  have HS := hid hS
  obtain ⟨A, c, rfl, hlc⟩ : ∃ A c, sv = .slice A ops.length c ∧ ops.length ≤ c := by obtain ⟨A, c, _, e, h, _⟩ := hS; exact ⟨A, c, e, h⟩
  have HOP : Hid (∀ (i : Nat) (o : Gop), ops[i]? = some o → o.l.length + o.m.length + 2 ≤ 1048576) := hid fun i o hi => by
    have hm : o.l.length + o.m.length + 2 ≤ _ := size_le (List.mem_of_getElem? hi)
    omega
  clear hS hM
  have HSZ : Hid (Try.prog.cellsOf 57 = 6) := hid (by kernel_rfl)
  have HR := hid hr
  clear hr
  go_enter Try.func8, Try.ntmps8
  go_wp2_with fail
  refine (rNew_out n HR.out _).mono ?_
  rintro e w2 ⟨rfl, hw⟩
  replace hw := hw.symm
  subst hw
  go_wp2_with fail
  refine (New_out n HR.out _).mono ?_
  rintro e w2 ⟨rfl, hw⟩
  replace hw := hw.symm
  subst hw
  have HB2 := hid (Below.refl w.heap.size w)
  go_wp2_with fail
  refine (Std_any _).mono ?_
  rintro e w3 ⟨s, rfl, -, hs, hb3⟩
  have HS3 := hid hs
  have HB3 := hid hb3
  clear hs hb3
  go_wp2_with fail
  refine (rStd_any w3).mono ?_
  rintro e w4 ⟨rfl, ht, hb4⟩
  obtain ⟨t, htt⟩ : ∃ t, t = w3.heap.size := ⟨_, rfl⟩
  simp only [← htt] at ht ⊢
  have HG4 : Hid (GS w w4 s t none) := hid ⟨below_then (below_then HB2.out HB3.out) hb4, HS3.out.below hb4 HS3.out.lt, ht, (fun x hx => by cases hx)⟩
  clear ht hb4 htt
  have HPOLY := hid (Poly_any s 0x1d w4 HG4.out.s)
  go_wp2_with (go_at_call 16; refine Calls.mono (Poly_any s 0x1d _ HG4.out.s) ?_; rintro e w' ⟨rfl, hw⟩; replace hw := hw.symm; subst hw)
  clear HPOLY
  go_loopw [11] (fun i wr => ∃ j : Nat, j ≤ ops.length ∧ i = .int .i64 j ∧ GS w wr s t none) (fun i _ => ops.length - (intOf i).toNat)
  case atStart => exact ⟨0, Nat.zero_le _, rfl, HG4.out⟩
  case round =>
    obtain ⟨j, hj, rfl, hg⟩ := hrel
    have HG := hid hg
    clear hg
    by_cases hlt : j < ops.length
    · skip
      obtain ⟨o, ho⟩ : ∃ o, ops[j]? = some o := ⟨_, List.getElem?_eq_getElem hlt⟩
      obtain ⟨b, off, rfl⟩ : ∃ b off, A = some ⟨b, off, none⟩ := by
        obtain ⟨A', c', ys, e1, _, _, _, h4⟩ := HS.out
        injection e1 with e1
        obtain ⟨b, off, eA, _⟩ := h4 (by omega)
        exact ⟨b, off, e1.trans eA⟩
      obtain ⟨ov, ou, hr, hov, hou, n0, n1⟩ := gop_at HS.out j o ho
      have hsz := HOP.out j o ho
      have HRW := hid (gcells_at hr)
      have HOV := hid hov
      have HOU := hid hou
      obtain ⟨c0, c1, c2, c3, c4, c5⟩ := HRW.out wr HG.out.b
      clear hov hou hr ho
      go_wp2_with (fail)
      refine (step_any o.kind s t 0x1d o.a o.b o.n ov ou o.l o.m wr HG.out.s HG.out.t n0 n1 (HOV.out.below HG.out.b) (HOU.out.below HG.out.b) (by omega) (by omega)).mono ?_
      rintro r w3 ⟨rfl, hb3⟩
      have HG3 := hid (HG.out.below hb3)
      clear hb3 HG c0 c1 c2 c3 c4 c5
      obtain ⟨c0, c1, c2, c3, c4, c5⟩ := HRW.out w3 HG3.out.b
      go_wp2
      go_roundw
      case rel => exact ⟨j + 1, by omega, by go_num, HG3.out⟩
      case measure => simp [intOf]; omega
    · skip
      go_wp2_with fail
      refine (silent_any _).mono ?_
      rintro r w9 ⟨rfl, hb9⟩
      have HB9 := hid (below_then HG.out.b hb9)
      clear hb9
      go_wp2
      go_ret
      exact ⟨rfl, HB9.out⟩
set_option maxRecDepth 100000 in
set_option maxHeartbeats 8000000 in
theorem GfPlays_not (q : UInt8) (hq : ¬ Gf.Gen q) (sv : Value) (ops : List Gop) (w : World) (hS : SlR Gop.R 6 w sv ops) (hM : (ops.map Gop.size).sum + 1 ≤ 1048576) (hlen : ops.length ≤ 1048576) :
    Calls Try.prog 8 #[.int .i64 (256 + (q.toNat : Int)), sv] w fun e w' => e = .returned (.bool true) ∧ Below w.heap.size w w' := by
  have HS := hid hS
  obtain ⟨A, c, rfl, hlc⟩ : ∃ A c, sv = .slice A ops.length c ∧ ops.length ≤ c := by obtain ⟨A, c, _, e, h, _⟩ := hS; exact ⟨A, c, e, h⟩
  have HOP : Hid (∀ (i : Nat) (o : Gop), ops[i]? = some o → o.l.length + o.m.length + 2 ≤ 1048576) := hid fun i o hi => by
    have hm : o.l.length + o.m.length + 2 ≤ _ := size_le (List.mem_of_getElem? hi)
    omega
  clear hS hM
  have HSZ : Hid (Try.prog.cellsOf 57 = 6) := hid (by kernel_rfl)
  have HQ := hid hq
  clear hq
  go_enter Try.func8, Try.ntmps8
  go_wp2_with fail
  refine (rNew_not q HQ.out _).mono ?_
  rintro e w2 ⟨rfl, hw⟩
  replace hw := hw.symm
  subst hw
  go_wp2_with fail
  refine (New_not q HQ.out _).mono ?_
  rintro e w3 ⟨rfl, hb2⟩
  have HB2 := hid hb2
  clear hb2
  go_wp2_with fail
  refine (Std_any _).mono ?_
  rintro e w3 ⟨s, rfl, -, hs, hb3⟩
  have HS3 := hid hs
  have HB3 := hid hb3
  clear hs hb3
  go_wp2_with fail
  refine (rStd_any w3).mono ?_
  rintro e w4 ⟨rfl, ht, hb4⟩
  obtain ⟨t, htt⟩ : ∃ t, t = w3.heap.size := ⟨_, rfl⟩
  simp only [← htt] at ht ⊢
  have HG4 : Hid (GS w w4 s t none) := hid ⟨below_then (below_then HB2.out HB3.out) hb4, HS3.out.below hb4 HS3.out.lt, ht, (fun x hx => by cases hx)⟩
  clear ht hb4 htt
  have HPOLY := hid (Poly_any s 0x1d w4 HG4.out.s)
  go_wp2_with (go_at_call 16; refine Calls.mono (Poly_any s 0x1d _ HG4.out.s) ?_; rintro e w' ⟨rfl, hw⟩; replace hw := hw.symm; subst hw)
  clear HPOLY
  go_loopw [11] (fun i wr => ∃ j : Nat, j ≤ ops.length ∧ i = .int .i64 j ∧ GS w wr s t none) (fun i _ => ops.length - (intOf i).toNat)
  case atStart => exact ⟨0, Nat.zero_le _, rfl, HG4.out⟩
  case round =>
    obtain ⟨j, hj, rfl, hg⟩ := hrel
    have HG := hid hg
    clear hg
    by_cases hlt : j < ops.length
    · skip
      obtain ⟨o, ho⟩ : ∃ o, ops[j]? = some o := ⟨_, List.getElem?_eq_getElem hlt⟩
      obtain ⟨b, off, rfl⟩ : ∃ b off, A = some ⟨b, off, none⟩ := by
        obtain ⟨A', c', ys, e1, _, _, _, h4⟩ := HS.out
        injection e1 with e1
        obtain ⟨b, off, eA, _⟩ := h4 (by omega)
        exact ⟨b, off, e1.trans eA⟩
      obtain ⟨ov, ou, hr, hov, hou, n0, n1⟩ := gop_at HS.out j o ho
      have hsz := HOP.out j o ho
      have HRW := hid (gcells_at hr)
      have HOV := hid hov
      have HOU := hid hou
      obtain ⟨c0, c1, c2, c3, c4, c5⟩ := HRW.out wr HG.out.b
      clear hov hou hr ho
      go_wp2_with (fail)
      refine (step_any o.kind s t 0x1d o.a o.b o.n ov ou o.l o.m wr HG.out.s HG.out.t n0 n1 (HOV.out.below HG.out.b) (HOU.out.below HG.out.b) (by omega) (by omega)).mono ?_
      rintro r w3 ⟨rfl, hb3⟩
      have HG3 := hid (HG.out.below hb3)
      clear hb3 HG c0 c1 c2 c3 c4 c5
      obtain ⟨c0, c1, c2, c3, c4, c5⟩ := HRW.out w3 HG3.out.b
      go_wp2
      go_roundw
      case rel => exact ⟨j + 1, by omega, by go_num, HG3.out⟩
      case measure => simp [intOf]; omega
    · skip
      go_wp2_with fail
      refine (silent_any _).mono ?_
      rintro r w9 ⟨rfl, hb9⟩
      have HB9 := hid (below_then HG.out.b hb9)
      clear hb9
      go_wp2
      go_ret
      exact ⟨rfl, HB9.out⟩
theorem Poly_at {pv : Int} (g : Nat) (q : UInt8) (w : World) (h : FieldAt w g q) (hp : pv = 256 + (q.toNat : Int)) :
    Calls Try.prog 16 #[.pointer (some ⟨g, 0, none⟩)] w fun e w' => e = .returned (.int .i64 pv) ∧ w' = w := by
  subst hp; exact Poly_any g q w h
set_option maxRecDepth 100000 in
set_option maxHeartbeats 8000000 in
theorem GfPlays_gen (q : UInt8) (hq : Gf.Gen q) (sv : Value) (ops : List Gop) (w : World) (hS : SlR Gop.R 6 w sv ops) (hM : (ops.map Gop.size).sum + 1 ≤ 1048576) (hlen : ops.length ≤ 1048576) :
    Calls Try.prog 8 #[.int .i64 (256 + (q.toNat : Int)), sv] w fun e w' => e = .returned (.bool true) ∧ Below w.heap.size w w' := by
  have HS := hid hS
  obtain ⟨A, c, rfl, hlc⟩ : ∃ A c, sv = .slice A ops.length c ∧ ops.length ≤ c := by obtain ⟨A, c, _, e, h, _⟩ := hS; exact ⟨A, c, e, h⟩
  have HOP : Hid (∀ (i : Nat) (o : Gop), ops[i]? = some o → o.l.length + o.m.length + 2 ≤ 1048576) := hid fun i o hi => by
    have hm : o.l.length + o.m.length + 2 ≤ _ := size_le (List.mem_of_getElem? hi)
    omega
  clear hS hM
  have HSZ : Hid (Try.prog.cellsOf 57 = 6) := hid (by kernel_rfl)
  have HQ := hid hq
  clear hq
  obtain ⟨n, hn⟩ : ∃ n : Int, n = 256 + (q.toNat : Int) := ⟨_, rfl⟩
  have HN := hid hn
  have HNEW : Hid (Calls Try.prog 26 #[.int .i64 n] w fun e w' => ∃ g, e = .returned (.tuple #[.pointer (some ⟨g, 0, none⟩), .int .i64 0]) ∧ RF w' g q ∧ Below w.heap.size w w') := hid (by rw [hn]; exact (rNew_gen q HQ.out w).mono fun _ _ h => ⟨_, h⟩)
  rw [← hn]
  clear hn
  go_enter Try.func8, Try.ntmps8
  go_wp2_with fail
  refine (HNEW.out).mono ?_
  rintro e w1 ⟨g, rfl, hr, hb1⟩
  have HB1 := hid hb1
  have HR1 := hid hr
  clear hr hb1 HNEW
  go_wp2_with fail
  refine (New_at q HQ.out HN.out w1).mono ?_
  rintro e w2 ⟨f, rfl, -, hf, hb2⟩
  have HB2 := hid (below_then HB1.out hb2)
  have HF2 := hid hf
  have HR2 := hid (HR1.out.below hb2)
  clear hf hb2 HR1 HB1
  go_wp2_with fail
  refine (Std_any _).mono ?_
  rintro e w3 ⟨s, rfl, -, hs, hb3⟩
  have HS3 := hid hs
  have HB3 := hid hb3
  have HF3 := hid (HF2.out.below hb3 HF2.out.lt)
  have HR3 := hid (HR2.out.below hb3)
  clear hs hb3 HF2 HR2
  go_wp2_with fail
  refine (rStd_any w3).mono ?_
  rintro e w4 ⟨rfl, ht, hb4⟩
  obtain ⟨t, htt⟩ : ∃ t, t = w3.heap.size := ⟨_, rfl⟩
  simp only [← htt] at ht ⊢
  have HG4 : Hid (GS w w4 s t (some (f, g, q))) := hid ⟨below_then (below_then HB2.out HB3.out) hb4, HS3.out.below hb4 HS3.out.lt, ht, fun x hx => by injection hx with hx; subst hx; exact ⟨HF3.out.below hb4 HF3.out.lt, HR3.out.below hb4⟩⟩
  clear ht hb4 htt HS3 HB3 HF3 HR3 HB2
  go_wp2_with (go_at_call 16; refine Calls.mono (Poly_any s 0x1d _ HG4.out.s) ?_; rintro e w' ⟨rfl, hw⟩; replace hw := hw.symm; subst hw)
  go_loopw [11] (fun i wr => ∃ j : Nat, j ≤ ops.length ∧ i = .int .i64 j ∧ GS w wr s t (some (f, g, q))) (fun i _ => ops.length - (intOf i).toNat)
  case atStart => exact ⟨0, Nat.zero_le _, rfl, HG4.out⟩
  case round =>
    obtain ⟨j, hj, rfl, hg⟩ := hrel
    have HG := hid hg
    clear hg
    by_cases hlt : j < ops.length
    · skip
      obtain ⟨o, ho⟩ : ∃ o, ops[j]? = some o := ⟨_, List.getElem?_eq_getElem hlt⟩
      obtain ⟨b, off, rfl⟩ : ∃ b off, A = some ⟨b, off, none⟩ := by
        obtain ⟨A', c', ys, e1, _, _, _, h4⟩ := HS.out
        injection e1 with e1
        obtain ⟨b, off, eA, _⟩ := h4 (by omega)
        exact ⟨b, off, e1.trans eA⟩
      obtain ⟨ov, ou, hr, hov, hou, n0, n1⟩ := gop_at HS.out j o ho
      have hsz := HOP.out j o ho
      have HRW := hid (gcells_at hr)
      have HOV := hid hov
      have HOU := hid hou
      obtain ⟨c0, c1, c2, c3, c4, c5⟩ := HRW.out wr HG.out.b
      clear hov hou hr ho
      go_wp2_with (fail)
      refine (step_any o.kind s t 0x1d o.a o.b o.n ov ou o.l o.m wr HG.out.s HG.out.t n0 n1 (HOV.out.below HG.out.b) (HOU.out.below HG.out.b) (by omega) (by omega)).mono ?_
      rintro r w3 ⟨rfl, hb3⟩
      have HG3 := hid (HG.out.below hb3)
      clear hb3 HG c0 c1 c2 c3 c4 c5
      obtain ⟨c0, c1, c2, c3, c4, c5⟩ := HRW.out w3 HG3.out.b
      go_wp2_with fail
      refine (Poly_at f q w3 HG3.out.fld.1 HN.out).mono ?_
      rintro e w' ⟨rfl, hw⟩
      replace hw := hw.symm
      subst hw
      go_wp2_with fail
      refine (step_any o.kind f g q o.a o.b o.n ov ou o.l o.m w3 HG3.out.fld.1 HG3.out.fld.2 n0 n1 (HOV.out.below HG3.out.b) (HOU.out.below HG3.out.b) (by omega) (by omega)).mono ?_
      rintro r w5 ⟨rfl, hb5⟩
      have HG5 := hid (HG3.out.below hb5)
      clear hb5 HG3 c0 c1 c2 c3 c4 c5
      go_wp2
      go_roundw
      case rel => exact ⟨j + 1, by omega, by go_num, HG5.out⟩
      case measure => simp [intOf]; omega
    · skip
      go_wp2_with fail
      refine (silent_any _).mono ?_
      rintro r w9 ⟨rfl, hb9⟩
      have HB9 := hid (below_then HG.out.b hb9)
      clear hb9
      go_wp2
      go_ret
      exact ⟨rfl, HB9.out⟩
theorem GfPlays_walk (n : Int) (sv : Value) (ops : List Gop) (w : World) (hS : SlR Gop.R 6 w sv ops) (hM : (ops.map Gop.size).sum + 1 ≤ 1048576) (hlen : ops.length ≤ 1048576) :
    Calls Try.prog 8 #[.int .i64 n, sv] w fun e w' => e = .returned (.bool true) ∧ Below w.heap.size w w' := by
  by_cases hr : n < 256 ∨ 511 < n
  · exact GfPlays_out n hr sv ops w hS hM hlen
  obtain ⟨q, rfl⟩ : ∃ q : UInt8, n = 256 + (q.toNat : Int) := ⟨UInt8.ofNat (n - 256).toNat, by simp; omega⟩
  by_cases hq : Gf.Gen q
  · exact GfPlays_gen q hq sv ops w hS hM hlen
  · exact GfPlays_not q hq sv ops w hS hM hlen
end Go.Proofs.Ytgfnfjnjlogpkaa
