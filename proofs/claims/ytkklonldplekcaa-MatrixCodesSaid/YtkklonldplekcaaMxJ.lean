/- The walks of package matrix: New. -/
import Derived.Test.YtkklonldplekcaaMxH
namespace Go.Proofs.Ytkklonldplekcaa
open Go.RowKit
theorem SlBB.cells {w : World} {Rv : Value} {M : List (List UInt8)} {n : Nat} (h : SlBB w Rv M) (hpos : 0 < M.length) (hn : ∀ i, i < M.length → (M.getD i []).length = n) : ∃ R o c, Rv = .slice (some ⟨R, o, none⟩) M.length c ∧
    ∀ i, i < M.length → ∃ A k, w.cell? ⟨R, o + i, none⟩ = some (.slice A n k) ∧ SlB w (.slice A n k) (M.getD i []) := by
  obtain ⟨f, hsl, h3⟩ := h
  obtain ⟨A, c, rfl, hc, hnil, hA⟩ := hsl
  obtain ⟨R, o, rfl, hcell⟩ := hA hpos
  refine ⟨R, o, c, rfl, fun i hi => ?_⟩
  have hs := h3 i hi
  obtain ⟨A, k, e⟩ := hs.form
  rw [hn i hi] at e
  exact ⟨A, k, by rw [hcell i hi, e], by rw [← e]; exact hs⟩
/-- the box with the rows, and the rows of one length n -/
structure Bx1 (w : World) (rb R o r c n : Nat) : Prop where
  box : w.cell? ⟨rb, 0, none⟩ = some (.slice (some ⟨R, o, none⟩) r c)
  rows : ∀ i, i < r → ∃ A k, w.cell? ⟨R, o + i, none⟩ = some (.slice A n k)
  pos : 0 < r
theorem New1_any (w : World) (rb R o r c n : Nat) (h : Bx1 w rb R o r c n) (A : Option Addr) (k : Nat) : Calls Try.prog 75 #[.slice A n k, .pointer (some ⟨rb, 0, none⟩)] w fun e w' => e = .returned (.bool false) ∧ w' = w := by
  obtain ⟨b, rows, hpos⟩ := h
  obtain ⟨A0, k0, c0⟩ := rows 0 hpos
  rw [Nat.add_zero] at c0
  clear rows
  go_enter Try.func75, Try.ntmps75
  go_wp2
  go_ret
  exact ⟨by simp, rfl⟩
set_option maxHeartbeats 1000000 in
theorem IndexFunc_no (w : World) (rb R o r c n : Nat) (h : Bx1 w rb R o r c n) (hr : r ≤ 1099511627776) : Calls Try.prog 112 #[.slice (some ⟨R, o, none⟩) r c, .func (.func 75) #[] #[.pointer (some ⟨rb, 0, none⟩)]] w fun e w' => e = .returned (.int .i64 (-1)) ∧ w' = w := by
  have H := hid h
  have hcf : ∀ (args : Array Value) (w : World), (callFunc 75 args).run Try.prog w = .ok (.enter 75 args) w := fun _ _ => by kernel_rfl
  clear h
  go_enter Try.func112, Try.ntmps112
  go_wp2
  go_loop [5, 8] (fun _ x => ∃ k : Nat, k ≤ r ∧ x = .int .i64 k) (fun _ x => r - (intOf x).toNat)
  case atStart => exact ⟨0, Nat.zero_le _, rfl⟩
  case round =>
    obtain ⟨k, hk, rfl⟩ := hrel
    by_cases hlt : k < r
    · obtain ⟨A, q, c0⟩ := H.out.rows k hlt
      have i0 : (0 : Int) ≤ (k : Int) := by omega
      have i1 : (k : Int) < (r : Int) := by omega
      go_wp2_with fail
      refine (New1_any w rb R o r c n H.out A q).mono ?_
      rintro e w ⟨rfl, rfl⟩
      go_wp2
      go_round
      case rel => exact ⟨k + 1, by omega, by go_num⟩
      case measure => simp [intOf]; omega
    · go_wp2
      go_ret
      exact ⟨rfl, rfl⟩
theorem ContainsFunc_no (w : World) (rb R o r c n : Nat) (h : Bx1 w rb R o r c n) (hr : r ≤ 1099511627776) : Calls Try.prog 74 #[.slice (some ⟨R, o, none⟩) r c, .func (.func 75) #[] #[.pointer (some ⟨rb, 0, none⟩)]] w fun e w' => e = .returned (.bool false) ∧ w' = w := by
  have C := hid (IndexFunc_no w rb R o r c n h hr)
  clear h
  go_enter Try.func74, Try.ntmps74
  go_wp2_with fail
  refine C.out.mono ?_
  rintro e w ⟨rfl, rfl⟩
  go_wp2
  go_ret
  exact ⟨rfl, rfl⟩
theorem copied_row {B : Nat} {w0 w w' : World} {ts : List Thing} {fp : Option Addr} {m R r N k : Nat} {vs : List Value} {M Z : List (List UInt8)} {v : Value} {K L : List UInt8} (h : MB B w0 w ts fp m R r vs (upTo M Z k) N) (hk : k < r) (hv : vs.getD k (.slice none 0 0) = v) (hK : K.length = N) (hL : L.length = N) (hM : M.getD k [] = K) (hr : r = M.length) (hz : Z.length = M.length) (ho : OwnB w' 0 v (K ++ L.drop K.length)) (hf : Fr (fun k => v.ownBlock = some k) w w') : MB B w0 w' ts fp m R r vs (upTo M Z (k + 1)) N := by
  rw [List.drop_of_length_le (by omega), List.append_nil] at ho
  have := h.putRow hk hv hK ho hf
  rw [← hM, upTo_set (by omega) hz.symm] at this
  exact this
set_option maxRecDepth 100000 in
set_option maxHeartbeats 8000000 in
theorem New_any (w : World) (fg : Nat) (q : UInt8) (hF : FieldAt w fg q) (Rv : Value) (M : List (List UInt8)) (n : Nat) (hM : SlBB w Rv M) (hpos : 0 < M.length ∧ M.length ≤ 256) (hn : ∀ i, i < M.length → (M.getD i []).length = n) (hn0 : 0 < n ∧ n ≤ 256) :
    Calls Try.prog 32 #[.pointer (some ⟨fg, 0, none⟩), Rv] w fun e w' => ∃ m, e = .returned (.tuple #[.pointer (some ⟨m, 0, none⟩), .int .i64 0]) ∧ MatAt w' m q M n ∧ Below w.heap.size w w' := by
  have hmf : ∀ (fn : Fn) (first cap : Array Value) (w : World), (Instr.makeFunc fn first cap).run Try.prog w = .ok (.func fn first cap) w := fun _ _ _ _ => rfl
  obtain ⟨R, o, c, rfl, hrows⟩ := hM.cells hpos.1 hn
  obtain ⟨r, hr⟩ : ∃ r, M.length = r := ⟨_, rfl⟩
  rw [hr] at hrows hpos ⊢
  have HR := hid hr
  have HROWS := hid hrows
  have HFD := hid hF
  have HN := hid hn
  obtain ⟨hr0, hr1⟩ := hpos
  obtain ⟨hn1, hn2⟩ := hn0
  clear hM hrows hr hF hn
  go_enter Try.func32, Try.ntmps32
  go_upto_region 1 with (fail)
  obtain ⟨rb, hrb⟩ : ∃ rb, w.heap.size = rb := ⟨_, rfl⟩
  have HRB := hid hrb
  refine Code.seen (fun W => Bx1 W rb R o r c n ∧ Below w.heap.size w W ∧ Fam w.heap.size w W [blkT rb (.cells #[.slice (some ⟨R, o, none⟩) r c] 35 (0, 0))]) ?_ fun w1 H1 => ?_
  · rw [← hrb]
    have hb := (Below.refl w.heap.size w).alloc (Nat.le_refl _) (.cells #[.slice (some ⟨R, o, none⟩) r c] 35 (0, 0))
    exact ⟨⟨by rw [blk_cell (heap_alloc_new _ _)]; rfl, fun i hi => by obtain ⟨A, k, c0, _⟩ := HROWS.out i hi; exact ⟨A, k, (hb.cell (World.block_lt_of_cell? w _ c0)).trans c0⟩, hr0⟩, hb, (Fam.start w).new _⟩
  rw [hrb]
  have b0 := H1.out.1.box
  obtain ⟨A0, k0, c0⟩ := H1.out.1.rows 0 hr0
  rw [Nat.add_zero] at c0
  have z1 : ((r : Int) == 0) = false := by rw [beq_eq_false_iff_ne]; omega
  have z2 : ((n : Int) == 0) = false := by rw [beq_eq_false_iff_ne]; omega
  have z3 : (r : Int) ≤ 256 := by omega
  have z4 : (n : Int) ≤ 256 := by omega
  have z5 : (r == 0) = false := by rw [beq_eq_false_iff_ne]; omega
  have z6 : (n == 0) = false := by rw [beq_eq_false_iff_ne]; omega
  clear hrb
  go_upto_region 7 with (go_at_call 74; (with_reducible refine (ContainsFunc_no _ rb R o r c n H1.out.1 (by omega)).mono ?_); rintro e wz ⟨rfl, hwz⟩; have hwz := hwz.symm; subst hwz)
  have HW := hid (H1.out.2.2.below (Below.refl w1.heap.size w1).drew)
  clear H1
  go_still_tail 7, (by kernel_rfl)
  change wpList _ _ _ _ _ w1.drew
  clear b0 c0
  generalize w1.drew = w2 at *
  go_wp2_with fail
  refine (blank_mb w.heap.size w w2 [blkT rb (.cells #[.slice (some ⟨R, o, none⟩) r c] 35 (0, 0))] HW.out (some ⟨fg, 0, none⟩) r n (by omega) (by omega)).mono ?_
  rintro e w3 ⟨m, R1, vs, rfl, h3⟩
  have H3 := hid h3
  obtain ⟨Z, hZ⟩ : ∃ Z, List.replicate r (List.replicate n (0 : UInt8)) = Z := ⟨_, rfl⟩
  rw [hZ] at H3
  have HZ : Hid (Z.length = r ∧ ∀ i, i < r → (Z.getD i []).length = n) := hid (by
    rw [← hZ]
    refine ⟨by simp, fun i hi => ?_⟩
    rw [List.getD_eq_getElem?_getD, List.getElem?_replicate, if_pos hi]; simp)
  have H3u : Hid (MB w.heap.size w w3 [blkT rb (.cells #[.slice (some ⟨R, o, none⟩) r c] 35 (0, 0))] (some ⟨fg, 0, none⟩) m R1 r vs (upTo M Z 0) n) := hid (by rw [upTo_zero]; exact H3.out)
  clear h3 hZ
  have b0 : w3.cell? ⟨rb, 0, none⟩ = some (.slice (some ⟨R, o, none⟩) r c) := by rw [blk_cell (H3.out.fam.back.back.blkL (ts := []) 0 rfl)]; rfl
  clear H3
  go_wp2
  clear b0
  go_loopw [7, 8, 46] (fun _ _ x wr => ∃ k : Nat, k ≤ r ∧ x = .int .i64 k ∧ MB w.heap.size w wr [blkT rb (.cells #[.slice (some ⟨R, o, none⟩) r c] 35 (0, 0))] (some ⟨fg, 0, none⟩) m R1 r vs (upTo M Z k) n) (fun _ _ x _ => r - (intOf x).toNat)
  case atStart => exact ⟨0, Nat.zero_le _, rfl, H3u.out⟩
  case round =>
    clear H3u
    obtain ⟨k, hk, rfl, hm⟩ := hrel
    have HM := hid hm
    by_cases hlt : k < r
    · obtain ⟨A, kk, c0, hs⟩ := HROWS.out k hlt
      have c1 : wr.cell? ⟨R, o + k, none⟩ = some (.slice A n kk) := (hm.fam.base.cell (World.block_lt_of_cell? w _ c0)).trans c0
      have HS := hid (hs.below hm.fam.base)
      obtain ⟨y0, y1⟩ := hm.box
      obtain ⟨v, L, hv, hL, ci, fi, oi, li, gi⟩ := hm.row k hlt
      obtain ⟨Av, cv, rfl⟩ := oi.form
      have hML := HN.out k (by have := HR.out; omega)
      obtain ⟨K, hK⟩ : ∃ K, M.getD k [] = K := ⟨_, rfl⟩
      rw [hK] at HS hML
      have HK := hid hK
      have HKL := hid hML
      have HV := hid hv
      have HO := hid oi
      have HLI := hid li
      have i0 : (0 : Int) ≤ (k : Int) := by omega
      have i1 : (k : Int) < (r : Int) := by omega
      clear hm hs c0 hv hL fi oi li gi hML hK y0
      go_wp2_with (with_reducible show wpList _ _ _ (⟨some 59, _, _, _, _, _⟩ :: _) _ _; (refine wpList_copyB rfl (.tmp 57) (.tmp 58) rfl (.slice Av L.length cv) (.slice A n kk) L K rfl rfl HO.out HS.out (by rw [HKL.out, HLI.out]; exact Nat.le_refl _) ?_; intro w5 ho5 hf5; have H5 := hid (copied_row HM.out hlt HV.out HKL.out HLI.out HK.out (by have := HR.out; omega) (by have := HZ.out.1; have := HR.out; omega) ho5 hf5); clear ho5 hf5))
      clear ci c1 y1
      go_roundw
      case rel => exact ⟨k + 1, by omega, by go_num, H5.out⟩
      case measure => simp [intOf]; omega
    · have HE : Hid (MatAt wr m q M n ∧ Below w.heap.size w wr) := hid (by
        have e := upTo_all (A := M) (C := Z) (k := k) (by have := HZ.out.1; have := HR.out; omega) (by have := HR.out; omega)
        rw [e] at hm
        exact ⟨hm.done (HFD.out.next hm.fam.base) ⟨hr0, by omega⟩ ⟨hn1, by omega⟩, hm.fam.base⟩)
      clear hm
      go_wp2
      go_ret2
      exact ⟨m, rfl, HE.out.1, HE.out.2⟩
end Go.Proofs.Ytkklonldplekcaa
