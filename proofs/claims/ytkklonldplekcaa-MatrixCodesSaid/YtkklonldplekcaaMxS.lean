/- The helpers of the matrix laws: made, column. -/
import Derived.Test.YtkklonldplekcaaMxR
namespace Go.Proofs.Ytkklonldplekcaa
open Go.RowKit
section
variable {B : Nat} {w0 w w' : World} {ts : List Thing} {R c n : Nat} {vs : List Value} {M : List (List UInt8)}
/-- a byte of a row is stored -/
theorem Fam.gridByte (h : Fam B w0 w (ts ++ gridT (.slice (some ⟨R, 0, none⟩) n c) vs M)) (hl : vs.length = M.length) {i g m k : Nat} {L : List UInt8} (hi : i < M.length) (hv : vs.getD i (.slice none 0 0) = .slice (some ⟨g, 0, none⟩) m k) (hL : M.getD i [] = L) (j : Nat) (b : UInt8) : Fam B w0 (w.setCell ⟨g, j, none⟩ (Go.Proofs.Ytkklonldplekcaa.B b)) (ts ++ gridT (.slice (some ⟨R, 0, none⟩) n c) vs (M.set i (L.set j b))) := by
  have gi : (ts ++ gridT (.slice (some ⟨R, 0, none⟩) n c) vs M)[ts.length + (i + 1)]? = some (rowT (.slice (some ⟨g, 0, none⟩) m k) L) := by rw [get_at, grid_at hl hi, hv, hL]
  obtain ⟨S, hS, _, kk⟩ := h.call gi
  have h2 := kk (rowT (.slice (some ⟨g, 0, none⟩) m k) (L.set j b)) (w.setCell ⟨g, j, none⟩ (Go.Proofs.Ytkklonldplekcaa.B b)) ⟨hS.1.set_ j b, fun x hx => .inl (hS.2 x hx)⟩ ((Fr.set_ (g := g) j _).mono fun x _ e => hS.2 x (by rw [e]; rfl))
  rw [set_at, ← hv, grid_set hl hi] at h2
  exact h2
end
/-- rows below k are filled with the cells, row by row -/
def Md (C : List UInt8) (rows cols k : Nat) (T : List (List UInt8)) : Prop := T.length = rows ∧ ∀ a, a < k → (T.getD a []).length = cols ∧ ∀ b, b < cols → ent T a b = C.getD (a * cols + b) 0
/-- row k is filled up to j -/
def Md2 (C : List UInt8) (rows cols k j : Nat) (T : List (List UInt8)) : Prop := Md C rows cols k T ∧ (T.getD k []).length = cols ∧ ∀ b, b < cols → ent T k b = if b < j then C.getD (k * cols + b) 0 else 0
theorem Md.blank {C : List UInt8} {rows cols k : Nat} {T : List (List UInt8)} (h : Md C rows cols k T) (hk : k < rows) : Md2 C rows cols k 0 (T.set k (List.replicate cols 0)) := by
  obtain ⟨h1, h2⟩ := h
  have e : ∀ a, (T.set k (List.replicate cols 0)).getD a [] = if a = k then List.replicate cols 0 else T.getD a [] := fun a => getD_set _ _ _ _ (by omega)
  refine ⟨⟨by simpa using h1, fun a ha => ?_⟩, ?_, fun b hb => ?_⟩
  · unfold ent
    rw [e, if_neg (by omega)]
    exact h2 a ha
  · rw [e, if_pos rfl]; simp
  · unfold ent
    rw [e, if_pos rfl, if_neg (by omega), List.getD_eq_getElem?_getD, List.getElem?_replicate, if_pos hb]; rfl
theorem Md2.byte {C : List UInt8} {rows cols k j : Nat} {T : List (List UInt8)} (h : Md2 C rows cols k j T) (hk : k < rows) (hj : j < cols) : Md2 C rows cols k (j + 1) (T.set k ((T.getD k []).set j (C.getD (k * cols + j) 0))) := by
  obtain ⟨⟨h1, h2⟩, h3, h4⟩ := h
  have e := ent_byte (M := T) (i := k) (j := j) (L := T.getD k []) (b := C.getD (k * cols + j) 0) (by omega) rfl (by omega)
  refine ⟨⟨by simpa using h1, fun a ha => ?_⟩, ?_, fun b hb => ?_⟩
  · rw [getD_set _ _ _ _ (by omega), if_neg (by omega), e]
    refine ⟨(h2 a ha).1, fun b hb => ?_⟩
    show (if a = k ∧ b = j then _ else ent T a b) = _
    rw [if_neg (by omega)]
    exact (h2 a ha).2 b hb
  · rw [getD_set _ _ _ _ (by omega), if_pos rfl, List.length_set]; exact h3
  · rw [e]
    show (if k = k ∧ b = j then _ else ent T k b) = _
    by_cases hbj : b = j
    · rw [if_pos ⟨rfl, hbj⟩, if_pos (by omega), hbj]
    · rw [if_neg (fun h => hbj h.2), h4 b hb]
      by_cases h5 : b < j
      · rw [if_pos h5, if_pos (by omega)]
      · rw [if_neg h5, if_neg (by omega)]
theorem Md2.keep {C : List UInt8} {rows cols k j : Nat} {T : List (List UInt8)} (h : Md2 C rows cols k j T) (hj : C.length ≤ k * cols + j) : Md2 C rows cols k (j + 1) T := by
  obtain ⟨h1, h3, h4⟩ := h
  refine ⟨h1, h3, fun b hb => ?_⟩
  rw [h4 b hb]
  by_cases h5 : b < j
  · rw [if_pos h5, if_pos (by omega)]
  · rw [if_neg h5]
    by_cases h6 : b < j + 1
    · rw [if_pos h6, getD_out _ _ (by rw [show b = j by omega]; exact hj)]
    · rw [if_neg h6]
theorem Md2.done {C : List UInt8} {rows cols k j : Nat} {T : List (List UInt8)} (h : Md2 C rows cols k j T) (hj : cols ≤ j) : Md C rows cols (k + 1) T := by
  obtain ⟨⟨h1, h2⟩, h3, h4⟩ := h
  refine ⟨h1, fun a ha => ?_⟩
  by_cases e : a = k
  · rw [e]
    exact ⟨h3, fun b hb => by rw [h4 b hb, if_pos (by omega)]⟩
  · exact h2 a (by omega)
/-- the matrix that is made -/
def Made (C : List UInt8) (rows cols : Nat) (w : World) (e : Ending) (w' : World) : Prop := ∃ m T, e = .returned (.pointer (some ⟨m, 0, none⟩)) ∧ MatAt w' m 0x1d T cols ∧ T.length = rows ∧ (∀ a b, a < rows → b < cols → ent T a b = C.getD (a * cols + b) 0) ∧ Below w.heap.size w w'
set_option maxRecDepth 100000 in
set_option maxHeartbeats 8000000 in
theorem made_any (w : World) (rows cols : Nat) (u : Value) (C : List UInt8) (hu : SlB w u C) (hr : 0 < rows ∧ rows ≤ 16) (hc : 0 < cols ∧ cols ≤ 16) :
    Calls Try.prog 16 #[.int .i64 rows, .int .i64 cols, u] w (Made C rows cols w) := by
  obtain ⟨Au, cu, rfl⟩ := hu.form
  have HU := hid hu
  obtain ⟨hr1, hr2⟩ := hr
  obtain ⟨hc1, hc2⟩ := hc
  obtain ⟨w1, hmk, ho1, hb1⟩ := make_rows w rows (by omega)
  have hf1 := (Fam.nils ((Fam.start w).add (t := ownT 22 1 (.slice (some ⟨w.heap.size, 0, none⟩) rows rows) rows (List.replicate rows (.slice none 0 0))) hb1 ⟨own_base ho1 (Nat.zero_le _), fun j hj => World.ownsRow.lt ho1 j hj⟩) rows)
  obtain ⟨R, hR⟩ : ∃ R, w.heap.size = R := ⟨_, rfl⟩
  rw [hR] at hmk hf1
  have HF1 : Hid (Fam R w w1 ([] ++ gridT (.slice (some ⟨R, 0, none⟩) rows rows) (List.replicate rows (.slice none 0 0)) (List.replicate rows []))) := hid (by unfold gridT; rw [List.length_replicate]; exact hf1)
  have HR := hid hR
  clear hu ho1 hb1 hf1 hR
  go_enter Try.func16, Try.ntmps16
  go_wp2
  clear hmk
  go_loopw [8, 9, 16] (fun _ _ x wr => ∃ (k : Nat) (vs : List Value) (T : List (List UInt8)), k ≤ rows ∧ x = .int .i64 k ∧ vs.length = rows ∧ Md C rows cols k T ∧ Fam R w wr ([] ++ gridT (.slice (some ⟨R, 0, none⟩) rows rows) vs T)) (fun _ _ x _ => rows - (intOf x).toNat)
  case atStart => exact ⟨0, _, _, Nat.zero_le _, rfl, by simp, ⟨by simp, fun a ha => by omega⟩, HF1.out⟩
  case round =>
    clear HF1
    obtain ⟨wo, rfl⟩ : ∃ wo : World, wo = wr := ⟨_, rfl⟩
    obtain ⟨k, vs, T, hk, rfl, hvl, hT, hf⟩ := hrel
    have HVL := hid hvl
    have HT := hid hT
    have HF := hid hf
    clear hvl hT hf
    by_cases hlt : k < rows
    · obtain ⟨w3, hmk, ho3, hb3⟩ := make_bytes wo cols (by omega)
      have HF3 := hid (HF.out.add (t := rowT (.slice (some ⟨wo.heap.size, 0, none⟩) cols cols) (List.replicate cols 0)) hb3 ⟨own_base ho3 (Nat.zero_le _), fun j hj => World.ownsRow.lt ho3 j hj⟩)
      obtain ⟨g, hg⟩ : ∃ g, wo.heap.size = g := ⟨_, rfl⟩
      rw [hg] at hmk HF3
      obtain ⟨z0, f0⟩ := HF3.out.back.gridVal HT.out.1.symm (by rw [HVL.out, HT.out.1]) k (by have := HT.out.1; omega)
      have H4 := hid (HF3.out.gridPut HT.out.1.symm (by rw [HVL.out, HT.out.1]) k (by have := HT.out.1; omega))
      have HM := hid (HT.out.blank hlt)
      generalize vs.getD k (.slice none 0 0) = vk at z0
      have i0 : (0 : Int) ≤ (k : Int) := by omega
      have i1 : (k : Int) < (rows : Int) := by omega
      clear ho3 hb3 hg HF3
      go_upto_region 6 with (fail)
      clear z0 f0 hmk
      generalize w3.setCell ⟨R, k, none⟩ (.slice (some ⟨g, 0, none⟩) cols cols) = w4 at *
      obtain ⟨vs4, hvs4⟩ : ∃ vs4, vs.set k (.slice (some ⟨g, 0, none⟩) cols cols) = vs4 := ⟨_, rfl⟩
      have HV4 : Hid (vs4.length = rows ∧ vs4.getD k (.slice none 0 0) = .slice (some ⟨g, 0, none⟩) cols cols) := hid (by
        rw [← hvs4]
        refine ⟨by rw [List.length_set]; exact HVL.out, ?_⟩
        rw [List.getD_eq_getElem?_getD, List.getElem?_set, if_pos rfl, if_pos (by have := HVL.out; omega)]; rfl)
      rw [hvs4] at H4
      clear hvs4 HVL HT HF
      have y0 := (H4.out.gridVal (by have := HM.out.1.1; omega) (by rw [HV4.out.1, HM.out.1.1]) k (by rw [HM.out.1.1]; exact hlt)).1
      rw [HV4.out.2] at y0
      go_wp2
      clear y0
      go_loopw [9, 29] (fun _ x wr => ∃ (j : Nat) (T : List (List UInt8)), j ≤ cols ∧ x = .int .i64 j ∧ Md2 C rows cols k j T ∧ Fam R w wr ([] ++ gridT (.slice (some ⟨R, 0, none⟩) rows rows) vs4 T)) (fun _ x _ => cols - (intOf x).toNat)
      case atStart => exact ⟨0, _, Nat.zero_le _, rfl, HM.out, H4.out⟩
      case round =>
        clear H4 HM T
        obtain ⟨j, T, hj, rfl, hT, hf⟩ := hrel
        have HT := hid hT
        have HF := hid hf
        clear hT hf
        by_cases hjl : j < cols
        · have hkc : k * cols ≤ 16 * 16 := Nat.mul_le_mul (by omega) (by omega)
          obtain ⟨kc, hkce⟩ : ∃ kc : Nat, k * cols = kc := ⟨_, rfl⟩
          rw [hkce] at hkc
          have hcast : (k : Int) * (cols : Int) = (kc : Int) := by rw [← hkce]; simp
          have HKC := hid hkce
          have i2 : (0 : Int) ≤ (j : Int) := by omega
          have i3 : (j : Int) < (cols : Int) := by omega
          clear hkce
          by_cases hin : kc + j < C.length
          · obtain ⟨bu, ou, rfl, hbytes⟩ := (HU.out.below (by rw [HR.out]; exact HF.out.base)).cells (by omega)
            have x0 := hbytes (kc + j) hin
            obtain ⟨b, hb⟩ : ∃ b, C.getD (kc + j) 0 = b := ⟨_, rfl⟩
            rw [hb] at x0
            obtain ⟨y0, _⟩ := HF.out.gridVal HT.out.1.1.symm (by rw [HV4.out.1, HT.out.1.1]) k (by rw [HT.out.1.1]; exact hlt)
            have oi := HF.out.gridOwn (by rw [HV4.out.1, HT.out.1.1]) k (by rw [HT.out.1.1]; exact hlt)
            rw [HV4.out.2] at y0 oi
            obtain ⟨z0, f0⟩ := oi.at_ j (by rw [HT.out.2.1]; exact hjl)
            generalize ((T.getD k []).getD j 0) = zb at z0
            have R1' := hid ((HF.out.below (Below.refl wr.heap.size wr).drew).gridByte (by rw [HV4.out.1, HT.out.1.1]) (by rw [HT.out.1.1]; exact hlt) HV4.out.2 rfl j b)
            have R2' : Hid (Md2 C rows cols k (j + 1) (T.set k ((T.getD k []).set j b))) := hid (by have := HT.out.byte hlt hjl; rw [HKC.out, hb] at this; exact this)
            have i6 : (kc : Int) + (j : Int) < (C.length : Int) := by omega
            clear hb oi hbytes
            go_upto_region 10 with (fail)
            obtain ⟨p, hp⟩ : ∃ p : Nat, kc + j = p := ⟨_, rfl⟩
            rw [hp] at x0
            have hw1 : IntKind.i64.wrap ((k : Int) * (cols : Int)) = (kc : Int) := by rw [hcast, IntKind.wrap_i64]; omega
            have hw2 : IntKind.i64.wrap ((kc : Int) + (j : Int)) = (p : Int) := by rw [IntKind.wrap_i64]; omega
            have i4 : (0 : Int) ≤ (p : Int) := by omega
            have i5 : (p : Int) < (C.length : Int) := by omega
            clear hp hcast
            go_still_tail 14, (by kernel_rfl)
            change wpList _ _ _ _ _ wr.drew
            have z2 : wr.drew.cell? ⟨g, j, none⟩ = some (Go.Proofs.Ytkklonldplekcaa.B zb) := z0
            have f2 : wr.drew.frozen? ⟨g, j, none⟩ = false := f0
            clear y0 x0 z0 f0 hw1 hw2
            go_wp2
            go_roundw
            case rel => exact ⟨j + 1, _, by omega, by go_num, R2'.out, R1'.out⟩
            case measure => simp [intOf]; omega
          · have R2' := hid (HT.out.keep (by rw [HKC.out]; omega))
            have i6 : ¬ (kc : Int) + (j : Int) < (C.length : Int) := by omega
            go_wp2
            go_roundw
            case rel => exact ⟨j + 1, _, by omega, by go_num, R2'.out, HF.out⟩
            case measure => simp [intOf]; omega
        · have R2' := hid (HT.out.done (by omega))
          go_wp2
          go_roundw
          case rel => exact ⟨k + 1, vs4, T, by omega, by go_num, HV4.out.1, R2'.out, HF.out⟩
          case measure => simp [intOf]; omega
    · obtain rfl : k = rows := by omega
      have HB : Hid (Below w.heap.size w wo) := hid (by rw [HR.out]; exact HF.out.base)
      have hSL := HF.out.slBB HT.out.1.symm (by rw [HVL.out, HT.out.1])
      have HSL := hid hSL
      clear hSL
      go_wp2_with fail
      refine (Std_any wo).mono ?_
      rintro e w5 ⟨fg, rfl, -, hF, hb5⟩
      have CN := hid (New_any w5 fg 0x1d hF (.slice (some ⟨R, 0, none⟩) k k) T cols (HSL.out.below hb5) ⟨by have := HT.out.1; omega, by have := HT.out.1; omega⟩ (fun i hi => (HT.out.2 i (by have := HT.out.1; omega)).1) ⟨hc1, by omega⟩)
      have HB5 := hid hb5
      clear hF hb5
      go_wp2_with fail
      refine CN.out.mono ?_
      rintro e w6 ⟨m, rfl, hm, hb6⟩
      have HE : Hid (Made C k cols w (.returned (.pointer (some ⟨m, 0, none⟩))) w6) := hid ⟨m, T, rfl, hm, HT.out.1, fun a b ha hb => (HT.out.2 a ha).2 b hb, below_then (below_then HB.out HB5.out) hb6⟩
      clear CN hm hb6
      go_wp2
      go_ret
      exact HE.out
/-- the builtin copy of bytes to the head of an owned row, of as many as it holds -/
theorem wpList_copyT {w : World} {ops : Array Oper} {rest : List Oper} {o : Oper} {a : Act} {Q : Exit → Act → World → Prop} (hgd : o.guard = none) (d s : Operand)
    (ho : o.op = .call { callee := .builtin .copy, args := #[d, s], argTypes := #[22, 22] }) (v u : Value) (L V : List UInt8) (hd : a.eval d = v) (hs : a.eval s = u) (hv : OwnB w 0 v L) (hu : SlB w u V)
    (h : ∀ w', OwnB w' 0 v (V.take L.length ++ L.drop V.length) → Fr (fun k => v.ownBlock = some k) w w' → wpList Try.prog ops Q rest (a.put o.dst (goInt (V.take L.length).length)) w') : wpList Try.prog ops Q (o :: rest) a w := by
  obtain ⟨A2, c2, rfl⟩ := hu.form
  by_cases h0 : (V.take L.length).length = 0
  · obtain ⟨A, c, rfl⟩ := hv.form
    have h1 : Nat.min V.length L.length = 0 := by rw [List.length_take, Nat.min_comm] at h0; exact h0
    refine wpList_copy_nothing hgd d s 22 22 ho 5 Try.underlying22 (by kernel_rfl) A A2 L.length c V.length c2 hd hs h1 ?_
    have := h w (by
      rw [List.eq_nil_of_length_eq_zero h0, List.nil_append]
      by_cases hV : V.length = 0
      · rw [hV, List.drop_zero]; exact hv
      · have h1 : min V.length L.length = 0 := h1
        have hL : L.length = 0 := by omega
        rw [List.eq_nil_of_length_eq_zero hL] at hv ⊢
        rw [List.drop_nil]; exact hv) (Fr.refl _ _)
    rw [h0] at this
    exact this
  · have hK0 : 0 < (V.take L.length).length := by omega
    have hV0 : 0 < (V.map B).length := by rw [List.length_map]; rw [List.length_take] at hK0; omega
    obtain ⟨ad, rfl, hsrc⟩ := sl_src hu hV0
    have hkl : (V.take L.length).length ≤ L.length := by rw [List.length_take]; omega
    have hkm : (V.take L.length).length = Nat.min V.length L.length := by rw [List.length_take, Nat.min_comm]
    have hdrop : L.drop V.length = L.drop (V.take L.length).length := by
      by_cases h1 : V.length ≤ L.length
      · rw [List.take_of_length_le h1]
      · rw [List.drop_of_length_le (by omega), List.drop_of_length_le (by rw [List.length_take]; omega)]
    have hsrc2 : ∀ (j : Nat) (v : Value), ((V.take L.length).map B)[j]? = some v → w.cell? (ad.add j) = some v := fun j v hj => hsrc j v (by
      rw [List.map_take, List.getElem?_take] at hj
      split at hj
      · exact hj
      · cases hj)
    rw [hdrop] at h
    generalize V.take L.length = K1 at *
    obtain ⟨hx, ⟨_, e0⟩ | ⟨g, cap, cur, rfl, hb, hg, hnc, hcm, hcs, htk⟩⟩ := hv
    · omega
    · rw [Nat.mul_one] at hcs htk
      have hcl : cur.toList.length = cur.size := Array.length_toList
      have e1 : (K1 ++ L.drop K1.length).length = L.length := by rw [List.length_append, List.length_drop]; omega
      refine wpList_copy_own hgd d s 22 22 ho 5 Try.underlying22 (by kernel_rfl) g 0 L.length cap ad V.length c2 hd hs cur 5 hg (K1.map B) (by rw [List.length_map]; exact hkm) hsrc2 (by rw [List.length_map]; omega) (mapB_one _) ?_
      rw [List.length_map]
      refine h _ ⟨?_, .inr ⟨g, cap, _, ?_, hb, setRow_heap w g cur _ 5 (0, 0) hg, ?_, hcm, ?_, ?_⟩⟩ ⟨rfl, rfl, rfl, by simp [World.setRow], fun k hk hne => setRow_other w g k _ (fun e => hne (by rw [e]; rfl))⟩
      · simp
      · rw [e1]
      · rw [e1]; exact hnc
      · rw [List.size_toArray, List.take_zero, List.nil_append, List.length_append, List.length_map, List.length_drop]
        omega
      · rw [e1, List.take_zero, List.nil_append, Nat.zero_add, Nat.mul_one, List.map_append, List.map_drop, ← htk]
        rw [show ∀ l : List Value, l.toArray.toList = l from fun _ => rfl, List.take_append, List.length_map, List.take_of_length_le (by rw [List.length_map]; exact hkl), List.drop_take]
/-- as many bytes of a list, zeros behind it -/
def colOf (V : List UInt8) (n : Nat) : List UInt8 := V.take n ++ List.replicate (n - V.length) 0
theorem colOf_length (V : List UInt8) (n : Nat) : (colOf V n).length = n := by simp [colOf]; omega
set_option maxRecDepth 100000 in
set_option maxHeartbeats 1000000 in
theorem column_any (w : World) (u : Value) (V : List UInt8) (hu : SlB w u V) (n : Nat) (hn : n ≤ 1024) :
    Calls Try.prog 27 #[u, .int .i64 n] w fun e w' => ∃ v, e = .returned v ∧ OwnB w' w.heap.size v (colOf V n) ∧ Below w.heap.size w w' := by
  obtain ⟨Au, cu, rfl⟩ := hu.form
  have HU := hid hu
  obtain ⟨w1, hmk, ho1, hb1⟩ := make_bytes w n (by omega)
  obtain ⟨g, hg⟩ : ∃ g, w.heap.size = g := ⟨_, rfl⟩
  rw [hg] at hmk ho1 hb1 ⊢
  have HO1 := hid ho1
  have HB1 := hid hb1
  have HG := hid hg
  have HO1z : Hid (OwnB w1 0 (.slice (some ⟨g, 0, none⟩) n n) (List.replicate n 0)) := hid (own_base ho1 (Nat.zero_le _))
  have HU1 := hid (hu.below (by rw [hg]; exact hb1))
  clear hu ho1 hb1 hg
  go_enter Try.func27, Try.ntmps27
  go_upto_region 2 with (fail)
  go_wp2_with (with_reducible show wpList _ _ _ (⟨some 10, _, _, _, _, _⟩ :: _) _ _; (refine wpList_copyT rfl (.tmp 8) (.tmp 9) rfl (.slice (some ⟨g, 0, none⟩) n n) (.slice Au V.length cu) (List.replicate n 0) V rfl rfl HO1z.out HU1.out ?_; intro w2 ho2 hf2; have HO2 := hid ho2; have HF2 := hid hf2; clear ho2 hf2))
  have HE : Hid (OwnB w2 g (.slice (some ⟨g, 0, none⟩) n n) (colOf V n) ∧ Below g w w2) := hid (by
    have h1 := HO2.out
    rw [List.length_replicate, List.drop_replicate] at h1
    refine ⟨?_, HB1.out.trans (HF2.out.to_below (fun k hk e => by simp only [Value.ownBlock, Option.some.injEq] at e; omega) (by have := HB1.out.size; have := HG.out; omega))⟩
    have h2 : OwnB w2 0 (.slice (some ⟨g, 0, none⟩) n n) (colOf V n) := h1
    exact own_up h2 (Nat.le_refl _))
  clear hmk
  go_wp2
  go_ret
  exact ⟨_, rfl, HE.out⟩
end Go.Proofs.Ytkklonldplekcaa
