/- The walk of the law CodeLinear. -/
import Derived.Test.YtkklonldplekcaaLwB
namespace Go.Proofs.Ytkklonldplekcaa
open Go.RowKit
/-- both lists of rows: the second is the data with a multiple of the first -/
def Two (f : UInt8) (D O T : List (List UInt8)) (s : Nat) : Prop := T.length = O.length ∧ (∀ i, i < O.length → (O.getD i []).length = s) ∧ (∀ i, i < O.length → (T.getD i []).length = s) ∧ ∀ i t, i < O.length → t < s → ent T i t = ent D i t ^^^ Gf.mul 0x1d f (ent O i t)
theorem Two.snoc {f : UInt8} {D O T : List (List UInt8)} {s : Nat} (h : Two f D O T s) {Y Z : List UInt8} (hY : Y.length = s) (hZ : Z.length = s) (he : ∀ t, t < s → Z.getD t 0 = ent D O.length t ^^^ Gf.mul 0x1d f (Y.getD t 0)) : Two f D (O ++ [Y]) (T ++ [Z]) s := by
  obtain ⟨h1, h2, h3, h4⟩ := h
  refine ⟨by simp [h1], rows_len_snoc h2 hY, ?_, fun i t hi ht => ?_⟩
  · have := rows_len_snoc (M := T) (S := Z) (n := s) (by rw [h1]; exact h3) hZ
    intro i hi
    exact this i (by rw [List.length_append, h1]; simpa using hi)
  · rw [List.length_append, List.length_singleton] at hi
    unfold ent
    by_cases hi' : i < O.length
    · rw [List.getD_eq_getElem?_getD (l := T ++ [Z]), List.getElem?_append_left (by omega), List.getD_eq_getElem?_getD (l := O ++ [Y]), List.getElem?_append_left hi']
      have := h4 i t hi' ht
      unfold ent at this
      simpa only [List.getD_eq_getElem?_getD] using this
    · obtain rfl : i = O.length := by omega
      rw [List.getD_eq_getElem?_getD (l := T ++ [Z]), List.getElem?_append_right (by omega), List.getD_eq_getElem?_getD (l := O ++ [Y]), List.getElem?_append_right (by omega), h1, Nat.sub_self]
      exact he t ht
theorem ToldN.sl_ {B : Nat} {w0 W : World} {M : List (List UInt8)} {v : Value} {k : Nat} (h : ToldN B w0 W [] M k v) (hk : M.length = k) : SlBB W v M := by subst hk; exact h.slBB
theorem perm4 {α : Type} (a b x y : List α) : (((a ++ b) ++ x) ++ y).Perm ((b ++ y) ++ (a ++ x)) := by
  have h1 : (((a ++ b) ++ x) ++ y).Perm ((a ++ x) ++ (b ++ y)) := by
    rw [List.append_assoc, List.append_assoc, List.append_assoc]
    exact List.perm_append_left_iff _ |>.2 (List.perm_append_comm_assoc _ _ _)
  exact h1.trans List.perm_append_comm
set_option maxRecDepth 100000 in
set_option maxHeartbeats 16000000 in
theorem CodeLinear_walk (W : World) (a b : Int) (ha : -9223372036854775808 ≤ a ∧ a ≤ 9223372036854775807) (hb : -9223372036854775808 ≤ b ∧ b ≤ 9223372036854775807) (vr vp vb : Value) (ll : List (List UInt8)) (hr : SlBB W vr ll) (Xb : List UInt8) (hx : SlB W vb Xb) (hxl : Xb.length ≤ 9223372036854775807) (f : UInt8) :
    Calls Try.prog 6 #[.agg #[.int .i64 a, .int .i64 b, vr, vp, vb], B f] W fun e w' => e = .returned (.bool true) ∧ Below W.heap.size W w' := by
  have HR := hid hr
  have HA := hid ha
  have HB := hid hb
  obtain ⟨Ab, cb, rfl⟩ := hx.form
  have HX := hid hx
  have HXL := hid hxl
  clear hr ha hb hx hxl
  go_enter Try.func6, Try.ntmps6
  go_wp2_with fail
  refine Calls.seen (fun V => Below W.heap.size W V ∧ V.heap[W.heap.size]? = some (.cells #[.int .i64 a, .int .i64 b, vr, vp, .slice Ab Xb.length cb] 55 (0, 0))) ⟨(Below.refl _ _).alloc (Nat.le_refl _) _, heap_alloc_new _ _⟩ fun w0 H0 => ?_
  refine (madeC_any w0 a b HA.out HB.out vr vp _ ll (HR.out.below H0.out.1)).mono ?_
  rintro e w1 ⟨n, k, s, c, G, D, A, cp, rfl, hn24, hs40, hc, hg, hd, hdl, hds, hb1⟩
  have HC := hid hc
  have HD := hid hd
  have HDL := hid hdl
  have HDS := hid hds
  have HB1 := hid hb1
  have hk1 := hc.k1
  have hkn := hc.kn
  clear hc hg hd hdl hds hb1
  go_wp2_with fail
  refine (Std_any w1).mono ?_
  rintro e w2 ⟨fg, rfl, -, hF, hb2⟩
  have HF := hid hF
  have HC2 := hid (HC.out.below hb2)
  have HD2 := hid (HD.out.below hb2)
  have HB2 := hid (below_then HB1.out hb2)
  have HFam := hid (grid_nil w2)
  clear hF hb2 HC HD HB1
  go_wp2
  go_loopw [8, 9, 10, 11, 12, 13] (fun va vb x _ _ _ wr => ∃ (O T : List (List UInt8)) (vsa vsb : List Value), O.length ≤ k ∧ x = .int .i64 O.length ∧ Two f D O T s ∧ vsa.length = O.length ∧ vsb.length = O.length ∧ Fam w2.heap.size w2 wr (gridT va vsa O ++ gridT vb vsb T)) (fun _ _ x _ _ _ _ => k - (intOf x).toNat)
  case atStart => exact ⟨[], [], [], [], Nat.zero_le _, rfl, ⟨rfl, fun i hi => by simp at hi, fun i hi => by simp at hi, fun i t hi => by simp at hi⟩, rfl, rfl, HFam.out⟩
  case round =>
    clear HFam
    obtain ⟨wo, rfl⟩ : ∃ wo : World, wo = wr := ⟨_, rfl⟩
    obtain ⟨O, T, vsa, vsb, hO, rfl, hT, hla, hlb, hf⟩ := hrel
    have HT := hid hT
    have HLA := hid hla
    have HLB := hid hlb
    have HFm := hid hf
    obtain ⟨A1, c1, rfl⟩ := own_form hf.listOwn
    obtain ⟨A2, c2, rfl⟩ := own_form (hf.perm List.perm_append_comm).listOwn
    clear hT hla hlb hf
    by_cases hlt : O.length < k
    · obtain ⟨R, o, v0, e0, dd, s0⟩ := HD2.out.at_ O.length (by rw [HDL.out]; exact hlt)
      obtain ⟨A0, q0, e1⟩ := s0.form
      have hDi := HDS.out O.length hlt
      rw [hDi] at e1
      subst e1
      subst e0
      have d0 : wo.cell? ⟨R, o + O.length, none⟩ = some (.slice A0 s q0) := (HFm.out.base.cell (World.block_lt_of_cell? w2 _ dd)).trans dd
      have HDD := hid dd
      have HS0 := hid s0
      obtain ⟨w3, hmk, ho3, hb3⟩ := make_bytes wo s (by omega)
      obtain ⟨w4, hmk4, ho4, hb4⟩ := make_bytes w3 s (by omega)
      have hF3 := HFm.out.add (t := rowT (.slice (some ⟨wo.heap.size, 0, none⟩) s s) (List.replicate s 0)) hb3 ⟨own_base ho3 (Nat.zero_le _), fun j hj => World.ownsRow.lt ho3 j hj⟩
      have hF4 := hF3.add (t := rowT (.slice (some ⟨w3.heap.size, 0, none⟩) s s) (List.replicate s 0)) hb4 ⟨own_base ho4 (Nat.zero_le _), fun j hj => World.ownsRow.lt ho4 j hj⟩
      obtain ⟨g1, hg1⟩ : ∃ g, wo.heap.size = g := ⟨_, rfl⟩
      obtain ⟨g2, hg2⟩ : ∃ g, w3.heap.size = g := ⟨_, rfl⟩
      rw [hg1] at hmk hF4
      rw [hg2] at hmk4 hF4
      have HF4 := hid hF4
      have d3 : w3.cell? ⟨R, o + O.length, none⟩ = some (.slice A0 s q0) := (hb3.cell (World.block_lt_of_cell? wo _ d0)).trans d0
      have HDi := hid hDi
      have i0 : (0 : Int) ≤ (O.length : Int) := by omega
      have i1 : (O.length : Int) < (k : Int) := by omega
      clear ho3 hb3 ho4 hb4 hF3 hF4 hg1 hg2 s0 hDi dd
      go_wp2
      clear hmk hmk4 d0 d3
      go_loopw [13] (fun x wr => ∃ (j : Nat) (Y Z : List UInt8), j ≤ s ∧ x = .int .i64 j ∧ Y.length = s ∧ Z.length = s ∧ (∀ t, t < j → Z.getD t 0 = ent D O.length t ^^^ Gf.mul 0x1d f (Y.getD t 0)) ∧ Fam w2.heap.size w2 wr (((gridT (.slice A1 O.length c1) vsa O ++ gridT (.slice A2 T.length c2) vsb T) ++ [rowT (.slice (some ⟨g1, 0, none⟩) s s) Y]) ++ [rowT (.slice (some ⟨g2, 0, none⟩) s s) Z])) (fun x _ => s - (intOf x).toNat)
      case atStart => exact ⟨0, _, _, Nat.zero_le _, rfl, by simp, by simp, fun t ht => by omega, HF4.out⟩
      case round =>
        clear HF4
        obtain ⟨j, Y, Z, hj, rfl, hY, hZ, hyz, hf⟩ := hrel
        have HY := hid hY
        have HZ := hid hZ
        have HYZ := hid hyz
        have HF5 := hid hf
        have HBX := hid (below_then HB2.out hf.base)
        clear hY hZ hyz hf
        have j0 : (0 : Int) ≤ (j : Int) := by omega
        by_cases hjl : j < s
        · have j1 : (j : Int) < (s : Int) := by omega
          have q4 : wr.cell? ⟨W.heap.size, 4, none⟩ = some (.slice Ab Xb.length cb) := (HBX.out.cell (p := ⟨W.heap.size, 4, none⟩) (blk_lt H0.out.2)).trans (by rw [blk_cell H0.out.2]; rfl)
          go_upto_if 61 with (fail)
          go_cut [] (fun wx => ∃ Y' : List UInt8, Y'.length = s ∧ (∀ t, t < j → Y'.getD t 0 = Y.getD t 0) ∧ Fam w2.heap.size w2 wx (((gridT (.slice A1 O.length c1) vsa O ++ gridT (.slice A2 T.length c2) vsb T) ++ [rowT (.slice (some ⟨g1, 0, none⟩) s s) Y']) ++ [rowT (.slice (some ⟨g2, 0, none⟩) s s) Z]))
          case first =>
            by_cases hx0 : 0 < Xb.length
            · obtain ⟨bu, ou, rfl, hbytes⟩ := (HX.out.below (below_then H0.out.1 HBX.out)).cells hx0
              obtain ⟨is, his⟩ : ∃ is : Nat, O.length * s = is := ⟨_, rfl⟩
              have his2 : is ≤ 24 * 40 := by rw [← his]; exact Nat.mul_le_mul (by omega) hs40
              obtain ⟨p, hp⟩ : ∃ p : Nat, is + j = p := ⟨_, rfl⟩
              obtain ⟨q, hq⟩ : ∃ q : Nat, p % Xb.length = q := ⟨_, rfl⟩
              have hql : q < Xb.length := by rw [← hq]; exact Nat.mod_lt _ hx0
              have x0 := hbytes q hql
              obtain ⟨bv, hbv⟩ : ∃ bv, Xb.getD q 0 = bv := ⟨_, rfl⟩
              rw [hbv] at x0
              have hrow := HF5.out.back.rowAtL 0 rfl
              obtain ⟨z0, f0⟩ := hrow.at_ j (by rw [HY.out]; exact hjl)
              generalize Y.getD j 0 = yb at z0
              have hpi : ((p : Int)).tmod (Xb.length : Int) = (q : Int) := by rw [← hq, Int.tmod_eq_emod_of_nonneg (by omega)]; simp
              have hw1 : IntKind.i64.wrap ((O.length : Int) * (s : Int)) = (is : Int) := by rw [show (O.length : Int) * (s : Int) = (is : Int) by rw [← his]; simp, IntKind.wrap_i64]; omega
              have hw2 : IntKind.i64.wrap ((is : Int) + (j : Int)) = (p : Int) := by rw [IntKind.wrap_i64]; omega
              have hw3 : IntKind.i64.wrap (q : Int) = (q : Int) := by have := HXL.out; rw [IntKind.wrap_i64]; omega
              have i2 : (0 : Int) ≤ (q : Int) := by omega
              have i3 : (q : Int) < (Xb.length : Int) := by omega
              have i4 : (0 : Int) < (Xb.length : Int) := by omega
              have i5 : ((Xb.length : Int) == 0) = false := by rw [beq_eq_false_iff_ne]; omega
              have i7 : ¬ (Xb.length : Int) = 0 := by omega
              have i8 : ¬ Xb.length = 0 := by omega
              have i9 : (0 : Int) ≤ (p : Int) := by omega
              have hpj : (p : Int) % (Xb.length : Int) = (q : Int) := by rw [← hq]; simp
              have i6 : ((Xb.length : Int) == -1) = false := by rw [beq_eq_false_iff_ne]; omega
              have R1 : Hid (Fam w2.heap.size w2 (wr.drew.setCell ⟨g1, j, none⟩ (B bv)) (((gridT (.slice A1 O.length c1) vsa O ++ gridT (.slice A2 T.length c2) vsb T) ++ [rowT (.slice (some ⟨g1, 0, none⟩) s s) (Y.set j bv)]) ++ [rowT (.slice (some ⟨g2, 0, none⟩) s s) Z])) := hid (((HF5.out.below (Below.refl wr.heap.size wr).drew).swap2.byteAt j bv).swap2)
              clear hbytes his hp hbv hrow his2
              go_upto_region 16 with (fail)
              go_still_tail 17, (by kernel_rfl)
              change wpList _ _ _ _ _ wr.drew
              clear q4 x0 hw1 hw2 hw3 hpi hpj hq
              have z1 : wr.drew.cell? ⟨g1, j, none⟩ = some (B yb) := z0
              have f1 : wr.drew.frozen? ⟨g1, j, none⟩ = false := f0
              go_wp2_with fail
              go_meet
              exact ⟨Y.set j bv, by rw [List.length_set]; exact HY.out, fun t ht => by rw [List.getD_eq_getElem?_getD, List.getElem?_set_ne (by omega), ← List.getD_eq_getElem?_getD], R1.out⟩
            · go_wp2_with fail
              go_meet
              exact ⟨Y, HY.out, fun _ _ => rfl, HF5.out⟩
          case rest =>
            obtain ⟨Y', hY', hyy, hf⟩ := hcut
            have HY2 := hid hY'
            have HYY := hid hyy
            have HF6 := hid hf
            clear hY' hyy hf q4
            obtain ⟨bd, od, rfl, hbytes⟩ := HS0.out.byte (by rw [HDi.out]; omega)
            have x0 := hbytes j (by rw [HDi.out]; exact hjl)
            obtain ⟨dv, hdv⟩ : ∃ dv, (D.getD O.length []).getD j 0 = dv := ⟨_, rfl⟩
            obtain ⟨yv, hyv⟩ : ∃ yv, Y'.getD j 0 = yv := ⟨_, rfl⟩
            obtain ⟨mv, hmv⟩ : ∃ mv, Gf.mul 0x1d f yv = mv := ⟨_, rfl⟩
            obtain ⟨zv, hzv⟩ : ∃ zv, dv ^^^ mv = zv := ⟨_, rfl⟩
            rw [hdv] at x0
            have HSB : ∀ (wq : World) (Z' : List UInt8), Fam w2.heap.size w2 wq (((gridT (.slice A1 O.length c1) vsa O ++ gridT (.slice A2 T.length c2) vsb T) ++ [rowT (.slice (some ⟨g1, 0, none⟩) s s) Y']) ++ [rowT (.slice (some ⟨g2, 0, none⟩) s s) Z']) → wq.cell? ⟨R, o + O.length, none⟩ = some (.slice (some ⟨bd, od, none⟩) s q0) ∧ wq.cell? ⟨bd, od + j, none⟩ = some (B dv) ∧ wq.cell? ⟨g1, j, none⟩ = some (B yv) := fun wq Z' hf => ⟨(hf.base.cell (World.block_lt_of_cell? w2 _ HDD.out)).trans HDD.out, (hf.base.cell (World.block_lt_of_cell? w2 _ x0)).trans x0, by rw [← hyv]; exact ((hf.back.rowAtL 0 rfl).at_ j (by rw [HY2.out]; exact hjl)).1⟩
            have HSm := hid (fun (nn : Nat) => HSB (wc.drewN nn) Z (HF6.out.below (below_drewN (Below.refl _ _) nn)))
            have HS0d := hid (HSB wc.drew Z (HF6.out.below (Below.refl wc.heap.size wc).drew))
            have R1 := hid (fun (nn : Nat) => (HF6.out.below (below_drewN (Below.refl wc.heap.size wc) nn)).byteAt j zv)
            have HSs := hid (fun (nn : Nat) => HSB _ _ (R1.out nn))
            obtain ⟨z0, f0⟩ := (HF6.out.rowAtL 0 rfl).at_ j (by rw [HZ.out]; exact hjl)
            generalize Z.getD j 0 = zb at z0
            have HMUL := hid (Mul_any fg 0x1d f yv wc.drew ((HF.out.next HF6.out.base).any rfl))
            rw [hmv] at HMUL
            have hxor : bits .xor .u8 (dv.toNat : Int) (mv.toNat : Int) = (zv.toNat : Int) := by rw [← hzv]; exact xor8 dv mv
            have R2' : Hid ((Z.set j zv).length = s ∧ ∀ t, t < j + 1 → (Z.set j zv).getD t 0 = ent D O.length t ^^^ Gf.mul 0x1d f (Y'.getD t 0)) := hid (put_next ⟨HZ.out, fun t ht => by rw [HYZ.out t ht, HYY.out t ht]⟩ hjl (by rw [← hzv, ← hdv, ← hmv, ← hyv]; rfl))
            obtain ⟨dR, xR, yR⟩ := HSB wc Z HF6.out
            have k0 : (0 : Int) ≤ (O.length : Int) := by omega
            have k1 : (O.length : Int) < (k : Int) := by omega
            clear hbytes x0 hdv hyv hmv hzv HSB
            go_wp2
            go_region_held3 (fun V => V.cell? ⟨R, o + O.length, none⟩ = some (.slice (some ⟨bd, od, none⟩) s q0) ∧ V.cell? ⟨bd, od + j, none⟩ = some (B dv) ∧ V.cell? ⟨g1, j, none⟩ = some (B yv))
              (first | with_reducible exact HS0d.out | with_reducible exact HSm.out _ | with_reducible exact HSs.out _)
              ((go_at_call 37; (with_reducible refine HMUL.out.mono ?_); rintro e w5 ⟨rfl, nn, rfl⟩))
            all_goals
              clear dR xR yR z0 f0 hxor
              go_wp2
              go_roundw
              case rel => exact ⟨j + 1, Y', Z.set j zv, by omega, by go_num, HY2.out, R2'.out.1, R2'.out.2, R1.out _⟩
              case measure => simp [intOf]; omega
        · have HO1 : Hid ((wr.alloc (.cells #[.slice (some ⟨g1, 0, none⟩) s s] 22 (0, 0))).ownsRow 0 22 1 (.slice A1 O.length c1) O.length vsa) := hid (by
            have h1 := HF5.out
            rw [List.append_assoc, List.append_assoc] at h1
            exact World.ownsRow.alloc h1.listOwn _)
          have HLB2 : Hid (vsb.length = T.length) := hid (by rw [HT.out.1]; exact HLB.out)
          have hOl : O.length ≤ 1099511627776 := by omega
          have hTl : T.length ≤ 1099511627776 := by have := HT.out.1; omega
          have R2' := hid (HT.out.snoc HY.out HZ.out (fun t ht => HYZ.out t (by omega)))
          go_wp2_with (first
            | (at_builtin; refine wpList_appG rfl (.tmp 97) (.tmp 99) rfl (.slice A1 O.length c1) O.length vsa (some ⟨g1, 0, none⟩) s s wr.heap.size 22 rfl rfl HO1.out (heap_alloc_new _ _) hOl ?_; intro g8 cap8 w8 ho8 hg8 hn8; have H8 := hid (Fam.tell ((HF5.out.below ((Below.refl _ _).alloc (Nat.le_refl _) (.cells #[.slice (some ⟨g1, 0, none⟩) s s] 22 (0, 0)))).perm (perm4 _ _ _ _)) HLA.out ho8 hg8 hn8); have HO2 := hid (World.ownsRow.alloc (Fam.listOwn (by have h := H8.out; rw [List.append_assoc] at h; exact h)) (.cells #[.slice (some ⟨g2, 0, none⟩) s s] 22 (0, 0))); clear ho8 hg8 hn8)
            | (at_builtin; refine wpList_appG rfl (.tmp 101) (.tmp 103) rfl (.slice A2 T.length c2) T.length vsb (some ⟨g2, 0, none⟩) s s w8.heap.size 22 rfl rfl HO2.out (heap_alloc_new _ _) hTl ?_; intro g9 cap9 w9 ho9 hg9 hn9; have H9 := hid (Fam.tell ((H8.out.below ((Below.refl _ _).alloc (Nat.le_refl _) (.cells #[.slice (some ⟨g2, 0, none⟩) s s] 22 (0, 0)))).perm List.perm_append_comm) HLB2.out ho9 hg9 hn9); clear ho9 hg9 hn9))
          go_roundw
          case rel => exact ⟨O ++ [Y], T ++ [Z], vsa ++ [.slice (some ⟨g1, 0, none⟩) s s], vsb ++ [.slice (some ⟨g2, 0, none⟩) s s], by simp; omega, by simp, R2'.out, by simp [HLA.out], by simp [HLB.out], H9.out⟩
          case measure => simp [intOf]; omega
    · have hOk : O.length = k := by omega
      have HTO := hid (HFm.out.gridSl HLA.out)
      have HTT := hid ((HFm.out.perm List.perm_append_comm).gridSl (by rw [HT.out.1]; exact HLB.out))
      have HBo := hid HFm.out.base
      have CP := hid (Encode_any wo c n k G (HC2.out.below HFm.out.base) _ D (HD2.out.below HFm.out.base) s (fun i hi => HDS.out i (by have := HDL.out; omega)) HDL.out (by omega))
      have HOK := hid hOk
      have i1 : ¬ (O.length : Int) < (k : Int) := by omega
      clear HFm hOk
      go_wp2_with fail
      refine CP.out.mono ?_
      rintro e w10 ⟨Ap, qp, rfl, hp⟩
      have hel : ∀ (Q : List (List UInt8)), (enc G Q s).length = n := fun Q => by rw [enc_length, HC2.out.len]
      have HEL := hid hel
      have HP := hid (hp.sl_ (hel D))
      have HB10 := hid (below_then HBo.out hp.base)
      have HTO10 := hid (HTO.out.below hp.base)
      have HTT10 := hid (HTT.out.below hp.base)
      have CQ := hid (Encode_any w10 c n k G (HC2.out.below HB10.out) _ O HTO10.out s (fun i hi => HT.out.2.1 i hi) HOK.out (by omega))
      clear hp hel CP HTO HTT HBo
      go_wp2_with fail
      refine CQ.out.mono ?_
      rintro e w11 ⟨Aq, qq, rfl, hp⟩
      have HQ := hid (hp.sl_ (HEL.out O))
      have HB11 := hid (below_then HB10.out hp.base)
      have HP11 := hid (HP.out.below hp.base)
      have HTT11 := hid (HTT10.out.below hp.base)
      have CR := hid (Encode_any w11 c n k G (HC2.out.below HB11.out) _ T HTT11.out s (fun i hi => HT.out.2.2.1 i (by have := HT.out.1; omega)) (by rw [HT.out.1]; exact HOK.out) (by omega))
      clear hp CQ HB10 HP HTO10 HTT10
      go_wp2_with fail
      refine CR.out.mono ?_
      rintro e w12 ⟨Ar, qr, rfl, hp⟩
      have HRR := hid (hp.sl_ (HEL.out T))
      have HB12 := hid (below_then HB11.out hp.base)
      have HP12 := hid (HP11.out.below hp.base)
      have HQ12 := hid (HQ.out.below hp.base)
      have HC12 := hid (HC2.out.below HB12.out)
      have HD12 := hid (HD2.out.below HB12.out)
      have HF12 := hid (HF.out.next HB12.out)
      have HBW := hid (below_then HB2.out HB12.out)
      have HLIN : Hid (∀ i t, i < n → t < s → ((enc G T s).getD i []).getD t 0 = ((enc G D s).getD i []).getD t 0 ^^^ Gf.mul 0x1d f (((enc G O s).getD i []).getD t 0)) := hid (fun i t hi ht => by
        have hg : i < G.length := by rw [HC2.out.len]; exact hi
        rw [enc_get _ _ _ _ hg, enc_get _ _ _ _ hg, enc_get _ _ _ _ hg]
        exact comb_lin f _ D O T s t ht (by rw [HOK.out, HDL.out]) (by rw [HT.out.1, HOK.out, HDL.out]) (fun r hr => HT.out.2.2.2 r t (by have := HDL.out; have := HOK.out; omega) ht))
      have hen : ∀ (Q : List (List UInt8)) i, i < n → ((enc G Q s).getD i []).length = s := fun Q i hi => by rw [enc_get _ _ _ _ (by rw [HC2.out.len]; exact hi), comb_length]
      have HEN := hid (And.intro (hen D) (And.intro (hen O) (hen T)))
      have HEL3 := hid (And.intro (HEL.out D) (And.intro (HEL.out O) (HEL.out T)))
      clear hen HEL
      clear hp CR HB11 HP11 HQ HTT11 HC2 HD2 HB2 HF HB12 i1
      generalize enc G T s = RT at *
      generalize enc G O s = RO at *
      generalize enc G D s = RD at *
      go_wp2_with (go_at_call 39; (with_reducible refine (N_any w12 c n k G HC12.out).mono ?_); rintro e wz ⟨rfl, hwz⟩; have hwz := hwz.symm; subst hwz)
      go_loopw [20, 21] (fun x _ wr => ∃ i : Nat, i ≤ n ∧ x = .int .i64 i ∧ Below w12.heap.size w12 wr) (fun x _ _ => n - (intOf x).toNat)
      case atStart => exact ⟨0, Nat.zero_le _, rfl, Below.refl _ _⟩
      case round =>
        obtain ⟨wo2, rfl⟩ : ∃ wo2 : World, wo2 = wr := ⟨_, rfl⟩
        obtain ⟨i, hi, rfl, hb⟩ := hrel
        have HBi := hid hb
        clear hb
        by_cases hin : i < n
        · have hlen : ∀ Q : List (List UInt8), Q.length = Q.length := fun _ => rfl
          obtain ⟨Rp, op, vp0, rfl, p0, sp⟩ := (HP12.out.below HBi.out).at_ i (by rw [HEL3.out.1]; exact hin)
          obtain ⟨A1p, k1p, ep⟩ := sp.form
          rw [HEN.out.1 i hin] at ep
          subst ep
          obtain ⟨Rq, oq, vq0, rfl, q0_, sq⟩ := (HQ12.out.below HBi.out).at_ i (by rw [HEL3.out.2.1]; exact hin)
          obtain ⟨A1q, k1q, eq⟩ := sq.form
          rw [HEN.out.2.1 i hin] at eq
          subst eq
          obtain ⟨Rr, or_, vr0, rfl, r0_, sr⟩ := (HRR.out.below HBi.out).at_ i (by rw [HEL3.out.2.2]; exact hin)
          obtain ⟨A1r, k1r, er⟩ := sr.form
          rw [HEN.out.2.2 i hin] at er
          subst er
          obtain ⟨Rd, od, vd0, rfl, d0_, sd⟩ := (HD12.out.below HBi.out).at_ 0 (by rw [HDL.out]; omega)
          obtain ⟨A1d, k1d, ed⟩ := sd.form
          rw [HDS.out 0 (by omega)] at ed
          subst ed
          rw [Nat.add_zero] at d0_
          have HSP := hid sp
          have HSQ := hid sq
          have HSR := hid sr
          have i0 : (0 : Int) ≤ (i : Int) := by omega
          have i2 : (i : Int) < (n : Int) := by omega
          have i3 : (0 : Int) < (k : Int) := by omega
          clear sp sq sr sd hlen
          go_wp2
          go_quiet (fail)
          have HBn := hid (below_drewN (Below.refl wo2.heap.size wo2) nq)
          have HBi2 := hid (below_drewN HBi.out nq)
          have p1 : (wo2.drewN nq).cell? ⟨Rp, op + i, none⟩ = some (.slice A1p s k1p) := p0
          have q1 : (wo2.drewN nq).cell? ⟨Rq, oq + i, none⟩ = some (.slice A1q s k1q) := q0_
          have r1 : (wo2.drewN nq).cell? ⟨Rr, or_ + i, none⟩ = some (.slice A1r s k1r) := r0_
          have HCL := hid (And.intro p1 (And.intro q1 r1))
          obtain ⟨w13, hw13⟩ : ∃ w13, wo2.drewN nq = w13 := ⟨_, rfl⟩
          rw [hw13] at HBn HBi2 p1 q1 r1 HCL ⊢
          have HSP3 := hid (HSP.out.below HBn.out)
          have HSQ3 := hid (HSQ.out.below HBn.out)
          have HSR3 := hid (HSR.out.below HBn.out)
          clear hw13 p0 q0_ r0_ d0_ HSP HSQ HSR p1 q1 r1
          go_wp2
          go_loopw [21] (fun x wr => ∃ j : Nat, j ≤ s ∧ x = .int .i64 j ∧ Below w13.heap.size w13 wr) (fun x _ => s - (intOf x).toNat)
          case atStart => exact ⟨0, Nat.zero_le _, rfl, Below.refl _ _⟩
          case round =>
            obtain ⟨j, hj, rfl, hb⟩ := hrel
            have HBj := hid hb
            obtain ⟨p1, q1, r1⟩ := HCL.out
            have p2 := (hb.cell (World.block_lt_of_cell? w13 _ p1)).trans p1
            have q2 := (hb.cell (World.block_lt_of_cell? w13 _ q1)).trans q1
            have r2 := (hb.cell (World.block_lt_of_cell? w13 _ r1)).trans r1
            have j0 : (0 : Int) ≤ (j : Int) := by omega
            clear hb p1 q1 r1
            by_cases hjl : j < s
            · have j1 : (j : Int) < (s : Int) := by omega
              obtain ⟨bp, o1p, rfl, bsp⟩ := (HSP3.out.below HBj.out).byte (by rw [HEN.out.1 i hin]; omega)
              obtain ⟨bq, o1q, rfl, bsq⟩ := (HSQ3.out.below HBj.out).byte (by rw [HEN.out.2.1 i hin]; omega)
              obtain ⟨br, o1r, rfl, bsr⟩ := (HSR3.out.below HBj.out).byte (by rw [HEN.out.2.2 i hin]; omega)
              have xp := bsp j (by rw [HEN.out.1 i hin]; exact hjl)
              have xq := bsq j (by rw [HEN.out.2.1 i hin]; exact hjl)
              have xr := bsr j (by rw [HEN.out.2.2 i hin]; exact hjl)
              have hlin := HLIN.out i j hin hjl
              generalize (RD.getD i []).getD j 0 = pv at xp hlin
              generalize (RO.getD i []).getD j 0 = qv at xq hlin
              generalize (RT.getD i []).getD j 0 = rv at xr hlin
              obtain ⟨mv, hmv⟩ : ∃ mv, Gf.mul 0x1d f qv = mv := ⟨_, rfl⟩
              rw [hmv] at hlin
              have hxor : bits .xor .u8 (pv.toNat : Int) (mv.toNat : Int) = (rv.toNat : Int) := by rw [hlin]; exact xor8 pv mv
              have HMQ : Hid (∀ kk, Calls Try.prog 37 #[.pointer (some ⟨fg, 0, none⟩), B f, B qv] (wr.drewN kk) fun e w' => e = .returned (B mv) ∧ ∃ m, w' = (wr.drewN kk).drewN m) := hid fun kk => by
                rw [← hmv]
                exact Mul_any fg 0x1d f qv (wr.drewN kk) ((HF12.out.next (below_then HBi2.out HBj.out)).any rfl)
              clear bsp bsq bsr hlin hmv
              go_wp2
              go_quiet ((go_at_call 37; with_reducible exact Calls.quiet_of (HMQ.out _)))
              have R1 := hid (below_drewN HBj.out nq)
              clear p2 q2 r2 xp xq xr hxor HMQ
              go_wp2
              go_roundw
              case rel => exact ⟨j + 1, by omega, by go_num, R1.out⟩
              case measure => simp [intOf]; omega
            · have j1 : ¬ (j : Int) < (s : Int) := by omega
              have R1 := hid (below_then HBi2.out HBj.out)
              go_wp2
              go_roundw
              case rel => exact ⟨i + 1, by omega, by go_num, R1.out⟩
              case measure => simp [intOf]; omega
        · have HE := hid (below_then HBW.out HBi.out)
          have i2 : ¬ (i : Int) < (n : Int) := by omega
          go_wp2
          go_ret
          exact ⟨rfl, below_then H0.out.1 HE.out⟩
end Go.Proofs.Ytkklonldplekcaa
