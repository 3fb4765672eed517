/- The walks of package code: generator, New, Encode, Rows, N, K. -/
import Derived.Test.YtkklonldplekcaaCdB
namespace Go.Proofs.Ytkklonldplekcaa
open Go.RowKit
/-- what generator answers -/
def GenE (n k : Nat) (w : World) (e : Ending) (w' : World) : Prop := ∃ v G, e = .returned v ∧ SlBB w' v G ∧ G.length = n ∧ (∀ i, i < n → (G.getD i []).length = k) ∧ GenOf n k G ∧ Below w.heap.size w w'
set_option maxRecDepth 100000 in
set_option maxHeartbeats 8000000 in
theorem generator_any (w : World) (fg n k : Nat) (hF : FieldAt w fg 0x1d) (hk1 : 1 ≤ k) (hkn : k ≤ n) (hn : n ≤ 255) :
    Calls Try.prog 102 #[.pointer (some ⟨fg, 0, none⟩), .int .i64 n, .int .i64 k] w (GenE n k w) := by
  have HFD := hid hF
  obtain ⟨w1, hmk, ho1, hb1⟩ := make_bytes w n (by omega)
  obtain ⟨g, hg⟩ : ∃ g, w.heap.size = g := ⟨_, rfl⟩
  rw [hg] at hmk ho1 hb1
  have HG := hid hg
  have HO1 := hid ho1
  have HB1 := hid hb1
  have hkn' : (k : Int) ≤ (n : Int) := by omega
  have hk0 : (0 : Int) ≤ (k : Int) := by omega
  clear hF ho1 hb1 hg
  go_enter Try.func102, Try.ntmps102
  go_wp2
  clear hmk
  go_loopw [8, 21] (fun _ x wr => ∃ (i : Nat) (Y : List UInt8), i ≤ n ∧ x = .int .i64 i ∧ OwnB wr g (.slice (some ⟨g, 0, none⟩) n n) Y ∧ (Y.length = n ∧ ∀ t, t < i → Y.getD t 0 = UInt8.ofNat t) ∧ Below g w wr) (fun _ x _ => n - (intOf x).toNat)
  case atStart => exact ⟨0, _, Nat.zero_le _, rfl, HO1.out, ⟨by simp, fun t ht => by omega⟩, HB1.out⟩
  case round =>
    clear HO1 HB1
    obtain ⟨i, Y, hi, rfl, hO, hY, hb⟩ := hrel
    have HO := hid hO
    have HY := hid hY
    have HB := hid hb
    by_cases hlt : i < n
    · obtain ⟨x0, f0⟩ := hO.at_ i (by rw [hY.1]; exact hlt)
      generalize Y.getD i 0 = y0 at x0
      have i0 : (0 : Int) ≤ (i : Int) := by omega
      have i1 : (i : Int) < (n : Int) := by omega
      have i2 : (i : Int) ≤ 255 := by omega
      have hw : IntKind.u8.wrap (i : Int) = (i : Int) := by simp [IntKind.wrap, IntKind.signed, IntKind.bits]; omega
      have R1 : Hid (OwnB (wr.setCell ⟨g, i, none⟩ (.int .u8 (i : Int))) g (.slice (some ⟨g, 0, none⟩) n n) (Y.set i (UInt8.ofNat i))) := hid (by
        have h1 := hO.set_ i (UInt8.ofNat i)
        have e : (((UInt8.ofNat i).toNat : Nat) : Int) = (i : Int) := by simp; omega
        unfold B at h1
        rw [e] at h1
        exact h1)
      have R2' : Hid ((Y.set i (UInt8.ofNat i)).length = n ∧ ∀ t, t < i + 1 → (Y.set i (UInt8.ofNat i)).getD t 0 = UInt8.ofNat t) := hid (put_next ⟨hY.1, hY.2⟩ hlt rfl)
      have R3 := hid (show Below g w (wr.setCell ⟨g, i, none⟩ (.int .u8 (i : Int))) from hb.setCell (Nat.le_refl _) _)
      clear hO hY hb
      go_wp2
      go_roundw
      case rel => exact ⟨i + 1, _, by omega, by go_num, R1.out, R2'.out, R3.out⟩
      case measure => simp [intOf]; omega
    · have hYe : Y = pts n := by
        apply List.ext_getElem (by rw [pts_length]; exact hY.1)
        intro t h1 h2
        have h3 := hY.2 t (by have := hY.1; omega)
        rw [← pts_get n t (by have := hY.1; omega), List.getD_eq_getElem?_getD, List.getD_eq_getElem?_getD, List.getElem?_eq_getElem h1, List.getElem?_eq_getElem h2] at h3
        exact h3
      subst hYe
      have HS : Hid (SlB wr (.slice (some ⟨g, 0, none⟩) n n) (pts n)) := hid hO.sl
      have HS2 : Hid (SlB wr (.slice (some ⟨g, 0, none⟩) k n) (pts k)) := hid (by have := hO.sl.take_ k (by rw [pts_length]; exact hkn) hkn; rw [pts_take n k hkn] at this; exact this)
      have HBW : Hid (Below w.heap.size w wr) := hid (by rw [HG.out]; exact hb)
      have HFW := hid (HFD.out.next HBW.out)
      clear hO hY hb
      go_wp2_with fail
      refine (Vandermonde_any wr fg 0x1d HFW.out _ (pts n) HS.out ⟨by rw [pts_length]; omega, by rw [pts_length]; omega⟩ k ⟨by omega, by omega⟩).mono ?_
      rintro e w3 ⟨mp, T1, rfl, hm, hl, he, hb⟩
      rw [pts_length] at hl he
      have HM1 := hid hm
      have HL1 := hid hl
      have HE1 : Hid (∀ i j, i < n → j < k → ent T1 i j = VM i j) := hid fun i j hi hj => by rw [he i j hi hj, pts_get n i hi]; rfl
      have HB3 := hid (below_then HBW.out hb)
      have HS3 := hid (HS2.out.below hb)
      clear hm hl he hb HS HS2
      go_wp2_with fail
      refine (Vandermonde_any w3 fg 0x1d (HFD.out.next HB3.out) _ (pts k) HS3.out ⟨by rw [pts_length]; omega, by rw [pts_length]; omega⟩ k ⟨by omega, by omega⟩).mono ?_
      rintro e w4 ⟨mf, T2, rfl, hm, hl, he, hb⟩
      rw [pts_length] at hl he
      have HM2 := hid hm
      have HL2 := hid hl
      have HE2 : Hid (∀ i j, i < k → j < k → ent T2 i j = VM i j) := hid fun i j hi hj => by rw [he i j hi hj, pts_get k i hi]; rfl
      have HB4 := hid (below_then HB3.out hb)
      have HM1' := hid (HM1.out.below hb)
      clear hm hl he hb HS3 HM1
      go_wp2_with fail
      refine (Invert_any w4 mf 0x1d T2 k HM2.out HL2.out (by omega)).mono ?_
      rintro e w5 ⟨hb, ⟨p, hp, hrk, _⟩ | ⟨mx, X, rfl, hmx, hlx, hp1, hp2⟩⟩
      · exact absurd (vm_full HFD.out.gen (by omega) (hrk.ext HFD.out.gen fun i j hi hj => (HE2.out i j hi hj).symm)) (by omega)
      have HX := hid hmx
      have HLX := hid hlx
      have HP1 := hid hp1
      have HP2 := hid hp2
      have HB5 := hid (below_then HB4.out hb)
      have HM5 := hid (HM1'.out.below hb)
      clear hmx hlx hp1 hp2 hb HM1' HM2
      go_wp2_with fail
      refine (Mul_mat w5 mp mx 0x1d T1 X k k HM5.out HX.out HLX.out).mono ?_
      rintro e w6 ⟨ma, Gm, rfl, hm, hl, he, hb⟩
      have HM6 := hid hm
      have HL6 := hid (hl.trans HL1.out)
      have HE6 := hid he
      have HB6 := hid (below_then HB5.out hb)
      clear hm hl he hb HM5 HX
      go_wp2_with fail
      refine (Rows_read w6 ma 0x1d Gm k HM6.out).mono ?_
      rintro e w7 ⟨v, rfl, hs, hb⟩
      obtain ⟨Av, cv, rfl⟩ := hs.form
      have HE : Hid (GenE n k w (.returned (.slice Av Gm.length cv)) w7) := hid ⟨_, Gm, rfl, hs, HL6.out, (fun i hi => HM6.out.len i (by rw [HL6.out]; exact hi)), ⟨ent X, (fun i j hi hj => by rw [← HP1.out i j hi hj]; exact Mx.prod_congr (fun l hl => (HE2.out i l hi hl).symm) fun _ _ => rfl), (fun i j hi hj => by rw [← HP2.out i j hi hj]; exact Mx.prod_congr (fun _ _ => rfl) fun l hl => (HE2.out l j hl hj).symm), fun i j hi hj => by rw [HE6.out i j (by rw [HL1.out]; exact hi) hj]; exact Mx.prod_congr (fun l hl => HE1.out i l hi hl) fun _ _ => rfl⟩, below_then HB6.out hb⟩
      clear hs hb
      go_wp2
      go_ret
      exact HE.out
/-- what New answers where the numbers are right -/
def CodeE (n k : Nat) (w : World) (e : Ending) (w' : World) : Prop := ∃ c G, e = .returned (.tuple #[.pointer (some ⟨c, 0, none⟩), .int .i64 0]) ∧ CodeAt w' c n k G ∧ GenOf n k G ∧ Below w.heap.size w w'
set_option maxRecDepth 100000 in
set_option maxHeartbeats 4000000 in
theorem NewCode_ok (w : World) (n k : Nat) (hk1 : 1 ≤ k) (hkn : k ≤ n) (hn : n ≤ 255) :
    Calls Try.prog 54 #[.int .i64 n, .int .i64 k] w (CodeE n k w) := by
  have h1 : ¬ (k : Int) < 1 := by omega
  have h2 : ¬ (n : Int) < (k : Int) := by omega
  have h3 : (n : Int) ≤ 255 := by omega
  go_enter Try.func54, Try.ntmps54
  go_wp2_with fail
  refine (Std_any w).mono ?_
  rintro e w1 ⟨fg, rfl, -, hF, hb⟩
  have HF := hid hF
  have HB1 := hid hb
  clear hF hb
  go_wp2_with fail
  refine (generator_any w1 fg n k HF.out hk1 hkn hn).mono ?_
  rintro e w2 ⟨v, G, rfl, hs, hl, hr, hg, hb⟩
  obtain ⟨Av, cv, rfl⟩ := hs.form
  have HS := hid hs
  have HL := hid hl
  have HR := hid hr
  have HG := hid hg
  have HB2 := hid (below_then HB1.out hb)
  have HF2 := hid (HF.out.next hb)
  rw [hl] at HS ⊢
  clear hs hl hr hg hb
  have HE : Hid (∀ (w3 : World), w3 = w2.alloc (.cells #[.pointer (some ⟨fg, 0, none⟩), .int .i64 (n : Int), .int .i64 (k : Int), .slice Av n cv] 120 (0, 0)) → CodeE n k w (.returned (.tuple #[.pointer (some ⟨w2.heap.size, 0, none⟩), .int .i64 0])) w3) := hid fun w3 e => by
    subst e
    have hb := (Below.refl w2.heap.size w2).alloc (Nat.le_refl _) (.cells #[.pointer (some ⟨fg, 0, none⟩), .int .i64 (n : Int), .int .i64 (k : Int), .slice Av n cv] 120 (0, 0))
    exact ⟨_, G, rfl, ⟨⟨fg, _, heap_alloc_new _ _, HF2.out.next hb, HS.out.below hb⟩, HL.out, HR.out, hk1, hkn, hn⟩, HG.out, below_then HB2.out hb⟩
  go_wp2
  go_ret2
  exact HE.out _ rfl
theorem N_any (w : World) (c n k : Nat) (G : List (List UInt8)) (h : CodeAt w c n k G) : Calls Try.prog 39 #[.pointer (some ⟨c, 0, none⟩)] w fun e w' => e = .returned (.int .i64 (n : Int)) ∧ w' = w := by
  obtain ⟨fg, R, o, cp, hfd, _, c1, _, _, _⟩ := h.cells
  clear h hfd
  go_enter Try.func39, Try.ntmps39
  go_wp2
  go_ret
  exact ⟨rfl, rfl⟩
theorem K_any (w : World) (c n k : Nat) (G : List (List UInt8)) (h : CodeAt w c n k G) : Calls Try.prog 44 #[.pointer (some ⟨c, 0, none⟩)] w fun e w' => e = .returned (.int .i64 (k : Int)) ∧ w' = w := by
  obtain ⟨fg, R, o, cp, hfd, _, _, c2, _, _⟩ := h.cells
  clear h hfd
  go_enter Try.func44, Try.ntmps44
  go_wp2
  go_ret
  exact ⟨rfl, rfl⟩
/-- rows that are being told, none of them yet -/
def ToldN (B : Nat) (w0 W : World) (ts : List Thing) (M : List (List UInt8)) (k : Nat) (v : Value) : Prop := ∃ vs, vs.length = k ∧ Fam B w0 W (ts ++ gridT v vs (M.take k))
theorem Told.n {B : Nat} {w0 W : World} {ts : List Thing} {M : List (List UInt8)} {k : Nat} {v : Value} (h : Told B w0 W ts M k v) : ToldN B w0 W ts M k v := by
  obtain ⟨R, c, vs, _, h1, h2⟩ := h
  exact ⟨vs, h1, h2⟩
theorem ToldN.start (w : World) (M : List (List UInt8)) : ToldN w.heap.size w w [] M 0 (.slice none 0 0) := ⟨[], rfl, by
  have := Fam.add (Fam.start w) (t := ownT 22 1 (.slice none 0 0) 0 []) (Below.refl _ _) ⟨World.ownsRow_nil _ _ _ _, fun k hk => by cases hk⟩
  simpa [gridT, rowsT] using this⟩
theorem ToldN.own {B : Nat} {w0 W : World} {M : List (List UInt8)} {k : Nat} {v : Value} (h : ToldN B w0 W [] M k v) (hk : k ≤ M.length) : ∃ vs, vs.length = k ∧ Fam B w0 W ([] ++ gridT v vs (M.take k)) ∧ W.ownsRow 0 22 1 v k vs ∧ ∃ A c, v = .slice A k c := by
  obtain ⟨vs, h1, h2⟩ := h
  have h3 := (h2.own (i := 0) rfl).1
  rw [List.length_take, Nat.min_eq_left hk] at h3
  exact ⟨vs, h1, h2, h3, own_form h3⟩
theorem ToldN.slBB {B : Nat} {w0 W : World} {M : List (List UInt8)} {v : Value} (h : ToldN B w0 W [] M M.length v) : SlBB W v M := by
  obtain ⟨vs, h1, h2⟩ := h
  rw [List.take_length] at h2
  have h3 := (h2.own (i := 0) rfl).1
  refine ⟨fun i => vs.getD i (.slice none 0 0), ?_, fun i hi => (h2.rowAt (i := i + 1) (grid_at (Rv := v) h1 hi)).sl⟩
  have e : vs = (List.range M.length).map fun i => vs.getD i (.slice none 0 0) := by
    apply List.ext_getElem
    · simp [h1]
    · intro i h4 h5
      simp [h4]
  rw [e] at h3
  simpa using own_sl h3
theorem ToldN.base {B : Nat} {w0 W : World} {ts : List Thing} {M : List (List UInt8)} {v : Value} {k : Nat} (h : ToldN B w0 W ts M k v) : Below B w0 W := by
  obtain ⟨vs, _, hf⟩ := h
  exact hf.base
/-- all coded rows -/
def enc (G D : List (List UInt8)) (s : Nat) : List (List UInt8) := G.map fun F => comb F D s
theorem enc_length (G D : List (List UInt8)) (s : Nat) : (enc G D s).length = G.length := by simp [enc]
theorem enc_get (G D : List (List UInt8)) (s i : Nat) (hi : i < G.length) : (enc G D s).getD i [] = comb (G.getD i []) D s := by simp [enc, hi]
/-- what Encode answers -/
def EncE (G D : List (List UInt8)) (s n : Nat) (w : World) (e : Ending) (w' : World) : Prop := ∃ A c, e = .returned (.tuple #[.slice A n c, .int .i64 0]) ∧ ToldN w.heap.size w w' [] (enc G D s) n (.slice A n c)
set_option maxRecDepth 100000 in
set_option maxHeartbeats 8000000 in
theorem Encode_any (w : World) (c n k : Nat) (G : List (List UInt8)) (h : CodeAt w c n k G) (v : Value) (D : List (List UInt8)) (hv : SlBB w v D) (s : Nat) (hs : ∀ i, i < D.length → (D.getD i []).length = s) (hD : D.length = k) (hs2 : s ≤ 140737488355328) :
    Calls Try.prog 38 #[.pointer (some ⟨c, 0, none⟩), v] w (EncE G D s n w) := by
  have H := hid h
  have HV := hid hv
  have HS := hid hs
  have HDL := hid hD
  have hk1 := h.k1
  have hkn := h.kn
  have hn := h.n255
  have HGL := hid h.len
  obtain ⟨fg, R, o, cp, hfd, _, _, _, c3, hrow⟩ := h.cells
  have HROW := hid hrow
  have HC := hid c3
  obtain ⟨Av, cv, e1⟩ := hv.form
  rw [hD] at e1
  subst e1
  clear h hv hs hD hfd hrow c3
  go_enter Try.func38, Try.ntmps38
  go_wp2_with fail
  refine (shaped_yes w c n k G H.out _ D HV.out s HS.out HDL.out).mono ?_
  rintro e w1 ⟨rfl, hb⟩
  have HB1 := hid hb
  have c3 : w1.cell? ⟨c, 3, none⟩ = some (.slice (some ⟨R, o, none⟩) n cp) := (hb.cell (World.block_lt_of_cell? w _ HC.out)).trans HC.out
  have HT1 : Hid (ToldN w.heap.size w w1 [] (enc G D s) 0 (.slice none 0 0)) := hid (by
    obtain ⟨vs, h1, h2⟩ := ToldN.start w (enc G D s)
    exact ⟨vs, h1, h2.below hb⟩)
  clear hb
  go_wp2
  clear c3
  go_loopw [6, 8, 20] (fun l _ x wr => ∃ i : Nat, i ≤ n ∧ x = .int .i64 i ∧ ToldN w.heap.size w wr [] (enc G D s) i l) (fun _ _ x _ => n - (intOf x).toNat)
  case atStart => exact ⟨0, Nat.zero_le _, rfl, HT1.out⟩
  case round =>
    clear HT1 HB1
    obtain ⟨i, hi, rfl, ht⟩ := hrel
    have hel : i ≤ (enc G D s).length := by rw [enc_length, HGL.out]; exact hi
    obtain ⟨vs, hvl, hf, ho, A, cl, rfl⟩ := ht.own hel
    have HVL := hid hvl
    have HF := hid hf
    have HO := hid ho
    have HT := hid ht
    clear hvl hf ho ht hel
    by_cases hlt : i < n
    · obtain ⟨A1, q1, e0, s1⟩ := HROW.out i hlt
      have e1 : wr.cell? ⟨R, o + i, none⟩ = some (.slice A1 k q1) := (HF.out.base.cell (World.block_lt_of_cell? w _ e0)).trans e0
      obtain ⟨Fi, hFi⟩ : ∃ Fi, G.getD i [] = Fi := ⟨_, rfl⟩
      have hFl := H.out.row i hlt
      rw [hFi] at s1 hFl
      have HFI := hid hFi
      have CS := hid (sum_any wr c n k G (H.out.below HF.out.base) (.slice A1 k q1) Fi (s1.below HF.out.base) (.slice Av k cv) D (HV.out.below HF.out.base) s HS.out (by have := HDL.out; omega) (by have := HDL.out; omega) (by omega) hs2)
      have i0 : (0 : Int) ≤ (i : Int) := by omega
      have i1 : (i : Int) < (n : Int) := by omega
      clear e0 s1 hFi hFl
      go_wp2_with fail
      refine CS.out.mono ?_
      rintro e w3 ⟨y, rfl, hy, hb⟩
      obtain ⟨Ay, cy, e2⟩ := hy.form
      rw [comb_length] at e2
      subst e2
      have HY : Hid (OwnB w3 wr.heap.size (.slice Ay s cy) ((enc G D s).getD i [])) := hid (by rw [enc_get _ _ _ _ (by rw [HGL.out]; exact hlt), HFI.out]; exact hy)
      have HB3 := hid hb
      have HO3 : Hid ((w3.alloc (.cells #[.slice Ay s cy] 22 (0, 0))).ownsRow 0 22 1 (.slice A i cl) i vs) := hid (World.ownsRow.alloc (own_fr HO.out (Fr.of_below HB3.out) (fun _ _ h => h)) _)
      have hin : i ≤ 1099511627776 := by omega
      clear hy hb CS e1
      go_wp2_with (at_builtin; refine wpList_appG rfl (.tmp 24) (.tmp 29) rfl (.slice A i cl) i vs Ay s cy w3.heap.size 22 rfl rfl HO3.out (heap_alloc_new _ _) hin ?_; intro g9 cap9 w9 ho9 hg9 hn9; have H9 := hid (told_next HVL.out HF.out (show i < (enc G D s).length by rw [enc_length, HGL.out]; exact hlt) HB3.out HY.out ((Below.refl _ _).alloc (Nat.le_refl _) (.cells #[.slice Ay s cy] 22 (0, 0))) ho9 hg9 hn9); clear ho9 hg9 hn9)
      go_roundw
      case rel => exact ⟨i + 1, by omega, by go_num, H9.out.n⟩
      case measure => simp [intOf]; omega
    · obtain rfl : n = i := by omega
      go_wp2
      go_ret2
      exact ⟨A, cl, rfl, HT.out⟩
end Go.Proofs.Ytkklonldplekcaa
