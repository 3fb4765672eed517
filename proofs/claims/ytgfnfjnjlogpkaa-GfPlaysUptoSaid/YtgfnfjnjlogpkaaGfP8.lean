/- The walks of the calls that are handed lists. -/
import Derived.Test.YtgfnfjnjlogpkaaGfP7
namespace Go.Proofs.Ytgfnfjnjlogpkaa
open Go.RowKit
theorem box_at {w1 W : World} {gx : Nat} {v0 v1 v2 v3 v4 v5 : Value} (h : w1.heap[gx]? = some (.cells #[v0, v1, v2, v3, v4, v5] 57 (0, 0))) (hb : Below w1.heap.size w1 W) :
    W.cell? ⟨gx, 1, none⟩ = some v1 ∧ W.cell? ⟨gx, 2, none⟩ = some v2 ∧ W.cell? ⟨gx, 4, none⟩ = some v4 ∧ W.cell? ⟨gx, 5, none⟩ = some v5 := by
  have h2 := blk_keep hb h (blk_lt h)
  exact ⟨by rw [blk_cell h2]; rfl, by rw [blk_cell h2]; rfl, by rw [blk_cell h2]; rfl, by rw [blk_cell h2]; rfl⟩
section
variable {w1 W : World} {g1 c1 g2 c2 : Nat} {L M : List UInt8}
abbrev LW (w1 W : World) (g1 c1 g2 c2 : Nat) (L M : List UInt8) : Prop := LS w1 W g1 (L.length + 2) c1 g2 (M.length + 2) c2 (L ++ [77, 78]) (M ++ [77, 78])
theorem whole_a {n1 n2 : Nat} {lb : List UInt8} (h : LS w1 W g1 n1 c1 g2 n2 c2 (L ++ [77, 78]) lb) (v : Value) (hv : SlB W v L) (hL : L.length + 2 ≤ 140737488355328) :
    Calls Try.prog 46 #[.slice (some ⟨g1, 0, none⟩) n1 c1, v] W fun e w' => e = .returned (.bool true) ∧ LS w1 w' g1 n1 c1 g2 n2 c2 (L ++ [77, 78]) lb ∧ Below W.heap.size W w' := by
  refine (whole_any _ v L W h.a.sl hv hL).mono ?_
  rintro e w' ⟨rfl, n, rfl⟩
  exact ⟨rfl, h.drewN n, below_drewN (Below.refl _ _) n⟩
theorem whole_c {n1 n2 : Nat} {la : List UInt8} (h : LS w1 W g1 n1 c1 g2 n2 c2 la (M ++ [77, 78])) (v : Value) (hv : SlB W v M) (hL : M.length + 2 ≤ 140737488355328) :
    Calls Try.prog 46 #[.slice (some ⟨g2, 0, none⟩) n2 c2, v] W fun e w' => e = .returned (.bool true) ∧ LS w1 w' g1 n1 c1 g2 n2 c2 la (M ++ [77, 78]) ∧ Below W.heap.size W w' := by
  refine (whole_any _ v M W h.c.sl hv hL).mono ?_
  rintro e w' ⟨rfl, n, rfl⟩
  exact ⟨rfl, h.drewN n, below_drewN (Below.refl _ _) n⟩
end
set_option maxRecDepth 100000 in
set_option maxHeartbeats 4000000 in
theorem lists_dot (f g : Nat) (q a b : UInt8) (n : Int) (A A' : Option Addr) (cl cm : Nat) (L M : List UInt8) (w : World) (hf : FieldAt w f q) (hr : RF w g q) (hl : SlB w (.slice A L.length cl) L) (hm : SlB w (.slice A' M.length cm) M) (hL : L.length + 2 ≤ 140737488355328) (hM : M.length + 2 ≤ 140737488355328) :
    Calls Try.prog 42 #[.pointer (some ⟨f, 0, none⟩), .pointer (some ⟨g, 0, none⟩), .agg #[.int .i64 8, B a, B b, .int .i64 n, .slice A L.length cl, .slice A' M.length cm]] w fun e w' => e = .returned (.bool true) ∧ Below w.heap.size w w' := by
  have HL := hid hl
  have HM := hid hm
  have HF0 := hid hf
  have HR0 := hid hr
  have HG := hid hf.gen
  clear hl hm hf hr
  go_enter Try.func42, Try.ntmps42
  go_wp2_with fail
  refine Calls.seen (fun W1 => W1.heap[w.heap.size]? = some (.cells #[.int .i64 8, B a, B b, .int .i64 n, .slice A L.length cl, .slice A' M.length cm] 57 (0, 0)) ∧ Below w.heap.size w W1) ⟨heap_alloc_new _ _, (Below.refl _ _).alloc (Nat.le_refl _) _⟩ fun w1 H1 => ?_
  obtain ⟨gx, hgx⟩ : ∃ gx, gx = w.heap.size := ⟨_, rfl⟩
  simp only [← hgx] at H1 ⊢
  have HX := hid H1.out.1
  have HB := hid (show Below w.heap.size w w1 by rw [← hgx]; exact H1.out.2)
  clear H1 hgx
  have HF := hid (HF0.out.below HB.out HF0.out.lt)
  have HR := hid (HR0.out.below HB.out)
  have HL1 := hid (HL.out.below HB.out)
  have HM1 := hid (HM.out.below HB.out)
  clear HF0 HR0 HL HM
  obtain ⟨x1, x2, x4, x5⟩ := box_at HX.out (Below.refl w1.heap.size w1)
  have x0 : w1.cell? ⟨gx, 0, none⟩ = some (.int .i64 8) := by rw [blk_cell HX.out]; rfl
  refine (lent_any _ L w1 HL1.out hL).mono ?_
  rintro e w2 ⟨g1, c1, rfl, ho1, hc1, hb1⟩
  have HO1 := hid ho1
  have HB1 := hid hb1
  have y0 : w2.cell? ⟨gx, 0, none⟩ = some (.int .i64 8) := by rw [blk_cell (blk_keep hb1 HX.out (blk_lt HX.out))]; rfl
  clear ho1 hb1 x0 x1 x2 x4 x5
  obtain ⟨x1, x2, x4, x5⟩ := box_at HX.out HB1.out
  go_wp2_with fail
  refine (lent_any _ M w2 (HM1.out.below HB1.out) hM).mono ?_
  rintro e w3 ⟨g2, c2, rfl, ho2, hc2, hb2⟩
  have hg := (World.ownsRow.lt HO1.out g1 rfl)
  have hg2 := (World.ownsRow.lt ho2 g2 rfl)
  have S3 : Hid (LW w1 w3 g1 c1 g2 c2 L M) := hid ⟨below_then HB1.out hb2, HO1.out.below hb2, own_base ho2 HB1.out.size, by omega⟩
  have z0 : w3.cell? ⟨gx, 0, none⟩ = some (.int .i64 8) := by rw [blk_cell (blk_keep S3.out.b HX.out (blk_lt HX.out))]; rfl
  clear ho2 hb2 HO1 HB1 hg hg2 x1 x2 x4 x5 y0
  obtain ⟨x1, x2, x4, x5⟩ := box_at HX.out S3.out.b
  have i1 : L.length ≤ c1 := by omega
  have i2 : M.length ≤ c2 := by omega
  go_wp2_with fail
  refine (rDot_u g q _ _ L M w3 (HR.out.below S3.out.b) (HL1.out.below S3.out.b) (HM1.out.below S3.out.b) (by omega) (by omega)).mono ?_
  rintro e w4 ⟨rfl, n4, hw⟩
  have S4 : Hid (LW w1 w4 g1 c1 g2 c2 L M) := hid (by rw [hw]; exact S3.out.drewN n4)
  clear hw x1 x2 x4 x5 z0 S3
  obtain ⟨x1, x2, x4, x5⟩ := box_at HX.out S4.out.b
  obtain ⟨dv, hdv⟩ : ∃ dv, dotR q L M = dv := ⟨_, rfl⟩
  obtain ⟨ev, hev⟩ : ∃ ev, shE L M = ev := ⟨_, rfl⟩
  have HDOT : Hid (∀ k, Calls Try.prog 17 #[.pointer (some ⟨f, 0, none⟩), .slice (some ⟨g1, 0, none⟩) L.length c1, .slice (some ⟨g2, 0, none⟩) M.length c2] (w4.drewN k) fun e w' => e = .returned (.tuple #[B dv, .int .i64 ev]) ∧ ∃ n, w' = (w4.drewN k).drewN n) := hid fun k => by
    rw [← hdv, ← hev]
    exact Dot_u f q _ _ L M _ ((HF.out.below S4.out.b HF.out.lt).drewN k) (S4.out.drewN k).a_sl (S4.out.drewN k).c_sl (by omega) (by omega)
  rw [hdv, hev]
  clear hdv hev
  go_wp2
  go_quiet ((go_at_call 17; exact Calls.quiet_of (HDOT.out _)))
  have S5 : Hid (LW w1 (w4.drewN nq) g1 c1 g2 c2 L M) := hid (S4.out.drewN nq)
  go_wp2_with fail
  refine (whole_a S5.out _ (HL1.out.below S5.out.b) hL).mono ?_
  rintro e w6 ⟨rfl, s, -⟩
  have S6 := hid s
  clear s x1 x2 x4 x5 S5
  obtain ⟨x1, x2, x4, x5⟩ := box_at HX.out S6.out.b
  go_wp2_with fail
  refine (whole_c S6.out _ (HM1.out.below S6.out.b) hM).mono ?_
  rintro e w7 ⟨rfl, s, -⟩
  have S7 := hid s
  clear s x1 x2 x4 x5 S6
  obtain ⟨x1, x2, x4, x5⟩ := box_at HX.out S7.out.b
  go_wp2
  go_still_tail 5, (by kernel_rfl)
  change wpList _ _ _ _ _ w7.drew
  have SD : Hid (LW w1 w7.drew g1 c1 g2 c2 L M) := hid (S7.out.drewN 1)
  clear S7
  generalize w7.drew = w8 at *
  go_wp2_with fail
  refine (turned_ls w1 w8 g1 _ c1 g2 _ c2 L _ _ a SD.out (by omega) i1).mono ?_
  rintro e w9 ⟨v, rfl, hv, s9⟩
  have S9 := hid s9
  have HV := hid hv
  obtain ⟨Av, cv, rfl⟩ := hv.form
  have hlv : (L.map fun x => x + 1 + a).length = L.length := by simp
  obtain ⟨L2, hL2⟩ : ∃ L2, (L.map fun x => x + 1 + a) = L2 := ⟨_, rfl⟩
  rw [hL2] at S9 HV hlv ⊢
  have HLV := hid hlv
  clear s9 hv hL2 hlv SD
  obtain ⟨x1, x2, x4, x5⟩ := box_at HX.out S9.out.b
  go_wp2_with fail
  refine (rDot_u g q _ _ L2 M w9 (HR.out.below S9.out.b) HV.out (HM1.out.below S9.out.b) (by rw [HLV.out]; omega) (by omega)).mono ?_
  rintro e w10 ⟨rfl, n10, hw⟩
  have S10 : Hid (LS w1 w10 g1 (L.length + 2) c1 g2 (M.length + 2) c2 (L2 ++ [77, 78]) (M ++ [77, 78])) := hid (by rw [hw]; exact S9.out.drewN n10)
  clear hw x1 x2 x4 x5 S9 HV
  obtain ⟨x1, x2, x4, x5⟩ := box_at HX.out S10.out.b
  obtain ⟨dv, hdv⟩ : ∃ dv, dotR q L2 M = dv := ⟨_, rfl⟩
  obtain ⟨ev, hev⟩ : ∃ ev, shE L2 M = ev := ⟨_, rfl⟩
  have HDOT : Hid (∀ k, Calls Try.prog 17 #[.pointer (some ⟨f, 0, none⟩), .slice (some ⟨g1, 0, none⟩) L.length c1, .slice (some ⟨g2, 0, none⟩) M.length c2] (w10.drewN k) fun e w' => e = .returned (.tuple #[B dv, .int .i64 ev]) ∧ ∃ n, w' = (w10.drewN k).drewN n) := hid fun k => by
    rw [← hdv, ← hev]
    have ha := (S10.out.drewN k).a_sl
    rw [HLV.out] at ha
    exact Dot_u f q _ _ L2 M _ ((HF.out.below S10.out.b HF.out.lt).drewN k) ha (S10.out.drewN k).c_sl (by rw [HLV.out]; omega) (by omega)
  rw [hdv, hev]
  clear hdv hev
  go_wp2
  go_quiet ((go_at_call 17; exact Calls.quiet_of (HDOT.out _)))
  go_wp2
  go_ret
  exact ⟨rfl, below_then HB.out (below_drewN S10.out.b _)⟩
set_option maxRecDepth 100000 in
set_option maxHeartbeats 4000000 in
theorem lists_addmul (f g : Nat) (q a b : UInt8) (n : Int) (A A' : Option Addr) (cl cm : Nat) (L M : List UInt8) (w : World) (hf : FieldAt w f q) (hr : RF w g q) (hl : SlB w (.slice A L.length cl) L) (hm : SlB w (.slice A' M.length cm) M) (hL : L.length + 2 ≤ 140737488355328) (hM : M.length + 2 ≤ 140737488355328) :
    Calls Try.prog 42 #[.pointer (some ⟨f, 0, none⟩), .pointer (some ⟨g, 0, none⟩), .agg #[.int .i64 9, B a, B b, .int .i64 n, .slice A L.length cl, .slice A' M.length cm]] w fun e w' => e = .returned (.bool true) ∧ Below w.heap.size w w' := by
  have HL := hid hl
  have HM := hid hm
  have HF0 := hid hf
  have HR0 := hid hr
  have HG := hid hf.gen
  clear hl hm hf hr
  go_enter Try.func42, Try.ntmps42
  go_wp2_with fail
  refine Calls.seen (fun W1 => W1.heap[w.heap.size]? = some (.cells #[.int .i64 9, B a, B b, .int .i64 n, .slice A L.length cl, .slice A' M.length cm] 57 (0, 0)) ∧ Below w.heap.size w W1) ⟨heap_alloc_new _ _, (Below.refl _ _).alloc (Nat.le_refl _) _⟩ fun w1 H1 => ?_
  obtain ⟨gx, hgx⟩ : ∃ gx, gx = w.heap.size := ⟨_, rfl⟩
  simp only [← hgx] at H1 ⊢
  have HX := hid H1.out.1
  have HB := hid (show Below w.heap.size w w1 by rw [← hgx]; exact H1.out.2)
  clear H1 hgx
  have HF := hid (HF0.out.below HB.out HF0.out.lt)
  have HR := hid (HR0.out.below HB.out)
  have HL1 := hid (HL.out.below HB.out)
  have HM1 := hid (HM.out.below HB.out)
  clear HF0 HR0 HL HM
  obtain ⟨x1, x2, x4, x5⟩ := box_at HX.out (Below.refl w1.heap.size w1)
  have x0 : w1.cell? ⟨gx, 0, none⟩ = some (.int .i64 9) := by rw [blk_cell HX.out]; rfl
  refine (lent_any _ L w1 HL1.out hL).mono ?_
  rintro e w2 ⟨g1, c1, rfl, ho1, hc1, hb1⟩
  have HO1 := hid ho1
  have HB1 := hid hb1
  have y0 : w2.cell? ⟨gx, 0, none⟩ = some (.int .i64 9) := by rw [blk_cell (blk_keep hb1 HX.out (blk_lt HX.out))]; rfl
  clear ho1 hb1 x0 x1 x2 x4 x5
  obtain ⟨x1, x2, x4, x5⟩ := box_at HX.out HB1.out
  go_wp2_with fail
  refine (lent_any _ M w2 (HM1.out.below HB1.out) hM).mono ?_
  rintro e w3 ⟨g2, c2, rfl, ho2, hc2, hb2⟩
  have hg := (World.ownsRow.lt HO1.out g1 rfl)
  have hg2 := (World.ownsRow.lt ho2 g2 rfl)
  have S3 : Hid (LW w1 w3 g1 c1 g2 c2 L M) := hid ⟨below_then HB1.out hb2, HO1.out.below hb2, own_base ho2 HB1.out.size, by omega⟩
  have z0 : w3.cell? ⟨gx, 0, none⟩ = some (.int .i64 9) := by rw [blk_cell (blk_keep S3.out.b HX.out (blk_lt HX.out))]; rfl
  clear ho2 hb2 HO1 HB1 hg hg2 x1 x2 x4 x5 y0
  obtain ⟨x1, x2, x4, x5⟩ := box_at HX.out S3.out.b
  have i1 : L.length ≤ c1 := by omega
  have i2 : M.length ≤ c2 := by omega
  go_wp2_with fail
  refine (rAddMul_u g q a _ _ L M w3 (HR.out.below S3.out.b) (HL1.out.below S3.out.b) (HM1.out.below S3.out.b) (by omega)).mono ?_
  rintro e w4 ⟨r, rfl, ho, hb⟩
  have HO := hid ho
  have HB4 := hid hb
  have S4 : Hid (LW w1 w4 g1 c1 g2 c2 L M) := hid (S3.out.below hb)
  obtain ⟨Ar, cr, rfl⟩ := ho.form
  obtain ⟨Y, hY⟩ : ∃ Y, amR q a L M = Y := ⟨_, rfl⟩
  have hYL : Y.length = L.length := by rw [← hY]; exact amR_length _ _ _ _
  rw [hY] at HO ⊢
  have HY := hid hY
  have HYL := hid hYL
  clear ho hb x1 x2 x4 x5 z0 hY hYL
  obtain ⟨x1, x2, x4, x5⟩ := box_at HX.out S4.out.b
  obtain ⟨ev, hev⟩ : ∃ ev, shE L M = ev := ⟨_, rfl⟩
  rw [hev]
  have HEV := hid hev
  clear hev
  go_wp2
  go_still_tail 9, (by kernel_rfl)
  change wpList _ _ _ _ _ w4.drew
  have SD : Hid (LW w1 w4.drew g1 c1 g2 c2 L M) := hid (S4.out.drewN 1)
  have HOD := hid HO.out.drew
  have hg3 := (World.ownsRow.lt S3.out.a g1 rfl).2
  have hsz : w3.heap.size ≤ w4.drew.heap.size := HB4.out.size
  clear S4 HO HB4
  generalize w4.drew = w5 at *
  go_wp2_with fail
  refine (AddMul_ls w1 w5 f q a HF.out g1 _ c1 g2 _ c2 L M [77, 78] [77, 78] SD.out (by omega) i1).mono ?_
  rintro e w6 ⟨rfl, s6, hg6⟩
  rw [HY.out] at s6
  have S6 := hid s6
  have HO6 : Hid (OwnB w6 w3.heap.size (.slice Ar Y.length cr) Y) := hid (own_block HOD.out fun k hk => hg6.block k (World.ownsRow.lt HOD.out k hk).2 (fun e => by
    injection e with e
    have := (World.ownsRow.lt HOD.out k hk).1
    omega))
  rw [HEV.out]
  clear s6 hg6 x1 x2 x4 x5 SD HOD hsz hg3
  obtain ⟨x1, x2, x4, x5⟩ := box_at HX.out S6.out.b
  go_wp2_with fail
  refine (whole_a S6.out _ HO6.out.sl (by rw [HYL.out]; exact hL)).mono ?_
  rintro e w7 ⟨rfl, s, -⟩
  have S7 := hid s
  clear s x1 x2 x4 x5 S6
  obtain ⟨x1, x2, x4, x5⟩ := box_at HX.out S7.out.b
  go_wp2_with fail
  refine (whole_c S7.out _ (HM1.out.below S7.out.b) hM).mono ?_
  rintro e w8 ⟨rfl, s, -⟩
  have S8 := hid s
  clear s x1 x2 x4 x5 S7
  obtain ⟨x1, x2, x4, x5⟩ := box_at HX.out S8.out.b
  go_wp2
  go_ret
  exact ⟨rfl, below_then HB.out S8.out.b⟩
set_option maxRecDepth 100000 in
set_option maxHeartbeats 4000000 in
theorem lists_eval (kd : Int) (k8 : (kd == 8) = false) (k9 : (kd == 9) = false) (f g : Nat) (q a b : UInt8) (n : Int) (A A' : Option Addr) (cl cm : Nat) (L M : List UInt8) (w : World) (hf : FieldAt w f q) (hr : RF w g q) (hl : SlB w (.slice A L.length cl) L) (hm : SlB w (.slice A' M.length cm) M) (hL : L.length + 2 ≤ 140737488355328) (hM : M.length + 2 ≤ 140737488355328) :
    Calls Try.prog 42 #[.pointer (some ⟨f, 0, none⟩), .pointer (some ⟨g, 0, none⟩), .agg #[.int .i64 kd, B a, B b, .int .i64 n, .slice A L.length cl, .slice A' M.length cm]] w fun e w' => e = .returned (.bool true) ∧ Below w.heap.size w w' := by
  have HL := hid hl
  have HM := hid hm
  have HF0 := hid hf
  have HR0 := hid hr
  have HG := hid hf.gen
  clear hl hm hf hr
  go_enter Try.func42, Try.ntmps42
  go_wp2_with fail
  refine Calls.seen (fun W1 => W1.heap[w.heap.size]? = some (.cells #[.int .i64 kd, B a, B b, .int .i64 n, .slice A L.length cl, .slice A' M.length cm] 57 (0, 0)) ∧ Below w.heap.size w W1) ⟨heap_alloc_new _ _, (Below.refl _ _).alloc (Nat.le_refl _) _⟩ fun w1 H1 => ?_
  obtain ⟨gx, hgx⟩ : ∃ gx, gx = w.heap.size := ⟨_, rfl⟩
  simp only [← hgx] at H1 ⊢
  have HX := hid H1.out.1
  have HB := hid (show Below w.heap.size w w1 by rw [← hgx]; exact H1.out.2)
  clear H1 hgx
  have HF := hid (HF0.out.below HB.out HF0.out.lt)
  have HR := hid (HR0.out.below HB.out)
  have HL1 := hid (HL.out.below HB.out)
  have HM1 := hid (HM.out.below HB.out)
  clear HF0 HR0 HL HM
  obtain ⟨x1, x2, x4, x5⟩ := box_at HX.out (Below.refl w1.heap.size w1)
  have x0 : w1.cell? ⟨gx, 0, none⟩ = some (.int .i64 kd) := by rw [blk_cell HX.out]; rfl
  refine (lent_any _ L w1 HL1.out hL).mono ?_
  rintro e w2 ⟨g1, c1, rfl, ho1, hc1, hb1⟩
  have HO1 := hid ho1
  have HB1 := hid hb1
  have y0 : w2.cell? ⟨gx, 0, none⟩ = some (.int .i64 kd) := by rw [blk_cell (blk_keep hb1 HX.out (blk_lt HX.out))]; rfl
  clear ho1 hb1 x0 x1 x2 x4 x5
  obtain ⟨x1, x2, x4, x5⟩ := box_at HX.out HB1.out
  go_wp2_with fail
  refine (lent_any _ M w2 (HM1.out.below HB1.out) hM).mono ?_
  rintro e w3 ⟨g2, c2, rfl, ho2, hc2, hb2⟩
  have hg := (World.ownsRow.lt HO1.out g1 rfl)
  have hg2 := (World.ownsRow.lt ho2 g2 rfl)
  have S3 : Hid (LW w1 w3 g1 c1 g2 c2 L M) := hid ⟨below_then HB1.out hb2, HO1.out.below hb2, own_base ho2 HB1.out.size, by omega⟩
  have z0 : w3.cell? ⟨gx, 0, none⟩ = some (.int .i64 kd) := by rw [blk_cell (blk_keep S3.out.b HX.out (blk_lt HX.out))]; rfl
  clear ho2 hb2 HO1 HB1 hg hg2 x1 x2 x4 x5 y0
  obtain ⟨x1, x2, x4, x5⟩ := box_at HX.out S3.out.b
  have i1 : L.length ≤ c1 := by omega
  have i2 : M.length ≤ c2 := by omega
  go_wp2_with fail
  refine (rEval_any g q a _ L w3 (HR.out.below S3.out.b) (HL1.out.below S3.out.b) (by omega)).mono ?_
  rintro e w4 ⟨rfl, n4, hw⟩
  have S4 : Hid (LW w1 w4 g1 c1 g2 c2 L M) := hid (by rw [hw]; exact S3.out.drewN n4)
  clear hw x1 x2 x4 x5 z0 S3
  obtain ⟨x1, x2, x4, x5⟩ := box_at HX.out S4.out.b
  obtain ⟨dv, hdv⟩ : ∃ dv, evalFrom q a L = dv := ⟨_, rfl⟩
  have HEV : Hid (∀ k, Calls Try.prog 12 #[.pointer (some ⟨f, 0, none⟩), .slice (some ⟨g1, 0, none⟩) L.length c1, B a] (w4.drewN k) fun e w' => e = .returned (B dv) ∧ ∃ n, w' = (w4.drewN k).drewN n) := hid fun k => by
    rw [← hdv]
    exact Eval_any f q a _ L _ ((HF.out.below S4.out.b HF.out.lt).drewN k) (S4.out.drewN k).a_sl (by omega)
  have HWH : Hid (∀ k, Calls Try.prog 46 #[.slice (some ⟨g1, 0, none⟩) (L.length + 2) c1, .slice A L.length cl] (w4.drewN k) fun e w' => e = .returned (.bool true) ∧ ∃ n, w' = (w4.drewN k).drewN n) := hid fun k =>
    whole_any _ _ L _ (S4.out.drewN k).a.sl ((HL1.out.below S4.out.b).drewN k) hL
  rw [hdv]
  clear hdv
  go_wp2
  go_quiet ((first | (go_at_call 12; exact Calls.quiet_of (HEV.out _)) | (go_at_call 46; exact Calls.quiet_of (HWH.out _))))
  have S5 : Hid (LW w1 (w4.drewN nq) g1 c1 g2 c2 L M) := hid (S4.out.drewN nq)
  clear HEV HWH S4 x1 x2 x4 x5
  generalize w4.drewN nq = w5 at *
  obtain ⟨x1, x2, x4, x5⟩ := box_at HX.out S5.out.b
  go_wp2
  go_still_tail 5, (by kernel_rfl)
  change wpList _ _ _ _ _ w5.drew
  have SD : Hid (LW w1 w5.drew g1 c1 g2 c2 L M) := hid (S5.out.drewN 1)
  clear S5 x1 x2 x4 x5
  generalize w5.drew = w8 at *
  obtain ⟨x1, x2, x4, x5⟩ := box_at HX.out SD.out.b
  go_wp2_with fail
  refine (turned_ls w1 w8 g1 _ c1 g2 _ c2 L _ _ b SD.out (by omega) i1).mono ?_
  rintro e w9 ⟨v, rfl, hv, s9⟩
  have S9 := hid s9
  have HV := hid hv
  obtain ⟨Av, cv, rfl⟩ := hv.form
  have hlv : (L.map fun x => x + 1 + b).length = L.length := by simp
  obtain ⟨L2, hL2⟩ : ∃ L2, (L.map fun x => x + 1 + b) = L2 := ⟨_, rfl⟩
  rw [hL2] at S9 HV hlv ⊢
  have HLV := hid hlv
  clear s9 hv hL2 hlv SD x1 x2 x4 x5
  obtain ⟨x1, x2, x4, x5⟩ := box_at HX.out S9.out.b
  obtain ⟨dv2, hdv⟩ : ∃ dv, evalFrom q a L2 = dv := ⟨_, rfl⟩
  have HEV : Hid (∀ k, Calls Try.prog 12 #[.pointer (some ⟨f, 0, none⟩), .slice (some ⟨g1, 0, none⟩) L.length c1, B a] (w9.drewN k) fun e w' => e = .returned (B dv2) ∧ ∃ n, w' = (w9.drewN k).drewN n) := hid fun k => by
    rw [← hdv]
    have ha := (S9.out.drewN k).a_sl
    rw [HLV.out] at ha
    exact Eval_any f q a _ L2 _ ((HF.out.below S9.out.b HF.out.lt).drewN k) ha (by rw [HLV.out]; omega)
  have HREV : Hid (∀ k, Calls Try.prog 49 #[.pointer (some ⟨g, 0, none⟩), .slice Av L2.length cv, B a] (w9.drewN k) fun e w' => e = .returned (B dv2) ∧ ∃ n, w' = (w9.drewN k).drewN n) := hid fun k => by
    rw [← hdv]
    exact rEval_any g q a _ L2 _ ((HR.out.below S9.out.b).drewN k) (HV.out.drewN k) (by rw [HLV.out]; omega)
  clear hdv
  go_wp2
  go_quiet ((first | (go_at_call 12; exact Calls.quiet_of (HEV.out _)) | (go_at_call 49; exact Calls.quiet_of (HREV.out _))))
  go_wp2
  go_ret
  exact ⟨rfl, below_then HB.out (below_drewN S9.out.b _)⟩
end Go.Proofs.Ytgfnfjnjlogpkaa
