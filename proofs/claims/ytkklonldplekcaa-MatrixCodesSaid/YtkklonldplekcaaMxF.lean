/- The walks of package matrix: eliminate. -/
import Derived.Test.YtkklonldplekcaaMxE
import Derived.Deep.AppendLies
import Derived.WalkMore
namespace Go.Proofs.Ytkklonldplekcaa
open Go.RowKit
theorem own_form {w : World} {base e s n : Nat} {v : Value} {xs : List Value} (h : w.ownsRow base e s v n xs) : ∃ A c, v = .slice A n c := by
  obtain ⟨_, ⟨rfl, rfl⟩ | ⟨g, cap, cur, rfl, _⟩⟩ := h
  · exact ⟨none, 0, rfl⟩
  · exact ⟨_, cap, rfl⟩
theorem ent_swap (M : List (List UInt8)) (a i : Nat) (ha : a < M.length) (hi : i < M.length) : ent ((M.set a (M.getD i [])).set i (M.getD a [])) = Mx.swapR (ent M) a i := by
  rw [ent_set _ i _ (by simpa using hi), ent_set M a _ ha]
  funext t j
  unfold Mx.swapR ent
  by_cases h1 : t = i
  · rw [if_pos h1]
    by_cases h2 : t = a
    · rw [if_pos h2, ← h1, ← h2]
    · rw [if_neg h2, if_pos h1]
  · rw [if_neg h1]
    by_cases h2 : t = a
    · simp only [if_pos h2]
    · simp only [if_neg h2, if_neg h1]
theorem getD_out (l : List UInt8) (j : Nat) (h : l.length ≤ j) : l.getD j 0 = 0 := by
  rw [List.getD_eq_getElem?_getD, List.getElem?_eq_none h]; rfl
theorem ent_out (M : List (List UInt8)) (t j : Nat) (h : M.length ≤ t) : ent M t j = 0 := by
  unfold ent
  rw [List.getD_eq_getElem?_getD (l := M), List.getElem?_eq_none h]; rfl
theorem ent_scale {q c : UInt8} {N : Nat} (M : List (List UInt8)) (a : Nat) (ha : a < M.length) (hn : (M.getD a []).length = N) {L : List UInt8} (hl : L.length = N) (h : ∀ t, t < N → L.getD t 0 = Gf.mul q ((M.getD a []).getD t 0) c) : ent (M.set a L) = Mx.scaleR q (ent M) a c := by
  rw [ent_set M a L ha]
  funext t j
  unfold Mx.scaleR
  by_cases h1 : t = a
  · rw [if_pos h1, if_pos h1, h1]
    by_cases h2 : j < N
    · exact h j h2
    · rw [getD_out L j (by omega)]
      unfold ent
      rw [getD_out _ j (by omega), Gf.zero_mul]
  · rw [if_neg h1, if_neg h1]
/-- the rows ahead of i are cleared -/
def clTo (q : UInt8) (A : Nat → Nat → UInt8) (a col i : Nat) : Nat → Nat → UInt8 := fun t j => if t < i ∧ t ≠ a then Mx.clearR q A a col t j else A t j
theorem clTo_zero (q : UInt8) (A : Nat → Nat → UInt8) (a col : Nat) : clTo q A a col 0 = A := by
  funext t j
  unfold clTo
  rw [if_neg (by omega)]
theorem clTo_skip (q : UInt8) (A : Nat → Nat → UInt8) (a col : Nat) : clTo q A a col (a + 1) = clTo q A a col a := by
  funext t j
  unfold clTo
  by_cases h : t < a
  · rw [if_pos ⟨by omega, by omega⟩, if_pos ⟨h, by omega⟩]
  · rw [if_neg (by omega), if_neg (by omega)]
theorem clTo_end {q : UInt8} {A : Nat → Nat → UInt8} {a col r : Nat} (h : ∀ t j, r ≤ t → A t j = 0) : clTo q A a col r = Mx.clearR q A a col := by
  funext t j
  unfold clTo
  by_cases h1 : t < r ∧ t ≠ a
  · rw [if_pos h1]
  · rw [if_neg h1]
    unfold Mx.clearR
    by_cases h2 : t = a
    · rw [if_pos h2]
    · rw [if_neg h2, h t j (by omega), h t col (by omega), Gf.zero_mul]; rfl
theorem ent_am {q : UInt8} {N a col i : Nat} {A : Nat → Nat → UInt8} (M : List (List UInt8)) (hi : i < M.length) (hia : i ≠ a) (hn : (M.getD i []).length = N) (hna : (M.getD a []).length = N) (h : ent M = clTo q A a col i) : ent (M.set i (am q (ent M i col) 0 (M.getD i []) (M.getD a []) N)) = clTo q A a col (i + 1) := by
  rw [ent_set M i _ hi]
  funext t j
  have hA : ∀ j, ent M i j = A i j := fun j => by rw [h]; unfold clTo; rw [if_neg (by omega)]
  have hAa : ∀ j, ent M a j = A a j := fun j => by rw [h]; unfold clTo; rw [if_neg (by omega)]
  by_cases e : t = i
  · rw [if_pos e, e]
    unfold clTo
    rw [if_pos ⟨by omega, hia⟩]
    unfold Mx.clearR
    rw [if_neg hia, ← hA j, ← hA col, ← hAa j]
    by_cases h2 : j < N
    · rw [am_get _ _ _ _ _ _ _ (by omega), if_pos (by omega)]; rfl
    · rw [getD_out _ j (by rw [am_length]; omega)]
      unfold ent
      rw [getD_out (M.getD i []) j (by omega), getD_out (M.getD a []) j (by omega), Gf.mul_zero]; rfl
  · rw [if_neg e, h]
    unfold clTo
    by_cases h3 : t < i ∧ t ≠ a
    · rw [if_pos h3, if_pos ⟨by omega, h3.2⟩]
    · rw [if_neg h3, if_neg (by omega)]
theorem infoI : (Try.prog.info? 3).map (fun i => (i.zero, i.size, i.bytes)) = some (some (.int .i64 0), 1, 8) := by kernel_rfl
/-- one pivot more -/
theorem wpList_appI {w : World} {ops : Array Oper} {rest : List Oper} {o : Oper} {a : Act} {Q : Exit → Act → World → Prop} (hgd : o.guard = none) (s x : Operand)
    (ho : o.op = .call { callee := .builtin .append, args := #[s, x], argTypes := #[51, 51] })
    (v : Value) (ps : List Nat) (p : Nat) (b : Nat) (t : TypeId) (hs : a.eval s = v) (hx : a.eval x = .slice (some ⟨b, 0, none⟩) 1 1) (hown : w.ownsRow 0 3 1 v ps.length (ps.map fun (p : Nat) => .int .i64 (p : Int)))
    (hb : w.heap[b]? = some (.cells #[.int .i64 (p : Int)] t (0, 0))) (hl : ps.length ≤ 1099511627776)
    (h : ∀ g cap w', w'.ownsRow 0 3 1 (.slice (some ⟨g, 0, none⟩) (ps.length + 1) cap) (ps.length + 1) ((ps ++ [p]).map fun (p : Nat) => .int .i64 (p : Int)) → w.grownBy w' v.ownBlock → (∀ k, (Value.slice (some ⟨g, 0, none⟩) (ps.length + 1) cap).ownBlock = some k → v.ownBlock = some k ∨ w.heap.size ≤ k) → wpList Try.prog ops Q rest (a.put o.dst (.slice (some ⟨g, 0, none⟩) (ps.length + 1) cap)) w') : wpList Try.prog ops Q (o :: rest) a w := by
  obtain ⟨i, hi, hz0, hz1, hz2⟩ := info_parts infoI
  refine wpList_append_lies w hgd s x 51 ho 0 3 i _ 1 8 Try.underlying51 hi hz0 hz1 hz2 rfl (by omega) v ps.length (ps.map fun (p : Nat) => .int .i64 (p : Int)) hs hown ⟨b, 0, none⟩ 1 1 [.int .i64 (p : Int)] hx rfl (World.news_of_block (cs := #[.int .i64 (p : Int)]) (t := t) (fr := (0, 0)) hb) (by simp [Value.oneCell']) (by omega) (by unfold maxLen; omega) (by omega) (Nat.zero_le _) w.heap.size rfl ?_
  intro g cap w' hown' hg hat _
  refine h g cap w' (by rw [List.map_append]; exact hown') hg fun k hk => ?_
  simp only [Value.ownBlock, Option.some.injEq] at hk
  subst hk
  exact hat.imp id (fun e => by omega)
section
variable {B : Nat} {w0 w w' : World} {ts : List Thing} {fb rb fg R r c : Nat} {pv : Value} {piv : List Nat} {vs : List Value} {M : List (List UInt8)} {N : Nat}
theorem EL.pivs (h : EL B w0 w ts fb rb fg R r c pv piv vs M N) : w.ownsRow 0 3 1 pv piv.length (piv.map fun (p : Nat) => .int .i64 (p : Int)) :=
  (h.fam.own (i := ts.length + 2) (get_app (by unfold Els; rw [get_at]; rfl))).1
theorem EL.more {pv' : Value} {p : Nat} (h : EL B w0 w ts fb rb fg R r c pv piv vs M N) (ho : w'.ownsRow 0 3 1 pv' (piv.length + 1) ((piv ++ [p]).map fun (p : Nat) => .int .i64 (p : Int))) (hg : w.grownBy w' pv.ownBlock) (hn : ∀ k, pv'.ownBlock = some k → pv.ownBlock = some k ∨ w.heap.size ≤ k) : EL B w0 w' ts fb rb fg R r c pv' (piv ++ [p]) vs M N := by
  have hl : (Els ts fb rb fg R r c pv piv).length = ts.length + 3 := by unfold Els; simp
  have h1 := h.fam.grow (i := ts.length + 2) (get_app (by unfold Els; rw [get_at]; rfl)) ho hg hn
  rw [set_app _ _ _ _ (by omega)] at h1
  refine ⟨?_, h.r, h.vl, h.n⟩
  unfold Els at h1 ⊢
  rw [set_at] at h1
  rw [List.length_append, List.length_singleton]
  exact h1
theorem EL.start (h : Fam B w0 w (ts ++ gridT (.slice (some ⟨R, 0, none⟩) r c) vs M)) (hr : r = M.length) (hl : vs.length = M.length) (hn : ∀ i, i < M.length → (M.getD i []).length = N) : EL B w0 ((w.alloc (.cells #[.pointer (some ⟨fg, 0, none⟩)] 31 (0, 0))).alloc (.cells #[.slice (some ⟨R, 0, none⟩) r c] 35 (0, 0))) ts w.heap.size (w.heap.size + 1) fg R r c (.slice none 0 0) [] vs M N := by
  have h1 := (h.new (.cells #[.pointer (some ⟨fg, 0, none⟩)] 31 (0, 0))).new (.cells #[.slice (some ⟨R, 0, none⟩) r c] 35 (0, 0))
  have h2 := h1.add (t := ownT 3 1 (.slice none 0 0) 0 []) (Below.refl _ _) ⟨World.ownsRow_nil _ _ _ _, fun k hk => by cases hk⟩
  rw [List.append_assoc, List.append_assoc] at h2
  have e : (w.alloc (.cells #[.pointer (some ⟨fg, 0, none⟩)] 31 (0, 0))).heap.size = w.heap.size + 1 := by simp
  rw [e] at h2
  exact ⟨Fam.comm (C := [_, _, _]) h2, hr, hl, hn⟩
end
/-- what eliminate has come to behind col columns -/
def ElSt (B : Nat) (w0 : World) (ts : List Thing) (fb rb fg R r c : Nat) (q : UInt8) (M0 : List (List UInt8)) (N k : Nat) (pv : Value) (W : World) : Prop :=
  ∃ (piv : List Nat) (vs : List Value) (M : List (List UInt8)), Mx.Red q r N (ent M0) (ent M) piv k ∧ EL B w0 W ts fb rb fg R r c pv piv vs M N
set_option maxRecDepth 100000 in
set_option maxHeartbeats 16000000 in
theorem elim_any (B : Nat) (w0 w : World) (ts : List Thing) (R r c : Nat) (vs : List Value) (M : List (List UInt8)) (h : Fam B w0 w (ts ++ gridT (.slice (some ⟨R, 0, none⟩) r c) vs M)) (hr : r = M.length) (hl : vs.length = M.length) (N : Nat) (hn : ∀ i, i < M.length → (M.getD i []).length = N) (hB : B = w0.heap.size) {fg : Nat} {q : UInt8} (hF : FieldAt w0 fg q) (cols : Nat) (hc : cols ≤ N) (hr2 : r ≤ 1024) (hN : N ≤ 1024) :
    Calls Try.prog 71 #[.pointer (some ⟨fg, 0, none⟩), .slice (some ⟨R, 0, none⟩) r c, .int .i64 cols] w fun e w' => ∃ pv fb rb, e = .returned pv ∧ ElSt B w0 ts fb rb fg R r c q M N cols pv w' := by
  have hmf : ∀ (fn : Fn) (first cap : Array Value) (w : World), (Instr.makeFunc fn first cap).run Try.prog w = .ok (.func fn first cap) w := fun _ _ _ _ => rfl
  have H0 := hid (EL.start (fg := fg) h hr hl hn)
  have HF := hid (fun (W : World) (hb : Below w0.heap.size w0 W) => hF.below hb hF.lt)
  have HFD := hid hF
  have HB := hid hB
  have HG := hid hF.gen
  clear h hr hl hn hF hB
  go_enter Try.func71, Try.ntmps71
  go_upto_region 1 with (fail)
  obtain ⟨fb, hfb⟩ : ∃ fb, w.heap.size = fb := ⟨_, rfl⟩
  obtain ⟨rb, hrb⟩ : ∃ rb, w.heap.size + 1 = rb := ⟨_, rfl⟩
  refine Code.seen (fun W => EL B w0 W ts fb rb fg R r c (.slice none 0 0) [] vs M N) (by rw [← hfb, ← hrb]; exact H0.out) fun w1 H1 => ?_
  rw [hrb, hfb]
  clear hfb hrb H0
  go_wp2
  go_step3
  go_wp2
  go_step3
  go_wp2
  go_loopw [7, 21] (fun pv x wr => ∃ k, k ≤ cols ∧ x = .int .i64 k ∧ ElSt B w0 ts fb rb fg R r c q M N k pv wr) (fun _ x _ => cols - (intOf x).toNat)
  case atStart => exact ⟨0, Nat.zero_le _, rfl, [], vs, M, Mx.Red.start, H1.out⟩
  case round =>
    clear H1
    obtain ⟨wo, rfl⟩ : ∃ wo : World, wo = wr := ⟨_, rfl⟩
    obtain ⟨k, hk, rfl, piv, vs1, M1, hred, hel⟩ := hrel
    have HRED := hid hred
    have HEL := hid hel
    obtain ⟨Ap, cp, rfl⟩ : ∃ A c, _ = Value.slice A piv.length c := own_form hel.pivs
    have hpl := hred.len
    clear hred hel
    by_cases hlt : k < cols
    · have i0 : (0 : Int) ≤ (k : Int) := by omega
      have i1 : (k : Int) < (cols : Int) := by omega
      have i1n : (k : Int) < (N : Int) := by omega
      go_wp2
      go_loop [13] (fun x => ∃ i : Nat, piv.length ≤ i ∧ i ≤ r ∧ x = .int .i64 i ∧ Hid (∀ t, piv.length ≤ t → t < i → ent M1 t k = 0)) (fun x => r - (intOf x).toNat)
      case atStart => exact ⟨piv.length, Nat.le_refl _, hpl, rfl, hid (fun t h1 h2 => by omega)⟩
      case round =>
        obtain ⟨i, hpi, hir, rfl, HZ⟩ := hrel
        obtain ⟨b1, b2⟩ := HEL.out.boxes
        have j0 : (0 : Int) ≤ (i : Int) := by omega
        by_cases hi : i < r
        · have j1 : (i : Int) < (r : Int) := by omega
          obtain ⟨v, L, hv, hL, ci, fi, oi, li, gi⟩ := HEL.out.row i hi
          obtain ⟨g, c', e, _, _, _⟩ := oi.some_ (by omega)
          subst e
          obtain ⟨x0, f0⟩ := oi.at_ k (by omega)
          obtain ⟨x, hx⟩ : ∃ x, L.getD k 0 = x := ⟨_, rfl⟩
          rw [hx] at x0
          rw [li] at ci
          have HX : Hid (ent M1 i k = x) := hid (by unfold ent; rw [hL]; exact hx)
          clear hv hL fi oi li gi hx f0
          by_cases hxz : x = 0
          · subst hxz
            have x0' : wo.cell? ⟨g, k, none⟩ = some (.int .u8 0) := x0
            clear x0
            have R1 := hid (hid (fun t (h1 : piv.length ≤ t) (h2 : t < i + 1) => (by
              by_cases e : t = i
              · rw [e]; exact HX.out
              · exact HZ.out t h1 (by omega) : ent M1 t k = 0)))
            go_wp2
            go_round
            case rel => exact ⟨i + 1, by omega, by omega, by go_num, R1.out⟩
            case measure => simp [intOf]; omega
          · have hne : ((x.toNat : Int) != 0) = true := by rw [bne_iff_ne]; intro e; exact hxz (UInt8.toNat_inj.1 (by simpa using e))
            have HNZ := hid hxz
            have hcf1 : ∀ (args : Array Value) (w : World), (callFunc 109 args).run Try.prog w = .ok (.enter 109 args) w := fun _ _ => by kernel_rfl
            clear hxz
            go_wp2_with fail
            have hpr : piv.length < r := by omega
            have hrm : r = M1.length := HEL.out.r
            refine (swap_any HEL.out piv.length i hpr hi hr2).mono ?_
            rintro e w2 ⟨rfl, vs2, h2⟩
            obtain ⟨M2, hM2⟩ : ∃ M2, ((M1.set piv.length (M1.getD i [])).set i (M1.getD piv.length [])) = M2 := ⟨_, rfl⟩
            have HE2 : Hid (ent M2 = Mx.swapR (ent M1) piv.length i) := hid (by rw [← hM2]; exact ent_swap M1 _ _ (by omega) (by omega))
            rw [hM2] at h2
            have H2 := hid h2
            have HX2 : Hid (ent M2 piv.length k = x) := hid (by rw [HE2.out]; unfold Mx.swapR; rw [if_pos rfl]; exact HX.out)
            obtain ⟨cv, hcv⟩ := Gf.inv_ex HG.out x HNZ.out
            have HCV := hid hcv
            have HRM := hid hrm
            obtain ⟨b1, b2⟩ := h2.boxes
            obtain ⟨v2, L2, hv2, hL2, ci2, fi2, oi2, li2, gi2⟩ := h2.row piv.length hpr
            obtain ⟨g2, c2, e2, _, _, _⟩ := oi2.some_ (by omega)
            subst e2
            obtain ⟨y0, _⟩ := oi2.at_ k (by omega)
            rw [show L2.getD k 0 = x by have := HX2.out; unfold ent at this; rw [hL2] at this; exact this] at y0
            rw [li2] at ci2
            have HI := hid (fun m => Inv_any fg q x cv hcv (w2.drewN m) (HF.out _ (by have := h2.fam.base; rw [HB.out] at this; exact below_drewN this m)))
            have i2 : (0 : Int) ≤ (piv.length : Int) := by omega
            have i3 : (piv.length : Int) < (r : Int) := by omega
            have hcf3 : ∀ (args : Array Value) (w : World), (callFunc 111 args).run Try.prog w = .ok (.enter 111 args) w := fun _ _ => by kernel_rfl
            have hcf2 : ∀ (args : Array Value) (w : World), (callFunc 110 args).run Try.prog w = .ok (.enter 110 args) w := fun _ _ => by kernel_rfl
            clear h2 hM2 hcv hrm hv2 hL2 fi2 oi2 li2 gi2 x0 ci hne
            go_wp2
            go_quiet ((go_at_call 81; exact Calls.quiet_of (HI.out _)))
            have H3 := hid (H2.out.below (below_drewN (Below.refl _ _) nq))
            clear b1 b2 ci2 y0 HI
            generalize w2.drewN nq = w3 at *
            go_wp2_with fail
            refine (scale_any H3.out HB.out HFD.out piv.length hpr cv hr2 hN).mono ?_
            rintro e w4 ⟨rfl, L', hl', hL', h4⟩
            have HE4 : Hid (ent (M2.set piv.length L') = Mx.scaleR q (ent M2) piv.length cv) := hid (ent_scale M2 piv.length (by have := H3.out.r; omega) (H3.out.n _ (by have := H3.out.r; omega)) hl' hL')
            obtain ⟨M4, hM4⟩ : ∃ M4, M2.set piv.length L' = M4 := ⟨_, rfl⟩
            have HM4 : Hid (M4.length = r) := hid (by rw [← hM4, List.length_set]; exact H3.out.r.symm)
            rw [hM4] at HE4 h4
            have H4 := hid h4
            obtain ⟨b1, b2⟩ := h4.boxes
            clear hM4 h4 hl' hL'
            go_wp2
            clear b1 b2
            go_loopw [16, 63] (fun _ x wr => ∃ (t : Nat) (M5 : List (List UInt8)), t ≤ r ∧ x = .int .i64 t ∧ Hid (ent M5 = clTo q (ent M4) piv.length k t) ∧ EL B w0 wr ts fb rb fg R r c (.slice Ap piv.length cp) piv vs2 M5 N) (fun _ x _ => r - (intOf x).toNat)
            case atStart => exact ⟨0, M4, Nat.zero_le _, rfl, hid (clTo_zero _ _ _ _).symm, H4.out⟩
            case round =>
              clear H4
              obtain ⟨t, M5, ht, rfl, HE5, h5⟩ := hrel
              have H5 := hid h5
              by_cases htr : t < r
              · have k0 : (0 : Int) ≤ (t : Int) := by omega
                have k1 : (t : Int) < (r : Int) := by omega
                by_cases hta : t = piv.length
                · have hb : ((t : Int) != (piv.length : Int)) = false := by rw [hta]; simp
                  have hb2 : (t != piv.length) = false := by rw [hta]; simp
                  have R5 : Hid (ent M5 = clTo q (ent M4) piv.length k (t + 1)) := hid (by rw [HE5.out, hta, clTo_skip])
                  clear hta h5
                  go_wp2
                  go_roundw
                  case rel => exact ⟨t + 1, M5, by omega, by go_num, R5, H5.out⟩
                  case measure => simp [intOf]; omega
                · have hb : ((t : Int) != (piv.length : Int)) = true := by rw [bne_iff_ne]; omega
                  have hb2 : (t != piv.length) = true := by rw [bne_iff_ne]; exact hta
                  have HTA := hid hta
                  obtain ⟨b1, b2⟩ := h5.boxes
                  obtain ⟨v3, L3, hv3, hL3, ci3, fi3, oi3, li3, gi3⟩ := h5.row t htr
                  obtain ⟨g3, c3, e3, _, _, _⟩ := oi3.some_ (by omega)
                  subst e3
                  obtain ⟨z0, _⟩ := oi3.at_ k (by omega)
                  obtain ⟨y, hy⟩ : ∃ y, L3.getD k 0 = y := ⟨_, rfl⟩
                  rw [hy] at z0
                  rw [li3] at ci3
                  have HY : Hid (ent M5 t k = y) := hid (by unfold ent; rw [hL3]; exact hy)
                  have HAD := hid (add_any h5 HB.out HFD.out t piv.length htr hpr y hr2 hN)
                  have HE6 : Hid (ent (M5.set t (am q y 0 (M5.getD t []) (M5.getD piv.length []) N)) = clTo q (ent M4) piv.length k (t + 1)) := hid (by
                    have h6 := ent_am (q := q) M5 (show t < M5.length by have := h5.r; omega) HTA.out (h5.n t (by have := h5.r; omega)) (h5.n _ (by have := h5.r; omega)) HE5.out
                    rw [HY.out] at h6
                    exact h6)
                  clear hta h5 hv3 hL3 fi3 oi3 li3 gi3 hy
                  go_wp2_with fail
                  refine HAD.out.mono ?_
                  rintro e w6 ⟨rfl, h6⟩
                  have H6 := hid h6
                  clear h6 b1 b2 ci3 z0 HAD
                  go_wp2
                  go_roundw
                  case rel => exact ⟨t + 1, _, by omega, by go_num, HE6, H6.out⟩
                  case measure => simp [intOf]; omega
              · have RD : Hid (Mx.Red q r N (ent M) (ent M5) (piv ++ [k]) (k + 1)) := hid (by
                  have h6 := HRED.out.step hpi hi (c := cv) (by rw [HX.out]; exact HCV.out)
                  have e5 : ent M5 = Mx.step q (ent M1) piv.length i k cv := by
                    rw [HE5.out, show t = r by omega, clTo_end (fun t j ht => ent_out M4 t j (by have := H5.out.r; have := HM4.out; omega)), HE4.out, HE2.out]
                    rfl
                  rw [e5]; exact h6)
                clear h5
                go_wp2_with (at_builtin; refine wpList_appI rfl (.tmp 81) (.tmp 83) rfl (.slice Ap piv.length cp) piv k wr.heap.size 3 rfl rfl (World.ownsRow.alloc H5.out.pivs _) (heap_alloc_new _ _) (by omega) ?_; intro g9 cap9 w9 ho9 hg9 hn9; have H9 := hid ((H5.out.below ((Below.refl _ _).alloc (Nat.le_refl _) (.cells #[.int .i64 (k : Int)] 3 (0, 0)))).more ho9 hg9 hn9); clear ho9 hg9 hn9)
                go_roundw
                case rel => exact ⟨k + 1, by omega, by go_num, piv ++ [k], vs2, M5, RD.out, H9.out⟩
                case measure => simp [intOf]; omega
        · have R1 := hid (HRED.out.skip (fun t h1 h2 => HZ.out t h1 (by omega)))
          go_wp2
          go_roundw
          case rel => exact ⟨k + 1, by omega, by go_num, piv, vs1, M1, R1.out, HEL.out⟩
          case measure => simp [intOf]; omega
    · have R1 : Hid (ElSt B w0 ts fb rb fg R r c q M N cols (.slice Ap piv.length cp) wo) := hid ⟨piv, vs1, M1, by have := HRED.out; rwa [show k = cols by omega] at this, HEL.out⟩
      go_wp2
      first
        | (rw [Exit.noGoto_ret]; go_ret; exact ⟨_, fb, rb, rfl, R1.out⟩)
        | (go_ret; exact ⟨_, fb, rb, rfl, R1.out⟩)
end Go.Proofs.Ytkklonldplekcaa
