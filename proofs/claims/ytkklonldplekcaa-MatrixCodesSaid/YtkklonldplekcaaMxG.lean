/- The walks of package matrix: Rows, Rank, Apply. -/
import Derived.Test.YtkklonldplekcaaMxF
namespace Go.Proofs.Ytkklonldplekcaa
open Go.RowKit
theorem make_grid0 (w : World) (n : Nat) (hn : n ≤ 1099511627776) : ∃ w', (Instr.makeSlice 35 (.int .i64 0) (.int .i64 (n : Int))).run Try.prog w = .ok (.slice (some ⟨w.heap.size, 0, none⟩) 0 n) w' ∧
    w'.ownsRow w.heap.size 22 1 (.slice (some ⟨w.heap.size, 0, none⟩) 0 n) 0 [] ∧ Below w.heap.size w w' := by
  obtain ⟨i, hi, hz0, hz1, hz2⟩ := info_parts infoG
  obtain ⟨w', h1, h2, h3⟩ := run_make_own (P := Try.prog) w w.heap.size 35 22 i (.slice none 0 0) 1 Try.underlying35 hi hz0 hz1 .i64 .i64 n (by rw [hz2]; omega) (by unfold maxLen; omega) (Nat.le_refl _)
  exact ⟨w', h1, h2, (Below.refl _ _).grown h3 (Nat.le_refl _) (fun k hk => by cases hk)⟩
/-- one row's value more -/
theorem wpList_appG {w : World} {ops : Array Oper} {rest : List Oper} {o : Oper} {a : Act} {Q : Exit → Act → World → Prop} (hgd : o.guard = none) (s x : Operand)
    (ho : o.op = .call { callee := .builtin .append, args := #[s, x], argTypes := #[35, 35] })
    (v : Value) (n : Nat) (vs : List Value) (A : Option Addr) (m c : Nat) (b : Nat) (t : TypeId) (hs : a.eval s = v) (hx : a.eval x = .slice (some ⟨b, 0, none⟩) 1 1) (hown : w.ownsRow 0 22 1 v n vs)
    (hb : w.heap[b]? = some (.cells #[.slice A m c] t (0, 0))) (hl : n ≤ 1099511627776)
    (h : ∀ g cap w', w'.ownsRow 0 22 1 (.slice (some ⟨g, 0, none⟩) (n + 1) cap) (n + 1) (vs ++ [.slice A m c]) → w.grownBy w' v.ownBlock → (∀ k, (Value.slice (some ⟨g, 0, none⟩) (n + 1) cap).ownBlock = some k → v.ownBlock = some k ∨ w.heap.size ≤ k) → wpList Try.prog ops Q rest (a.put o.dst (.slice (some ⟨g, 0, none⟩) (n + 1) cap)) w') : wpList Try.prog ops Q (o :: rest) a w := by
  obtain ⟨i, hi, hz0, hz1, hz2⟩ := info_parts infoG
  refine wpList_append_lies w hgd s x 35 ho 0 22 i _ 1 24 Try.underlying35 hi hz0 hz1 hz2 rfl (by omega) v n vs hs hown ⟨b, 0, none⟩ 1 1 [.slice A m c] hx rfl (World.news_of_block (cs := #[.slice A m c]) (t := t) (fr := (0, 0)) hb) (by simp [Value.oneCell']) (by omega) (by unfold maxLen; omega) (by omega) (Nat.zero_le _) w.heap.size rfl ?_
  intro g cap w' hown' hg hat _
  refine h g cap w' hown' hg fun k hk => ?_
  simp only [Value.ownBlock, Option.some.injEq] at hk
  subst hk
  exact hat.imp id (fun e => by omega)
/-- what is read of a matrix -/
theorem MatAt.cells {w : World} {m : Nat} {q : UInt8} {M : List (List UInt8)} {n : Nat} (h : MatAt w m q M n) : ∃ fg R o c, FieldAt w fg q ∧ w.cell? ⟨m, 0, none⟩ = some (.pointer (some ⟨fg, 0, none⟩)) ∧ w.cell? ⟨m, 1, none⟩ = some (.slice (some ⟨R, o, none⟩) M.length c) ∧ M.length ≤ c ∧
    ∀ i, i < M.length → ∃ A k, w.cell? ⟨R, o + i, none⟩ = some (.slice A n k) ∧ SlB w (.slice A n k) (M.getD i []) ∧ (M.getD i []).length = n := by
  obtain ⟨⟨fg, Rv, h1, h2, f, hsl, h3⟩, h4, h5, h6⟩ := h
  obtain ⟨A, c, rfl, hc, hnil, hA⟩ := hsl
  obtain ⟨R, o, rfl, hcell⟩ := hA h5.1
  refine ⟨fg, R, o, c, h2, by rw [blk_cell h1]; rfl, by rw [blk_cell h1]; rfl, hc, fun i hi => ?_⟩
  have hs := h3 i hi
  obtain ⟨A, k, e⟩ := hs.form
  rw [h4 i hi] at e
  exact ⟨A, k, by rw [hcell i hi, e], by rw [← e]; exact hs, h4 i hi⟩
/-- rows that are being told -/
def Told (B : Nat) (w0 W : World) (ts : List Thing) (M : List (List UInt8)) (k : Nat) (v : Value) : Prop :=
  ∃ R c vs, v = .slice (some ⟨R, 0, none⟩) k c ∧ vs.length = k ∧ Fam B w0 W (ts ++ gridT v vs (M.take k))
theorem told_next {B : Nat} {w0 w w1 w2 w3 : World} {ts : List Thing} {M : List (List UInt8)} {k : Nat} {v u : Value} {vs : List Value} (hl : vs.length = k) (h : Fam B w0 w (ts ++ gridT v vs (M.take k))) (hk : k < M.length) (h1 : Below w.heap.size w w1) (ho : OwnB w1 w.heap.size u (M.getD k [])) (h2 : Below w1.heap.size w1 w2) {g cap : Nat} (ho2 : w3.ownsRow 0 22 1 (.slice (some ⟨g, 0, none⟩) (k + 1) cap) (k + 1) (vs ++ [u])) (hg : w2.grownBy w3 v.ownBlock) (hn : ∀ j, (Value.slice (some ⟨g, 0, none⟩) (k + 1) cap).ownBlock = some j → v.ownBlock = some j ∨ w2.heap.size ≤ j) : Told B w0 w3 ts M (k + 1) (.slice (some ⟨g, 0, none⟩) (k + 1) cap) := by
  have hkl : (M.take k).length = k := by rw [List.length_take]; omega
  have hk1 : (M.take (k + 1)).length = k + 1 := by rw [List.length_take]; omega
  have f1 := (h.add (t := rowT u (M.getD k [])) h1 ⟨own_base ho (Nat.zero_le _), fun j hj => World.ownsRow.lt ho j hj⟩).below h2
  rw [List.append_assoc] at f1
  have f2 := f1.grow (i := ts.length + 0) (e := 22) (s := 1) (n := (M.take k).length) (v := v) (xs := vs) (by rw [get_at]; rfl) ho2 hg hn
  rw [set_at] at f2
  refine ⟨g, cap, vs ++ [u], rfl, by simp [hl], ?_⟩
  unfold gridT at f2 ⊢
  rw [hk1]
  have e : M.take (k + 1) = M.take k ++ [M.getD k []] := by
    rw [List.take_succ_eq_append_getElem hk, List.getD_eq_getElem?_getD, List.getElem?_eq_getElem hk]; rfl
  rw [e, rowsT_snoc _ _ _ _ (by rw [hl, hkl])]
  exact f2
theorem told_below {w wr w1 w2 w3 : World} {v : Value} (hb : Below w.heap.size w wr) (h1 : Below wr.heap.size wr w1) (h2 : Below w1.heap.size w1 w2) (hg : w2.grownBy w3 v.ownBlock) (hv : ∀ j, v.ownBlock = some j → w.heap.size ≤ j) : Below w.heap.size w w3 ∧ ∀ (v' : Value) (_ : True), (∀ j, v'.ownBlock = some j → v.ownBlock = some j ∨ w2.heap.size ≤ j) → ∀ j, v'.ownBlock = some j → w.heap.size ≤ j := by
  have b2 := below_then (below_then hb h1) h2
  refine ⟨b2.grown hg b2.size hv, fun v' _ hn j hj => ?_⟩
  rcases hn j hj with h | h
  · exact hv j h
  · have := b2.size; omega
set_option maxRecDepth 100000 in
set_option maxHeartbeats 8000000 in
theorem Rows_any (B : Nat) (w0 w : World) (ts : List Thing) (hf : Fam B w0 w ts) (m : Nat) (q : UInt8) (M : List (List UInt8)) (n : Nat) (h : MatAt w m q M n) :
    Calls Try.prog 23 #[.pointer (some ⟨m, 0, none⟩)] w fun e w' => ∃ v, e = .returned v ∧ Told B w0 w' ts M M.length v := by
  have H := hid h
  have HFM := hid hf
  have hle := h.le.1
  have hnle := h.le.2
  have hpos := h.pos.1
  obtain ⟨fg, R, o, c, hfd, c0, c1, hcl, hrow⟩ := h.cells
  have HROW := hid hrow
  have HC1 := hid c1
  obtain ⟨w1, hmk, ho1, hb1⟩ := make_grid0 w M.length (by omega)
  have HO1 := hid ho1
  have HB1 := hid hb1
  clear h hf hfd c0 hrow ho1 hb1
  go_enter Try.func23, Try.ntmps23
  go_upto_region 4 with (fail)
  have y1 : w1.cell? ⟨m, 1, none⟩ = some (.slice (some ⟨R, o, none⟩) M.length c) := (HB1.out.cell (World.block_lt_of_cell? w _ HC1.out)).trans HC1.out
  have HT : Hid (Told B w0 w1 ts M 0 (.slice (some ⟨w.heap.size, 0, none⟩) 0 M.length)) := hid ⟨w.heap.size, M.length, [], rfl, rfl, by
    have := HFM.out.add (t := ownT 22 1 (.slice (some ⟨w.heap.size, 0, none⟩) 0 M.length) 0 []) HB1.out ⟨own_base HO1.out (Nat.zero_le _), fun j hj => World.ownsRow.lt HO1.out j hj⟩
    exact this⟩
  clear c1 hmk
  go_wp2
  clear y1
  go_loopw [3, 5, 19] (fun v _ x wr => ∃ k : Nat, k ≤ M.length ∧ x = .int .i64 k ∧ Told B w0 wr ts M k v ∧ Below w.heap.size w wr ∧ ∀ j, v.ownBlock = some j → w.heap.size ≤ j) (fun _ _ x _ => M.length - (intOf x).toNat)
  case atStart => exact ⟨0, Nat.zero_le _, rfl, HT.out, HB1.out, fun j hj => by simp only [Value.ownBlock, Option.some.injEq] at hj; omega⟩
  case round =>
    clear HT HB1 HO1
    obtain ⟨k, hk, rfl, ⟨R', c', vs, rfl, hvl, hfm⟩, hb, hob⟩ := hrel
    have HV := hid hvl
    have HFK := hid hfm
    have HB := hid hb
    clear hvl hfm hb
    by_cases hlt : k < M.length
    · obtain ⟨A, kk, z0, hs, hln⟩ := HROW.out k hlt
      have z1 : wr.cell? ⟨R, o + k, none⟩ = some (.slice A n kk) := (HB.out.cell (World.block_lt_of_cell? w _ z0)).trans z0
      have HS := hid (hs.below HB.out)
      have HLN := hid hln
      have i0 : (0 : Int) ≤ (k : Int) := by omega
      have i1 : (k : Int) < (M.length : Int) := by omega
      have hkl : (M.take k).length = k := by rw [List.length_take]; omega
      have HOW := hid ((HFK.out.own (i := ts.length + 0) (by rw [get_at]; rfl)).1)
      rw [hkl] at HOW
      have HOB := hid hob
      obtain ⟨L, hL⟩ : ∃ L, M.getD k [] = L := ⟨_, rfl⟩
      rw [hL] at HS HLN
      have HL := hid hL
      have HLT := hid hlt
      have hLn : L.length ≤ 512 := by have := HLN.out; omega
      clear z0 hs hln hkl hL
      go_wp2_with (first
        | (at_builtin; refine wpList_appB rfl (.const (.slice none 0 0)) (.tmp 24) rfl wr.heap.size (.slice none 0 0) (.slice A n kk) [] L rfl rfl (OwnB.nil _ _) HS.out (by simp only [List.length_nil]; omega) (Nat.le_refl _) ?_; intro v1 w3 ho1 hg1; rw [List.nil_append] at ho1; have HB3 := hid (OwnB.grown (Below.refl wr.heap.size wr) (OwnB.nil wr wr.heap.size) (Nat.le_refl _) (Nat.le_refl _) hg1); obtain ⟨A3, c3, rfl⟩ := ho1.form; have HO3 := hid ho1; clear ho1 hg1)
        | (at_builtin; refine wpList_appG rfl (.tmp 23) (.tmp 26) rfl (.slice (some ⟨R', 0, none⟩) k c') k vs A3 L.length c3 w3.heap.size 22 rfl rfl (World.ownsRow.alloc ((own_fr HOW.out (Fr.of_below HB3.out) (fun _ _ h => h))) _) (heap_alloc_new _ _) (by omega) ?_; intro g9 cap9 w9 ho9 hg9 hn9; have H9 := hid (told_next HV.out HFK.out HLT.out HB3.out (by rw [HL.out]; exact HO3.out) ((Below.refl _ _).alloc (Nat.le_refl _) (.cells #[.slice A3 L.length c3] 22 (0, 0))) ho9 hg9 hn9); have HBB := hid (told_below HB.out HB3.out ((Below.refl _ _).alloc (Nat.le_refl _) (.cells #[.slice A3 L.length c3] 22 (0, 0))) hg9 HOB.out); have HN9 := hid hn9; clear ho9 hg9 hn9))
      go_roundw
      case rel => exact ⟨k + 1, by omega, by go_num, H9.out, HBB.out.1, HBB.out.2 _ trivial HN9.out⟩
      case measure => simp [intOf]; omega
    · have HE : Hid (Told B w0 wr ts M M.length (.slice (some ⟨R', 0, none⟩) k c')) := hid (by
        obtain rfl : k = M.length := by omega
        exact ⟨R', c', vs, rfl, HV.out, HFK.out⟩)
      go_wp2
      go_ret
      exact ⟨_, rfl, HE.out⟩
theorem mat_cells {w w' : World} {m R o : Nat} {a b d : Value} (h0 : w.cell? ⟨m, 0, none⟩ = some a) (h1 : w.cell? ⟨m, 1, none⟩ = some b) (h2 : w.cell? ⟨R, o, none⟩ = some d) (hb : Below w.heap.size w w') : w'.cell? ⟨m, 0, none⟩ = some a ∧ w'.cell? ⟨m, 1, none⟩ = some b ∧ w'.cell? ⟨R, o, none⟩ = some d :=
  ⟨(hb.cell (World.block_lt_of_cell? w _ h0)).trans h0, (hb.cell (World.block_lt_of_cell? w _ h1)).trans h1, (hb.cell (World.block_lt_of_cell? w _ h2)).trans h2⟩
/-- a matrix has so many pivots -/
def RkE (q : UInt8) (M : List (List UInt8)) (n : Nat) (w : World) (e : Ending) (w' : World) : Prop := ∃ k : Nat, e = .returned (.int .i64 (k : Int)) ∧ Mx.Rk q (ent M) M.length n k ∧ Below w.heap.size w w'
set_option maxRecDepth 100000 in
set_option maxHeartbeats 8000000 in
theorem Rank_any (w : World) (m : Nat) (q : UInt8) (M : List (List UInt8)) (n : Nat) (h : MatAt w m q M n) :
    Calls Try.prog 25 #[.pointer (some ⟨m, 0, none⟩)] w (RkE q M n w) := by
  have H := hid h
  have hle := h.le.1
  have hnle := h.le.2
  have hpos := h.pos.1
  obtain ⟨fg, R, o, c, hfd, c0, c1, hcl, hrow⟩ := h.cells
  obtain ⟨A, kk, z0, hs, hln⟩ := hrow 0 hpos
  rw [Nat.add_zero] at z0
  have HFD := hid hfd
  have HW := hid ((Fam.start w).below (Below.refl w.heap.size w).drew)
  have HD := hid (h.below (Below.refl w.heap.size w).drew)
  have HS0 := hid (show w.drew.cell? ⟨m, 0, none⟩ = some (.pointer (some ⟨fg, 0, none⟩)) ∧ w.drew.cell? ⟨m, 1, none⟩ = some (.slice (some ⟨R, o, none⟩) M.length c) ∧ w.drew.cell? ⟨R, o, none⟩ = some (.slice A n kk) from ⟨c0, c1, z0⟩)
  have hp0 : 0 < M.length := hpos
  clear h hfd hrow hs hln
  go_enter Try.func25, Try.ntmps25
  go_upto_region 3 with (fail)
  go_region_held3 (fun W => W.cell? ⟨m, 0, none⟩ = some (.pointer (some ⟨fg, 0, none⟩)) ∧ W.cell? ⟨m, 1, none⟩ = some (.slice (some ⟨R, o, none⟩) M.length c) ∧ W.cell? ⟨R, o, none⟩ = some (.slice A n kk))
    (first | exact HS0.out | exact HS1.out | exact HS2.out)
    (first
      | (go_at_call 23; (with_reducible refine (Rows_any w.heap.size w w.drew [] HW.out m q M n HD.out).mono ?_); rintro e w1 ⟨v, rfl, R1, r1, vs, rfl, hvl, hf1⟩; have HB1 := hid hf1.base; have HS1 := hid (mat_cells c0 c1 z0 HB1.out); have HF1 := hid hf1; have HVL := hid hvl; clear hf1 hvl)
      | (go_at_call 71; (with_reducible refine (elim_any w.heap.size w w1 [] R1 M.length r1 vs M (by have := HF1.out; rw [List.take_length] at this; exact this) rfl HVL.out n H.out.len rfl HFD.out n (Nat.le_refl _) (by omega) (by omega)).mono ?_); rintro e w2 ⟨pv, fb, rb, rfl, piv, vs2, M2, hred, hel⟩; obtain ⟨A2, k2, rfl⟩ : ∃ A c, pv = Value.slice A piv.length c := own_form hel.pivs; have HRED := hid hred; have HEL := hid hel.fam.base; have HS2 := hid (mat_cells c0 c1 z0 HEL.out); clear hred hel))
  all_goals
    clear c0 c1 z0
    go_wp2
    go_ret
    exact ⟨piv.length, rfl, ⟨ent M2, piv, HRED.out, rfl⟩, HEL.out⟩
theorem dot_sm (q : UInt8) (l m : List UInt8) : ∀ k, dotN q l m k = Mx.sm k fun t => Gf.mul q (l.getD t 0) (m.getD t 0)
  | 0 => rfl
  | k + 1 => by simp only [dotN, Mx.sm]; rw [dot_sm q l m k]
theorem dot_ap (q : UInt8) (M : List (List UInt8)) (X : List UInt8) (n i : Nat) : dotN q (M.getD i []) X n = Mx.ap q (ent M) n (fun j => X.getD j 0) i := dot_sm q _ _ n
theorem put_next {f : Nat → UInt8} {Y : List UInt8} {r k : Nat} (h : Y.length = r ∧ ∀ t, t < k → Y.getD t 0 = f t) (hk : k < r) {b : UInt8} (hb : b = f k) : (Y.set k b).length = r ∧ ∀ t, t < k + 1 → (Y.set k b).getD t 0 = f t := by
  refine ⟨by rw [List.length_set]; exact h.1, fun t ht => ?_⟩
  rw [List.getD_eq_getElem?_getD, List.getElem?_set]
  by_cases e : k = t
  · subst e
    rw [if_pos rfl, if_pos (by omega), hb]; rfl
  · rw [if_neg e, ← List.getD_eq_getElem?_getD, h.2 t (by omega)]
set_option maxRecDepth 100000 in
set_option maxHeartbeats 8000000 in
theorem Apply_any (w : World) (m : Nat) (q : UInt8) (M : List (List UInt8)) (n : Nat) (h : MatAt w m q M n) (u : Value) (X : List UInt8) (hu : SlB w u X) (hx : X.length = n) :
    Calls Try.prog 31 #[.pointer (some ⟨m, 0, none⟩), u] w fun e w' => ∃ v Y, e = .returned (.tuple #[v, .int .i64 0]) ∧ OwnB w' w.heap.size v Y ∧ Y.length = M.length ∧ (∀ i, i < M.length → Y.getD i 0 = Mx.ap q (ent M) n (fun j => X.getD j 0) i) ∧ Below w.heap.size w w' := by
  have hle := h.le.1
  have hnle := h.le.2
  have hpos := h.pos.1
  obtain ⟨fg, R, o, c, hfd, c0, c1, hcl, hrow⟩ := h.cells
  obtain ⟨A, kk, z0, hs, hln⟩ := hrow 0 hpos
  rw [Nat.add_zero] at z0
  obtain ⟨Au, cu, rfl⟩ := hu.form
  have HU := hid hu
  have HROW := hid hrow
  have HFD := hid hfd
  have HC := hid (And.intro c0 c1)
  have HXL := hid hx
  obtain ⟨w1, hmk, ho1, hb1⟩ := make_bytes w M.length (by omega)
  have HO1 := hid ho1
  have HB1 := hid hb1
  have hbe : ((X.length : Int) != (n : Int)) = false := by rw [hx]; simp
  have hbe2 : (X.length != n) = false := by rw [hx]; simp
  clear h hfd hrow hs hln hu ho1 hb1 hx
  go_enter Try.func31, Try.ntmps31
  go_upto_region 6 with (fail)
  clear c0 c1 z0 hmk
  have y1 : w1.cell? ⟨m, 1, none⟩ = some (.slice (some ⟨R, o, none⟩) M.length c) := (HB1.out.cell (World.block_lt_of_cell? w _ HC.out.2)).trans HC.out.2
  obtain ⟨g, hg⟩ : ∃ g, w.heap.size = g := ⟨_, rfl⟩
  have HG := hid hg
  rw [hg] at HO1 HB1 ⊢
  clear hg
  go_wp2
  clear y1
  go_loopw [7, 8, 32] (fun _ _ x wr => ∃ (k : Nat) (Y : List UInt8), k ≤ M.length ∧ x = .int .i64 k ∧ (Y.length = M.length ∧ ∀ t, t < k → Y.getD t 0 = Mx.ap q (ent M) n (fun j => X.getD j 0) t) ∧ OwnB wr g (.slice (some ⟨g, 0, none⟩) M.length M.length) Y ∧ Below g w wr) (fun _ _ x _ => M.length - (intOf x).toNat)
  case atStart => exact ⟨0, _, Nat.zero_le _, rfl, ⟨by simp, fun t ht => by omega⟩, HO1.out, HB1.out⟩
  case round =>
    clear HO1 HB1
    obtain ⟨k, Y, hk, rfl, hY, hO, hb⟩ := hrel
    have HY := hid hY
    have HO := hid hO
    have HB := hid hb
    by_cases hlt : k < M.length
    · obtain ⟨A1, k1, z0, hs, hln⟩ := HROW.out k hlt
      have hb2 : Below w.heap.size w wr := by rw [HG.out]; exact hb
      have z1 : wr.cell? ⟨R, o + k, none⟩ = some (.slice A1 n k1) := (hb2.cell (World.block_lt_of_cell? w _ z0)).trans z0
      have y0 : wr.cell? ⟨m, 0, none⟩ = some (.pointer (some ⟨fg, 0, none⟩)) := (hb2.cell (World.block_lt_of_cell? w _ HC.out.1)).trans HC.out.1
      have HDT := hid (Dot_any fg q (.slice A1 n k1) (.slice Au X.length cu) (M.getD k []) X wr (HFD.out.next hb2) (hs.below hb2) (HU.out.below hb2) (by rw [hln, HXL.out]) (by rw [hln]; omega))
      rw [hln, dot_ap] at HDT
      obtain ⟨b, hbv⟩ : ∃ b, Mx.ap q (ent M) n (fun j => X.getD j 0) k = b := ⟨_, rfl⟩
      rw [hbv] at HDT
      have HBV := hid hbv
      obtain ⟨x0, f0⟩ := hO.at_ k (by rw [hY.1]; exact hlt)
      have i0 : (0 : Int) ≤ (k : Int) := by omega
      have i1 : (k : Int) < (M.length : Int) := by omega
      clear hY hO hb hb2 z0 hs hln hbv
      go_wp2_with (go_at_call 73; (with_reducible refine HDT.out.mono ?_); rintro e w3 ⟨rfl, nn, rfl⟩)
      have R1 := hid ((HO.out.drew_ nn).set_ k b)
      have R2 := hid (put_next HY.out hlt HBV.out.symm)
      clear z1 y0 x0 f0 HDT
      go_roundw
      case rel => exact ⟨k + 1, _, by omega, by go_num, R2.out, R1.out, (below_drewN HB.out nn).setCell (Nat.le_refl _) _⟩
      case measure => simp [intOf]; omega
    · have HE : Hid (∀ i, i < M.length → Y.getD i 0 = Mx.ap q (ent M) n (fun j => X.getD j 0) i) := hid fun i hi => HY.out.2 i (by omega)
      have HO2 : Hid (OwnB wr w.heap.size (.slice (some ⟨g, 0, none⟩) M.length M.length) Y) := hid (by rw [HG.out]; exact HO.out)
      have HB2 : Hid (Below w.heap.size w wr) := hid (by rw [HG.out]; exact HB.out)
      clear hY hO hb
      go_wp2
      go_ret2
      exact ⟨_, Y, rfl, HO2.out, HY.out.1, HE.out, HB2.out⟩
end Go.Proofs.Ytkklonldplekcaa
