/- The walk of package code: Decode. -/
import Derived.Test.YtkklonldplekcaaCdF
import Derived.Test.YtkklonldplekcaaLwA
namespace Go.Proofs.Ytkklonldplekcaa
open Go.RowKit
/-- one row's value more, at a step of a region that draws its order -/
theorem step_appG {w : World} {ops : Array Oper} {o : Oper} {a : Act} {K0 : Act → World → Prop} {Q : Exit → Act → World → Prop} {E : Prop} (hgd : o.guard = none) (s x : Operand)
    (ho : o.op = .call { callee := .builtin .append, args := #[s, x], argTypes := #[35, 35] })
    (v : Value) (n : Nat) (vs : List Value) (A : Option Addr) (m c : Nat) (b : Nat) (t : TypeId) (hs : a.eval s = v) (hx : a.eval x = .slice (some ⟨b, 0, none⟩) 1 1) (hown : w.ownsRow 0 22 1 v n vs)
    (hb : w.heap[b]? = some (.cells #[.slice A m c] t (0, 0))) (hl : n ≤ 1099511627776)
    (h : ∀ g cap w', w'.ownsRow 0 22 1 (.slice (some ⟨g, 0, none⟩) (n + 1) cap) (n + 1) (vs ++ [.slice A m c]) → w.grownBy w' v.ownBlock → (∀ k, (Value.slice (some ⟨g, 0, none⟩) (n + 1) cap).ownBlock = some k → v.ownBlock = some k ∨ w.heap.size ≤ k) → K0 (a.put o.dst (.slice (some ⟨g, 0, none⟩) (n + 1) cap)) w') : if Region.wanted o (yielded ops a.tmps) = true then Oper.wp Try.prog o a w K0 Q else E := by
  obtain ⟨i, hi, hz0, hz1, hz2⟩ := info_parts infoG
  refine step_append_lies w hgd s x 35 ho 0 22 i _ 1 24 Try.underlying35 hi hz0 hz1 hz2 rfl (by omega) v n vs hs hown ⟨b, 0, none⟩ 1 1 [.slice A m c] hx rfl (World.news_of_block (cs := #[.slice A m c]) (t := t) (fr := (0, 0)) hb) (by simp [Value.oneCell']) (by omega) (by unfold maxLen; omega) (by omega) (Nat.zero_le _) w.heap.size rfl ?_
  intro g cap w' hown' hg hat _
  refine h g cap w' hown' hg fun k hk => ?_
  simp only [Value.ownBlock, Option.some.injEq] at hk
  subst hk
  exact hat.imp id (fun e => by omega)
theorem Fam.rebase {w00 w0 w : World} {ts : List Thing} (h : Fam w0.heap.size w0 w ts) (hb : Below w00.heap.size w00 w0) : Fam w00.heap.size w00 w ts := by
  obtain ⟨ρ, h1, h2, h3, h4⟩ := h
  exact ⟨ρ, h1, fun k hk => ⟨Nat.le_trans hb.size (h2 k hk).1, (h2 k hk).2⟩, below_then hb h3, Nat.le_trans hb.size h4⟩
theorem ToldN.slB_ {B : Nat} {w0 W : World} {M : List (List UInt8)} {v : Value} {k : Nat} (h : ToldN B w0 W [] M k v) (hk : M.length = k) : SlBB W v M := by subst hk; exact h.slBB
theorem ToldN.below {B : Nat} {w0 W W' : World} {M : List (List UInt8)} {v : Value} {k : Nat} (h : ToldN B w0 W [] M k v) (hb : Below W.heap.size W W') : ToldN B w0 W' [] M k v := by
  obtain ⟨vs, h1, h2⟩ := h
  exact ⟨vs, h1, h2.below hb⟩
theorem Fam.two (w : World) : Fam w.heap.size w w [ownT 22 1 (.slice none 0 0) 0 [], ownT 22 1 (.slice none 0 0) 0 []] := by
  have h1 := Fam.add (Fam.start w) (t := ownT 22 1 (.slice none 0 0) 0 []) (Below.refl _ _) ⟨World.ownsRow_nil _ _ _ _, fun k hk => by cases hk⟩
  have h2 := h1.add (t := ownT 22 1 (.slice none 0 0) 0 []) (Below.refl _ _) ⟨World.ownsRow_nil _ _ _ _, fun k hk => by cases hk⟩
  exact h2
/-- the number of part i -/
def ixOf (ps : List (Int × List UInt8)) (i : Nat) : Nat := (prt ps i).1.toNat
/-- the rows of the generator that the first k parts have -/
def hRows (G : List (List UInt8)) (ps : List (Int × List UInt8)) (k : Nat) : List (List UInt8) := (List.range k).map fun i => G.getD (ixOf ps i) []
def gRows (ps : List (Int × List UInt8)) (k : Nat) : List (List UInt8) := (List.range k).map fun i => (prt ps i).2
theorem hRows_get {G : List (List UInt8)} {ps : List (Int × List UInt8)} {k i : Nat} (h : i < k) : (hRows G ps k).getD i [] = G.getD (ixOf ps i) [] := by simp [hRows, h]
theorem gRows_get {ps : List (Int × List UInt8)} {k i : Nat} (h : i < k) : (gRows ps k).getD i [] = (prt ps i).2 := by simp [gRows, h]
/-- values that read as rows: a list that owns them reads -/
theorem own_rows {w : World} {v : Value} {k : Nat} {f : Nat → Value} {M : List (List UInt8)} (h : w.ownsRow 0 22 1 v k ((List.range k).map f)) (hk : M.length = k) (hs : ∀ i, i < k → SlB w (f i) (M.getD i [])) : SlBB w v M := by
  subst hk
  exact ⟨f, own_sl h, hs⟩
/-- what Decode answers -/
def DecE (n k : Nat) (G : List (List UInt8)) (ps : List (Int × List UInt8)) (w : World) (e : Ending) (w' : World) : Prop :=
  (∃ r, r ≠ 0 ∧ e = .returned (.tuple #[.slice none 0 0, .int .i64 r]) ∧ RfE n k ps w (.returned (.int .i64 r)) w') ∨
  (InR n ps ps.length ∧ ¬ Dup ps ps.length ∧ SameS ps ∧ k ≤ ps.length ∧ ∃ X : List (List UInt8), X.length = k ∧ (∀ i, i < k → (X.getD i []).length = k) ∧ (∀ i j, i < k → j < k → Mx.prod 0x1d (ent (hRows G ps k)) (ent X) k i j = Mx.unitM i j) ∧ (∀ i j, i < k → j < k → Mx.prod 0x1d (ent X) (ent (hRows G ps k)) k i j = Mx.unitM i j) ∧
    ((∀ i, k ≤ i → i < ps.length → comb (G.getD (ixOf ps i) []) (enc X (gRows ps k) (prt ps 0).2.length) (prt ps 0).2.length = (prt ps i).2) ∧ (∃ v, e = .returned (.tuple #[v, .int .i64 0]) ∧ ToldN w.heap.size w w' [] (enc X (gRows ps k) (prt ps 0).2.length) k v) ∨
     (∃ i, k ≤ i ∧ i < ps.length ∧ comb (G.getD (ixOf ps i) []) (enc X (gRows ps k) (prt ps 0).2.length) (prt ps 0).2.length ≠ (prt ps i).2) ∧ e = .returned (.tuple #[.slice none 0 0, .int .i64 26]) ∧ Below w.heap.size w w'))
set_option maxRecDepth 100000 in
set_option maxHeartbeats 16000000 in
theorem Decode_any (w : World) (c n k : Nat) (G : List (List UInt8)) (h : CodeAt w c n k G) (hgen : GenOf n k G) (v : Value) (ps : List (Int × List UInt8)) (hv : SlP w v ps) (hl : ps.length ≤ 1099511627776) (hsz : ∀ i, i < ps.length → (prt ps i).2.length ≤ 1099511627776) :
    Calls Try.prog 48 #[.pointer (some ⟨c, 0, none⟩), v] w (DecE n k G ps w) := by
  obtain ⟨A, cp, rfl, hcp⟩ := hv.form
  have hn := h.n255
  have hk1 := h.k1
  have hkn := h.kn
  have H := hid h
  have HV := hid hv
  have HGN := hid hgen
  have HSZ := hid hsz
  have CR := hid (refused_any w c n k G h _ ps hv hl)
  obtain ⟨r, hr⟩ : ∃ r, ps.length = r := ⟨_, rfl⟩
  have HR := hid hr
  rw [hr] at hl hcp CR ⊢
  clear h hv hgen hsz hr
  go_enter Try.func48, Try.ntmps48
  go_wp2_with fail
  refine CR.out.mono ?_
  rintro e w1 hrf
  have HRF := hid hrf
  obtain ⟨hb1, ⟨rfl, h1⟩ | ⟨rfl, h1, h2⟩ | ⟨rfl, h1, h2, h3⟩ | ⟨rfl, h1, h2, h3, h4⟩ | ⟨rfl, hin, hdup, hsame, hkl⟩⟩ := hrf
  · clear hb1 h1
    go_wp2
    go_ret2
    exact .inl ⟨22, by omega, rfl, HRF.out⟩
  · clear hb1 h1 h2
    go_wp2
    go_ret2
    exact .inl ⟨21, by omega, rfl, HRF.out⟩
  · clear hb1 h1 h2 h3
    go_wp2
    go_ret2
    exact .inl ⟨23, by omega, rfl, HRF.out⟩
  · clear hb1 h1 h2 h3 h4
    go_wp2
    go_ret2
    exact .inl ⟨20, by omega, rfl, HRF.out⟩
  have HIN := hid hin
  have HDUP := hid hdup
  have HSAME := hid hsame
  have HB1 := hid hb1
  rw [HR.out] at hkl
  clear hin hdup hsame hb1 HRF CR
  obtain ⟨b, off, rfl, hp⟩ := HV.out.pat (by have := HR.out; omega)
  have HP := hid hp
  obtain ⟨fg, R, o, cR, hfd, c0, c1, c2, c3, hrow⟩ := H.out.cells
  have HFD := hid hfd
  have HC := hid (And.intro c0 (And.intro c2 c3))
  -- the values of the rows and of the parts' bytes
  obtain ⟨rv, hrv⟩ : ∃ rv : Nat → Value, ∀ i, i < n → w.cell? ⟨R, o + i, none⟩ = some (rv i) ∧ SlB w (rv i) (G.getD i []) := ⟨fun i => (w.cell? ⟨R, o + i, none⟩).getD (.slice none 0 0), fun i hi => by
    obtain ⟨A1, q1, e1, s1⟩ := hrow i hi
    show w.cell? ⟨R, o + i, none⟩ = some ((w.cell? ⟨R, o + i, none⟩).getD (.slice none 0 0)) ∧ SlB w ((w.cell? ⟨R, o + i, none⟩).getD (.slice none 0 0)) _
    rw [e1]; exact ⟨rfl, s1⟩⟩
  obtain ⟨gv, hgv⟩ : ∃ gv : Nat → Value, ∀ i, i < r → w.cell? ⟨b, off + i * 2 + 1, none⟩ = some (gv i) ∧ SlB w (gv i) (prt ps i).2 := ⟨fun i => (w.cell? ⟨b, off + i * 2 + 1, none⟩).getD (.slice none 0 0), fun i hi => by
    obtain ⟨A1, q1, _, e1, s1⟩ := hp.at_ i (by have := HR.out; omega)
    show w.cell? ⟨b, off + i * 2 + 1, none⟩ = some ((w.cell? ⟨b, off + i * 2 + 1, none⟩).getD (.slice none 0 0)) ∧ SlB w ((w.cell? ⟨b, off + i * 2 + 1, none⟩).getD (.slice none 0 0)) _
    rw [e1]; exact ⟨rfl, s1⟩⟩
  have HRV := hid hrv
  have HGV := hid hgv
  have HIX : Hid (∀ i, i < r → (prt ps i).1 = ((ixOf ps i : Nat) : Int) ∧ ixOf ps i < n) := hid fun i hi => by
    have := HIN.out i (by have := HR.out; omega)
    unfold ixOf
    omega
  have HK2 := hid ((HB1.out.cell (World.block_lt_of_cell? w _ c2)).trans c2)
  have k2 := HK2.out
  have kr : (k : Int) ≤ (r : Int) := by omega
  have kc : (k : Int) ≤ (cp : Int) := by omega
  have k0 : (0 : Int) ≤ (k : Int) := by omega
  have HF0 := hid (Fam.two w1)
  clear hp hfd c0 c1 c2 c3 hrow hrv hgv HK2
  go_wp2
  clear k2
  go_loopw [7, 8, 10, 35] (fun va vb _ x wr => ∃ j : Nat, j ≤ k ∧ x = .int .i64 j ∧ Fam w1.heap.size w1 wr [ownT 22 1 va j ((List.range j).map fun i => rv (ixOf ps i)), ownT 22 1 vb j ((List.range j).map gv)]) (fun _ _ _ x _ => k - (intOf x).toNat)
  case atStart => exact ⟨0, Nat.zero_le _, rfl, HF0.out⟩
  case round =>
    clear HF0
    obtain ⟨j, hj, rfl, hf⟩ := hrel
    have HF := hid hf
    obtain ⟨Aa, ca, rfl⟩ := own_form (hf.own (i := 0) rfl).1
    obtain ⟨Ab, cb, rfl⟩ := own_form (hf.own (i := 1) rfl).1
    clear hf
    by_cases hlt : j < k
    · have hjr : j < r := by omega
      obtain ⟨hq1, hq2⟩ := HIX.out j hjr
      obtain ⟨_, _, p0, _, _⟩ := HP.out.at_ j (by have := HR.out; omega)
      obtain ⟨p1, sg⟩ := HGV.out j hjr
      obtain ⟨r1, sr⟩ := HRV.out _ hq2
      rw [hq1] at p0
      obtain ⟨q, hq⟩ : ∃ q, ixOf ps j = q := ⟨_, rfl⟩
      rw [hq] at p0 hq2 r1 sr
      obtain ⟨Ag, cg, eg⟩ := sg.form
      obtain ⟨Ar, cr, er⟩ := sr.form
      rw [H.out.row q hq2] at er
      generalize (prt ps j).2.length = sj at eg
      rw [eg] at p1
      rw [er] at r1
      have HEG := hid eg
      have HER := hid er
      have HQ := hid hq
      have hbw := below_then HB1.out HF.out.base
      have p0' : wr.cell? ⟨b, off + j * 2, none⟩ = some (.int .i64 (q : Int)) := (hbw.cell (World.block_lt_of_cell? w _ p0)).trans p0
      have p1' : wr.cell? ⟨b, off + j * 2 + 1, none⟩ = some (.slice Ag sj cg) := (hbw.cell (World.block_lt_of_cell? w _ p1)).trans p1
      have HBW := hid hbw
      have HR1 := hid r1
      have HPS := hid part_size
      have j0 : (0 : Int) ≤ (j : Int) := by omega
      have j1 : (j : Int) < (k : Int) := by omega
      clear hq1 p0 p1 sg sr r1 eg er hq hbw
      go_upto_region 10 with (fail)
      clear p0' p1'
      obtain ⟨pb, hpb⟩ : ∃ pb, wr.heap.size = pb := ⟨_, rfl⟩
      refine Code.seen (fun W => Below wr.heap.size wr W ∧ Fam w1.heap.size w1 W [ownT 22 1 (.slice Aa j ca) j ((List.range j).map fun i => rv (ixOf ps i)), ownT 22 1 (.slice Ab j cb) j ((List.range j).map gv), blkT pb (.cells #[.int .i64 (q : Int), .slice Ag sj cg] 74 (0, 0))]) ?_ fun w2 H2 => ?_
      · rw [← hpb]
        exact ⟨(Below.refl _ _).alloc (Nat.le_refl _) _, HF.out.new _⟩
      rw [hpb]
      have HBW2 := hid (below_then HBW.out H2.out.1)
      have HF2 := hid H2.out.2
      have c3 : w2.cell? ⟨c, 3, none⟩ = some (.slice (some ⟨R, o, none⟩) n cR) := (HBW2.out.cell (World.block_lt_of_cell? w _ HC.out.2.2)).trans HC.out.2.2
      have b0 : w2.cell? ⟨pb, 0, none⟩ = some (.int .i64 (q : Int)) := by rw [blk_cell (HF2.out.blk (i := 2) rfl).1]; rfl
      have r1 : w2.cell? ⟨R, o + q, none⟩ = some (.slice Ar k cr) := (HBW2.out.cell (World.block_lt_of_cell? w _ HR1.out)).trans HR1.out
      have q0 : (0 : Int) ≤ (q : Int) := by omega
      have q1 : (q : Int) < (n : Int) := by omega
      have HFA := hid (HF2.out.below (((Below.refl w2.heap.size w2).alloc (Nat.le_refl _) (.cells #[.slice Ar k cr] 22 (0, 0))).drew))
      have hjb : j ≤ 1099511627776 := by omega
      clear H2 hpb
      go_region_law ((refine step_appG (by rfl) (.tmp 39) (.tmp 48) (by rfl) (.slice Aa j ca) j ((List.range j).map fun i => rv (ixOf ps i)) Ar k cr w2.heap.size 22 (by rfl) (by rfl) ((HFA.out.own (i := 0) rfl).1) (heap_alloc_new w2 _) hjb ?_; intro g9 cap9 w9 ho9 hg9 hn9; have H9 := hid (HFA.out.grow (i := 0) rfl ho9 hg9 hn9); clear ho9 hg9 hn9))
      all_goals
        clear c3 b0 r1
        have b1 : w9.cell? ⟨pb, 1, none⟩ = some (.slice Ag sj cg) := by rw [blk_cell (H9.out.blk (i := 2) rfl).1]; rfl
        have HFB := hid (H9.out.below ((Below.refl w9.heap.size w9).alloc (Nat.le_refl _) (.cells #[.slice Ag sj cg] 22 (0, 0))))
        go_wp2_with (at_builtin; refine wpList_appG rfl (.tmp 50) (.tmp 53) rfl (.slice Ab j cb) j ((List.range j).map gv) Ag sj cg w9.heap.size 22 rfl rfl ((HFB.out.own (i := 1) rfl).1) (heap_alloc_new _ _) hjb ?_; intro g8 cap8 w8 ho8 hg8 hn8; have H8 := hid (HFB.out.grow (i := 1) rfl ho8 hg8 hn8); clear ho8 hg8 hn8)
        have R1 : Hid (Fam w1.heap.size w1 w8 [ownT 22 1 (.slice (some ⟨g9, 0, none⟩) (j + 1) cap9) (j + 1) ((List.range (j + 1)).map fun i => rv (ixOf ps i)), ownT 22 1 (.slice (some ⟨g8, 0, none⟩) (j + 1) cap8) (j + 1) ((List.range (j + 1)).map gv)]) := hid (by
          have h1 := H8.out
          rw [List.range_succ, List.map_append, List.map_append]
          have e1 : [Value.slice Ag sj cg] = List.map gv [j] := by rw [List.map_singleton, HEG.out]
          have e2 : [Value.slice Ar k cr] = List.map (fun i => rv (ixOf ps i)) [j] := by rw [List.map_singleton, HQ.out, HER.out]
          rw [← e1, ← e2]
          exact Fam.back (L := [blkT pb (.cells #[.int .i64 (q : Int), .slice Ag sj cg] 74 (0, 0))]) h1)
        clear b1
        go_roundw
        case rel => exact ⟨j + 1, by omega, by go_num, R1.out⟩
        case measure => simp [intOf]; omega
    · obtain rfl : k = j := by omega
      obtain ⟨s, hs⟩ : ∃ s, (prt ps 0).2.length = s := ⟨_, rfl⟩
      have hsame : ∀ i, i < r → (prt ps i).2.length = s := fun i hi => by rw [← hs]; exact HSAME.out i (by have := HR.out; omega)
      have HS := hid hsame
      have HSE := hid hs
      have hs2 : s ≤ 1099511627776 := by rw [← hs]; exact HSZ.out 0 (by have := HR.out; omega)
      have hbw := below_then HB1.out HF.out.base
      have HBW := hid hbw
      have HROWS := hid (own_rows (M := hRows G ps k) (HF.out.own (i := 0) rfl).1 (by simp [hRows]) (fun i hi => by rw [hRows_get hi]; exact (HRV.out _ (HIX.out i (by omega)).2).2.below hbw))
      have HGIV := hid (own_rows (M := gRows ps k) (HF.out.own (i := 1) rfl).1 (by simp [gRows]) (fun i hi => by rw [gRows_get hi]; exact (HGV.out i (by omega)).2.below hbw))
      have HHL : Hid ((hRows G ps k).length = k ∧ ∀ i, i < k → ((hRows G ps k).getD i []).length = k) := hid ⟨by simp [hRows], fun i hi => by rw [hRows_get hi]; exact H.out.row _ (HIX.out i (by omega)).2⟩
      have CN := hid (New_any wr fg 0x1d (HFD.out.next hbw) _ (hRows G ps k) k HROWS.out ⟨by rw [HHL.out.1]; omega, by rw [HHL.out.1]; omega⟩ (fun i hi => HHL.out.2 i (by have := HHL.out.1; omega)) ⟨by omega, by omega⟩)
      have c0 : wr.cell? ⟨c, 0, none⟩ = some (.pointer (some ⟨fg, 0, none⟩)) := (hbw.cell (World.block_lt_of_cell? w _ HC.out.1)).trans HC.out.1
      clear hsame hs hbw HF
      go_wp2_with fail
      refine CN.out.mono ?_
      rintro e w2 ⟨m, rfl, hm, hb⟩
      have HM := hid hm
      have HB2 := hid (below_then HBW.out hb)
      have HGIV2 := hid (HGIV.out.below hb)
      clear hm hb CN c0 HROWS HGIV
      go_wp2_with fail
      refine (Invert_any w2 m 0x1d (hRows G ps k) k HM.out HHL.out.1 (by omega)).mono ?_
      rintro e w3 ⟨hb, ⟨p, hp, hrk, _⟩ | ⟨mx, X, rfl, hmx, hlx, hp1, hp2⟩⟩
      · exact absurd (gen_full HFD.out.gen HGN.out (by omega) (ixOf ps) (fun i hi => (HIX.out i (by omega)).2) (fun i j hi hj e => Classical.byContradiction fun hne => HDUP.out (by
          have h1 := (HIX.out i (by omega)).1
          have h2 := (HIX.out j (by omega)).1
          have hr := HR.out
          rcases Nat.lt_or_gt_of_ne hne with h | h
          · exact ⟨i, j, h, by omega, by rw [h1, h2, e]⟩
          · exact ⟨j, i, h, by omega, by rw [h1, h2, e]⟩)) (fun i j hi _ => by unfold ent; rw [hRows_get hi]) hrk) (by omega)
      have HX := hid hmx
      have HXL := hid hlx
      have HP1 := hid hp1
      have HP2 := hid hp2
      have HB3 := hid (below_then HB2.out hb)
      have HGIV3 := hid (HGIV2.out.below hb)
      clear hmx hlx hp1 hp2 hb HM HGIV2
      go_wp2_with fail
      refine (Rows_read w3 mx 0x1d X k HX.out).mono ?_
      rintro e w4 ⟨vx, rfl, hs, hb⟩
      obtain ⟨Ax, cx, ex⟩ := hs.form
      rw [HXL.out] at ex
      subst ex
      have HXS := hid hs
      have HXR : Hid (∀ i, i < k → (X.getD i []).length = k) := hid (fun i hi => HX.out.len i (by rw [HXL.out]; exact hi))
      have HB4 := hid (below_then HB3.out hb)
      have HGIV4 := hid (HGIV3.out.below hb)
      have HGL : Hid ((gRows ps k).length = k ∧ ∀ i, i < k → ((gRows ps k).getD i []).length = s) := hid ⟨by simp [gRows], fun i hi => by rw [gRows_get hi]; exact HS.out i (by omega)⟩
      have HT0 := hid (ToldN.start w4 (enc X (gRows ps k) s))
      clear hs hb HGIV3 HX
      go_wp2
      go_loopw [15, 17, 73] (fun l _ x wr => ∃ i : Nat, i ≤ k ∧ x = .int .i64 i ∧ ToldN w4.heap.size w4 wr [] (enc X (gRows ps k) s) i l) (fun _ _ x _ => k - (intOf x).toNat)
      case atStart => exact ⟨0, Nat.zero_le _, rfl, HT0.out⟩
      case round =>
        clear HT0
        obtain ⟨i, hi, rfl, ht⟩ := hrel
        have hel : (enc X (gRows ps k) s).length = k := by rw [enc_length, HXL.out]
        have HEL := hid hel
        obtain ⟨vs, hvl, hf, ho, Al, cl, rfl⟩ := ht.own (by rw [hel]; exact hi)
        have HVL := hid hvl
        have HF := hid hf
        have HO := hid ho
        have HT := hid ht
        have HBo := hid ht.base
        clear hvl hf ho ht hel
        by_cases hlt : i < k
        · obtain ⟨Rx, ox, vx0, rfl, e0, s1⟩ := HXS.out.at_ i (by rw [HXL.out]; exact hlt)
          obtain ⟨A1, q1, e1⟩ := s1.form
          rw [HXR.out i hlt] at e1
          subst e1
          have e1 : wr.cell? ⟨Rx, ox + i, none⟩ = some (.slice A1 k q1) := (HBo.out.cell (World.block_lt_of_cell? w4 _ e0)).trans e0
          have hbw := below_then HB4.out HBo.out
          have CS := hid (sum_any wr c n k G (H.out.below hbw) (.slice A1 k q1) (X.getD i []) (s1.below HBo.out) _ (gRows ps k) (HGIV4.out.below HBo.out) s (fun t ht => HGL.out.2 t (by have := HGL.out.1; omega)) (by rw [HGL.out.1]; omega) (by rw [HGL.out.1, HXR.out i hlt]; exact Nat.le_refl _) (by rw [HXR.out i hlt]; omega) (by omega))
          have i0 : (0 : Int) ≤ (i : Int) := by omega
          have i1 : (i : Int) < (k : Int) := by omega
          clear e0 s1 hbw
          go_wp2_with fail
          refine CS.out.mono ?_
          rintro e w5 ⟨y, rfl, hy, hb⟩
          obtain ⟨Ay, cy, e2⟩ := hy.form
          rw [comb_length] at e2
          subst e2
          have HY : Hid (OwnB w5 wr.heap.size (.slice Ay s cy) ((enc X (gRows ps k) s).getD i [])) := hid (by rw [enc_get _ _ _ _ (by rw [HXL.out]; exact hlt)]; exact hy)
          have HB5 := hid hb
          have HO3 : Hid ((w5.alloc (.cells #[.slice Ay s cy] 22 (0, 0))).ownsRow 0 22 1 (.slice Al i cl) i vs) := hid (World.ownsRow.alloc (own_fr HO.out (Fr.of_below HB5.out) (fun _ _ h => h)) _)
          have hin : i ≤ 1099511627776 := by omega
          clear hy hb CS e1
          go_wp2_with (at_builtin; refine wpList_appG rfl (.tmp 77) (.tmp 82) rfl (.slice Al i cl) i vs Ay s cy w5.heap.size 22 rfl rfl HO3.out (heap_alloc_new _ _) hin ?_; intro g9 cap9 w9 ho9 hg9 hn9; have H9 := hid (told_next HVL.out HF.out (show i < (enc X (gRows ps k) s).length by rw [HEL.out]; exact hlt) HB5.out HY.out ((Below.refl _ _).alloc (Nat.le_refl _) (.cells #[.slice Ay s cy] 22 (0, 0))) ho9 hg9 hn9); clear ho9 hg9 hn9)
          go_roundw
          case rel => exact ⟨i + 1, by omega, by go_num, H9.out.n⟩
          case measure => simp [intOf]; omega
        · obtain rfl : k = i := by omega
          obtain ⟨wo, rfl⟩ : ∃ wo : World, wo = wr := ⟨_, rfl⟩
          have HBW5 := hid (below_then HB4.out HBo.out)
          have HTF : Hid (ToldN w.heap.size w wo [] (enc X (gRows ps k) s) k (.slice Al k cl)) := hid (by
            obtain ⟨vs, h1, h2⟩ := HT.out
            exact ⟨vs, h1, Fam.rebase h2 HB4.out⟩)
          have HD := hid (ToldN.slB_ HT.out HEL.out)
          have HDL : Hid (∀ t, t < k → ((enc X (gRows ps k) s).getD t []).length = s) := hid fun t ht => by rw [enc_get _ _ _ _ (by rw [HXL.out]; exact ht), comb_length]
          have c2 : wo.cell? ⟨c, 2, none⟩ = some (.int .i64 (k : Int)) := (HBW5.out.cell (World.block_lt_of_cell? w _ HC.out.2.1)).trans HC.out.2.1
          obtain ⟨D, hDe⟩ : ∃ D, enc X (gRows ps k) s = D := ⟨_, rfl⟩
          rw [hDe] at HTF HD HDL HEL
          have HDE := hid hDe
          clear HT HF HO HVL hDe
          by_cases hrk : k < r
          · obtain ⟨d, rfl⟩ : ∃ d, r = k + d := ⟨r - k, by omega⟩
            have hcpk : ¬ cp = k := by omega
            have hkc : (k : Int) ≤ ((k + d : Nat) : Int) := by omega
            have hcc : ((k + d : Nat) : Int) ≤ (cp : Int) := by omega
            go_wp2
            clear c2
            go_loopw [19, 92] (fun _ x wr => ∃ i : Nat, i ≤ d ∧ x = .int .i64 i ∧ Below wo.heap.size wo wr ∧ ∀ t, k ≤ t → t < k + i → comb (G.getD (ixOf ps t) []) D s = (prt ps t).2) (fun _ x _ => d - (intOf x).toNat)
            case atStart => exact ⟨0, Nat.zero_le _, rfl, Below.refl _ _, fun t h1 h2 => by omega⟩
            case round =>
              obtain ⟨i, hi, rfl, hb, hall⟩ := hrel
              have HBi := hid hb
              have HALL := hid hall
              have HBWi := hid (below_then HBW5.out hb)
              clear hb hall
              by_cases hlt2 : i < d
              · obtain ⟨hq1, hq2⟩ := HIX.out (k + i) (by omega)
                obtain ⟨_, _, p0, _, _⟩ := HP.out.at_ (k + i) (by have := HR.out; omega)
                obtain ⟨p1, sg⟩ := HGV.out (k + i) (by omega)
                obtain ⟨r1, sr⟩ := HRV.out _ hq2
                rw [hq1] at p0
                rw [show off + (k + i) * 2 = off + k * 2 + i * 2 by omega] at p0 p1
                obtain ⟨q, hq⟩ : ∃ q, ixOf ps (k + i) = q := ⟨_, rfl⟩
                rw [hq] at p0 hq2 r1 sr
                obtain ⟨Ag, cg, eg⟩ := sg.form
                obtain ⟨Ar, cr, er⟩ := sr.form
                rw [H.out.row q hq2] at er
                rw [HS.out (k + i) (by omega)] at eg
                rw [eg] at p1 sg
                rw [er] at r1 sr
                have HQ := hid hq
                have hbw := HBWi.out
                have p0' : wr.cell? ⟨b, off + k * 2 + i * 2, none⟩ = some (.int .i64 (q : Int)) := (hbw.cell (World.block_lt_of_cell? w _ p0)).trans p0
                have p1' : wr.cell? ⟨b, off + k * 2 + i * 2 + 1, none⟩ = some (.slice Ag s cg) := (hbw.cell (World.block_lt_of_cell? w _ p1)).trans p1
                have HR1 := hid r1
                have HSG := hid sg
                have HSR := hid sr
                have HPS := hid part_size
                have j0 : (0 : Int) ≤ (i : Int) := by omega
                have j1 : (i : Int) < (d : Int) := by omega
                clear hq1 p0 p1 sg sr r1 eg er hq hbw
                go_upto_region 24 with (fail)
                clear p0' p1'
                obtain ⟨pb, hpb⟩ : ∃ pb, wr.heap.size = pb := ⟨_, rfl⟩
                refine Code.seen (fun W => Below wr.heap.size wr W ∧ W.heap[pb]? = some (.cells #[.int .i64 (q : Int), .slice Ag s cg] 74 (0, 0))) ?_ fun w6 H6 => ?_
                · rw [← hpb]
                  exact ⟨(Below.refl _ _).alloc (Nat.le_refl _) _, heap_alloc_new _ _⟩
                rw [hpb]
                have HB6 := hid (below_then HBi.out H6.out.1)
                have HBW6 := hid (below_then HBW5.out HB6.out)
                have c3 : w6.cell? ⟨c, 3, none⟩ = some (.slice (some ⟨R, o, none⟩) n cR) := (HBW6.out.cell (World.block_lt_of_cell? w _ HC.out.2.2)).trans HC.out.2.2
                have b0 : w6.cell? ⟨pb, 0, none⟩ = some (.int .i64 (q : Int)) := by rw [blk_cell H6.out.2]; rfl
                have b1 : w6.cell? ⟨pb, 1, none⟩ = some (.slice Ag s cg) := by rw [blk_cell H6.out.2]; rfl
                have r1 : w6.cell? ⟨R, o + q, none⟩ = some (.slice Ar k cr) := (HBW6.out.cell (World.block_lt_of_cell? w _ HR1.out)).trans HR1.out
                have HSall : ∀ W : World, Below w6.heap.size w6 W → W.cell? ⟨c, 3, none⟩ = some (.slice (some ⟨R, o, none⟩) n cR) ∧ W.cell? ⟨pb, 0, none⟩ = some (.int .i64 (q : Int)) ∧ W.cell? ⟨pb, 1, none⟩ = some (.slice Ag s cg) ∧ W.cell? ⟨R, o + q, none⟩ = some (.slice Ar k cr) := fun W hb => ⟨(hb.cell (World.block_lt_of_cell? w6 _ c3)).trans c3, (hb.cell (World.block_lt_of_cell? w6 _ b0)).trans b0, (hb.cell (World.block_lt_of_cell? w6 _ b1)).trans b1, (hb.cell (World.block_lt_of_cell? w6 _ r1)).trans r1⟩
                have HSA := hid HSall
                have hbd := below_then HBW6.out (Below.refl w6.heap.size w6).drew
                have CS := hid (sum_any w6.drew c n k G (H.out.below hbd) (.slice Ar k cr) (G.getD q []) (HSR.out.below hbd) (.slice Al k cl) D (HD.out.below (below_then HB6.out (Below.refl w6.heap.size w6).drew)) s (fun t ht => HDL.out t (by have := HEL.out; omega)) (by rw [HEL.out]; omega) (by rw [HEL.out, H.out.row q hq2]; exact Nat.le_refl _) (by rw [H.out.row q hq2]; omega) (by omega))
                have HS0 := hid (HSall w6.drew (Below.refl w6.heap.size w6).drew)
                have q0 : (0 : Int) ≤ (q : Int) := by omega
                have q1 : (q : Int) < (n : Int) := by omega
                clear H6 hpb HSall hbd
                obtain ⟨L, hL⟩ : ∃ L, comb (G.getD q []) D s = L := ⟨_, rfl⟩
                have hLl : L.length = s := by rw [← hL, comb_length]
                rw [hL] at CS
                have HL := hid hL
                have HLL := hid hLl
                obtain ⟨P, hP⟩ : ∃ P, (prt ps (k + i)).2 = P := ⟨_, rfl⟩
                rw [hP] at HSG
                have HPP := hid hP
                clear hL hLl hP
                obtain ⟨eq, heq⟩ : ∃ eq, decide (L = P) = eq := ⟨_, rfl⟩
                have HEQ := hid heq
                clear heq
                go_region_held3 (fun W => W.cell? ⟨c, 3, none⟩ = some (.slice (some ⟨R, o, none⟩) n cR) ∧ W.cell? ⟨pb, 0, none⟩ = some (.int .i64 (q : Int)) ∧ W.cell? ⟨pb, 1, none⟩ = some (.slice Ag s cg) ∧ W.cell? ⟨R, o + q, none⟩ = some (.slice Ar k cr))
                  (first | with_reducible exact HS0.out | with_reducible exact HS7.out | with_reducible exact HS8.out _)
                  (first
                    | (go_at_call 79; (with_reducible refine CS.out.mono ?_); rintro e w7 ⟨y, rfl, hy, hb7⟩; obtain ⟨Ay, cy, e2⟩ := hy.form; rw [HLL.out] at e2; subst e2; have HB7 := hid (below_then ((Below.refl w6.heap.size w6).drew : Below w6.heap.size w6 w6.drew) hb7); have HS7 := hid (HSA.out w7 HB7.out); have HS8 := hid (fun (nn : Nat) => HSA.out (w7.drewN nn) (below_drewN HB7.out nn)); have CE := hid (Equal_any w7 (.slice Ay s cy) (.slice Ag s cg) L P hy.sl (HSG.out.below (below_then HBW6.out HB7.out)) (by rw [HLL.out]; omega)); clear hy hb7)
                    | (go_at_call 85; (with_reducible refine CE.out.mono ?_); rintro e w8 ⟨rfl, nn, rfl⟩; rw [HEQ.out]))
                all_goals
                  have HB8 := hid (below_drewN (below_then HB6.out HB7.out) nn)
                  clear c3 b0 b1 r1
                  cases eq
                  · have HE : Hid (DecE n k G ps w (.returned (.tuple #[.slice none 0 0, .int .i64 26])) (w7.drewN nn)) := hid (.inr ⟨HIN.out, HDUP.out, HSAME.out, by rw [HR.out]; omega, X, HXL.out, HXR.out, HP1.out, HP2.out, .inr ⟨⟨k + i, by omega, by rw [HR.out]; omega, by rw [HSE.out, HDE.out, HQ.out, HL.out, HPP.out]; exact of_decide_eq_false HEQ.out⟩, rfl, below_then HBW5.out HB8.out⟩⟩)
                    go_wp2
                    go_ret2
                    exact HE.out
                  · have R1 : Hid (∀ t, k ≤ t → t < k + (i + 1) → comb (G.getD (ixOf ps t) []) D s = (prt ps t).2) := hid fun t h1 h2 => by
                      by_cases e : t = k + i
                      · rw [e, HQ.out, HL.out, HPP.out]; exact of_decide_eq_true HEQ.out
                      · exact HALL.out t h1 (by omega)
                    go_wp2
                    go_roundw
                    case rel => exact ⟨i + 1, by omega, by go_num, HB8.out, R1.out⟩
                    case measure => simp [intOf]; omega
              · have HE : Hid (DecE n k G ps w (.returned (.tuple #[.slice Al k cl, .int .i64 0])) wr) := hid (.inr ⟨HIN.out, HDUP.out, HSAME.out, by rw [HR.out]; omega, X, HXL.out, HXR.out, HP1.out, HP2.out, .inl ⟨fun t h1 h2 => by rw [HSE.out, HDE.out]; exact HALL.out t h1 (by have := HR.out; omega), _, rfl, by rw [HSE.out, HDE.out]; exact HTF.out.below HBi.out⟩⟩)
                go_wp2
                go_ret2
                exact HE.out
          · have hrk2 : r = k := by omega
            have HE : Hid (DecE n k G ps w (.returned (.tuple #[.slice Al k cl, .int .i64 0])) wo) := hid (.inr ⟨HIN.out, HDUP.out, HSAME.out, by rw [HR.out]; omega, X, HXL.out, HXR.out, HP1.out, HP2.out, .inl ⟨fun t h1 h2 => by have := HR.out; omega, _, rfl, by rw [HSE.out, HDE.out]; exact HTF.out⟩⟩)
            subst hrk2
            by_cases hcpk : cp = r
            · subst hcpk
              go_wp2
              go_loop [92] (fun x => x = .int .i64 0) (fun _ => 0)
              case atStart => first | rfl | (simp; done)
              case round =>
                subst hrel
                go_wp2
                go_ret2
                exact HE.out
            · go_wp2
              go_loop [92] (fun x => x = .int .i64 0) (fun _ => 0)
              case atStart => first | rfl | (simp; done)
              case round =>
                subst hrel
                go_wp2
                go_ret2
                exact HE.out
end Go.Proofs.Ytkklonldplekcaa
