/- Load. -/
import Derived.Test.YtcadacljacbipaaAll8
namespace Go.Proofs.Ytcadacljacbipaa
open Go.RowKit
theorem DV.put0 {w w1 : World} {S I : Nat → Prop} {d : Nat} {l0 n0 a0 l1 n1 a1 lv nv : Value} {D : Dk} {l : List UInt8} (h : DV w S I d l0 n0 a0 l1 n1 a1 D) (hb : Below w.heap.size w w1) (hl : OwnB w1 w.heap.size lv l) (hn : OwnB w1 w.heap.size nv l) :
    Dt w (((w1.setCell ⟨d, 0, none⟩ lv).setCell ⟨d, 1, none⟩ nv).setCell ⟨d, 2, none⟩ (.slice none 0 0)) S d (D.setSlot 0 ⟨l, []⟩) := by
  have hdl := h.lt d h.sd
  have hF2 : Fr (fun k => k = d) w1 (((w1.setCell ⟨d, 0, none⟩ lv).setCell ⟨d, 1, none⟩ nv).setCell ⟨d, 2, none⟩ (.slice none 0 0)) := (Fr.set_ _ _).trans (((Fr.set_ _ _).trans ((Fr.set_ _ _).mono fun k _ hk => .inl hk)).mono fun k _ hk => .inl hk)
  have hF : Fr (fun k => k = d) w (((w1.setCell ⟨d, 0, none⟩ lv).setCell ⟨d, 1, none⟩ nv).setCell ⟨d, 2, none⟩ (.slice none 0 0)) := ((Fr.of_below hb).mono fun _ _ h => h.elim).trans (hF2.mono fun k _ hk => .inl hk)
  have hX : ∀ k, I k → ¬ (k = d) := fun k hk e => h.id (e ▸ hk)
  have hld : ∀ k, lv.ownBlock = some k → ¬ (k = d) := fun k hk e => by have := (World.ownsRow.lt hl k hk).1; omega
  have hnd : ∀ k, nv.ownBlock = some k → ¬ (k = d) := fun k hk e => by have := (World.ownsRow.lt hn k hk).1; omega
  have hsz := hF.size
  refine ⟨⟨fun k => I k ∨ lv.ownBlock = some k ∨ nv.ownBlock = some k, lv, nv, .slice none 0 0, l1, n1, a1, ?_⟩, hF.mono fun k _ e => e ▸ h.sd⟩
  exact
    { at_ := blk_set (blk_set (blk_set (blk_keep hb h.at_ hdl) _ _) _ _) _ _
      s0 := ⟨⟨(hl.fr hF2 (fun k hk e => hld k hk e)).sl, fun _ k hk => .inr (.inl hk)⟩, ⟨(hn.fr hF2 (fun k hk e => hnd k hk e)).sl, fun _ k hk => .inr (.inr hk)⟩, ActsAt.nil _ _⟩
      s1 := h.s1.fr hF hX (fun k hk => .inl hk) (fun k hk e => (h.r1 k hk).2.2 e)
      cur := h.cur
      sd := .inl h.sd
      id := fun g => by
        rcases g with g | g | g
        · exact h.id g
        · exact hld d g rfl
        · exact hnd d g rfl
      is := fun k hk => by
        rcases hk with g | g | g
        · exact .inl (h.is k g)
        · exact .inr ⟨(World.ownsRow.lt hl k g).1, Nat.lt_of_lt_of_le (World.ownsRow.lt hl k g).2 hF2.size⟩
        · exact .inr ⟨(World.ownsRow.lt hn k g).1, Nat.lt_of_lt_of_le (World.ownsRow.lt hn k g).2 hF2.size⟩
      lt := fun k hk => by
        rcases hk with g | g
        · have := h.lt k g; omega
        · exact g.2
      r0 := fun k hk => by simp [Value.ownBlock] at hk
      r1 := fun k hk => ⟨.inl (h.r1 k hk).1, fun g => by
        have h2 := h.lt k (h.r1 k hk).1
        rcases g with g | g | g
        · exact (h.r1 k hk).2.1 g
        · have h1 := (World.ownsRow.lt hl k g).1; omega
        · have h1 := (World.ownsRow.lt hn k g).1; omega, (h.r1 k hk).2.2⟩
      rr := fun k hk => by simp [Value.ownBlock] at hk }
theorem DV.put1 {w w1 : World} {S I : Nat → Prop} {d : Nat} {l0 n0 a0 l1 n1 a1 lv nv : Value} {D : Dk} {l : List UInt8} (h : DV w S I d l0 n0 a0 l1 n1 a1 D) (hb : Below w.heap.size w w1) (hl : OwnB w1 w.heap.size lv l) (hn : OwnB w1 w.heap.size nv l) :
    Dt w (((w1.setCell ⟨d, 3, none⟩ lv).setCell ⟨d, 4, none⟩ nv).setCell ⟨d, 5, none⟩ (.slice none 0 0)) S d (D.setSlot 1 ⟨l, []⟩) := by
  have hdl := h.lt d h.sd
  have hF2 : Fr (fun k => k = d) w1 (((w1.setCell ⟨d, 3, none⟩ lv).setCell ⟨d, 4, none⟩ nv).setCell ⟨d, 5, none⟩ (.slice none 0 0)) := (Fr.set_ _ _).trans (((Fr.set_ _ _).trans ((Fr.set_ _ _).mono fun k _ hk => .inl hk)).mono fun k _ hk => .inl hk)
  have hF : Fr (fun k => k = d) w (((w1.setCell ⟨d, 3, none⟩ lv).setCell ⟨d, 4, none⟩ nv).setCell ⟨d, 5, none⟩ (.slice none 0 0)) := ((Fr.of_below hb).mono fun _ _ h => h.elim).trans (hF2.mono fun k _ hk => .inl hk)
  have hX : ∀ k, I k → ¬ (k = d) := fun k hk e => h.id (e ▸ hk)
  have hld : ∀ k, lv.ownBlock = some k → ¬ (k = d) := fun k hk e => by have := (World.ownsRow.lt hl k hk).1; omega
  have hnd : ∀ k, nv.ownBlock = some k → ¬ (k = d) := fun k hk e => by have := (World.ownsRow.lt hn k hk).1; omega
  have hsz := hF.size
  refine ⟨⟨fun k => I k ∨ lv.ownBlock = some k ∨ nv.ownBlock = some k, l0, n0, a0, lv, nv, .slice none 0 0, ?_⟩, hF.mono fun k _ e => e ▸ h.sd⟩
  exact
    { at_ := blk_set (blk_set (blk_set (blk_keep hb h.at_ hdl) _ _) _ _) _ _
      s0 := h.s0.fr hF hX (fun k hk => .inl hk) (fun k hk e => (h.r0 k hk).2.2 e)
      s1 := ⟨⟨(hl.fr hF2 (fun k hk e => hld k hk e)).sl, fun _ k hk => .inr (.inl hk)⟩, ⟨(hn.fr hF2 (fun k hk e => hnd k hk e)).sl, fun _ k hk => .inr (.inr hk)⟩, ActsAt.nil _ _⟩
      cur := h.cur
      sd := .inl h.sd
      id := fun g => by
        rcases g with g | g | g
        · exact h.id g
        · exact hld d g rfl
        · exact hnd d g rfl
      is := fun k hk => by
        rcases hk with g | g | g
        · exact .inl (h.is k g)
        · exact .inr ⟨(World.ownsRow.lt hl k g).1, Nat.lt_of_lt_of_le (World.ownsRow.lt hl k g).2 hF2.size⟩
        · exact .inr ⟨(World.ownsRow.lt hn k g).1, Nat.lt_of_lt_of_le (World.ownsRow.lt hn k g).2 hF2.size⟩
      lt := fun k hk => by
        rcases hk with g | g
        · have := h.lt k g; omega
        · exact g.2
      r0 := fun k hk => ⟨.inl (h.r0 k hk).1, fun g => by
        have h2 := h.lt k (h.r0 k hk).1
        rcases g with g | g | g
        · exact (h.r0 k hk).2.1 g
        · have h1 := (World.ownsRow.lt hl k g).1; omega
        · have h1 := (World.ownsRow.lt hn k g).1; omega, (h.r0 k hk).2.2⟩
      r1 := fun k hk => by simp [Value.ownBlock] at hk
      rr := fun k _ hk => by simp [Value.ownBlock] at hk }
theorem Load_bad (_ : Value) (n : Int) (h0 : n ≠ 0) (h1 : n ≠ 1) (w : World) (A B : Value) :
    Calls Try.prog 9 #[.agg #[A, B], .int .i64 n] w fun e w' => e = .returned (.tuple #[.pointer none, .int .i64 61]) ∧ Below w.heap.size w w' := by
  have q0 : (n != 0) = true := by rw [bne_iff_ne]; exact h0
  have q1 : (n != 1) = true := by rw [bne_iff_ne]; exact h1
  clear h0 h1
  go_enter Try.func9, Try.ntmps9
  go_wp2
  go_ret2
  exact ⟨rfl, (Below.refl _ _).alloc (Nat.le_refl _) _⟩
/-- Load has filled so much -/
structure LdAt (w : World) (c : Nat) (u v : Value) (x y : List UInt8) (W : World) : Prop where
  b : Below w.heap.size w W
  bx : W.heap[w.heap.size]? = some (.cells #[u, v] 32 (0, 0))
  d : DAt W (fun k => w.heap.size < k ∧ k < W.heap.size) (w.heap.size + 1) (Dk.load x y c)
theorem Ld_start (w : World) (c : Nat) (o1 : Obj) (C : Array Value) (hc : c < 2) (hC : C = dkCells (.slice none 0 0) (.slice none 0 0) (.slice none 0 0) (.slice none 0 0) (.slice none 0 0) (.slice none 0 0) (Dk.load [] [] c) := by rfl) :
    DAt ((w.alloc o1).alloc (.cells C 71)) (fun k => w.heap.size < k ∧ k < ((w.alloc o1).alloc (.cells C 71)).heap.size) (w.heap.size + 1) (Dk.load [] [] c) := by
  have hs : (w.alloc o1).heap.size = w.heap.size + 1 := by simp
  refine ⟨fun _ => False, .slice none 0 0, .slice none 0 0, .slice none 0 0, .slice none 0 0, .slice none 0 0, .slice none 0 0, ?_⟩
  exact
    { at_ := by rw [← hC, ← hs]; exact heap_alloc_new _ _
      s0 := ⟨SlI.nil _ _, SlI.nil _ _, ActsAt.nil _ _⟩
      s1 := ⟨SlI.nil _ _, SlI.nil _ _, ActsAt.nil _ _⟩
      cur := hc
      sd := ⟨by omega, by simp⟩
      id := fun h => h
      is := fun _ h => h.elim
      lt := fun k hk => hk.2
      r0 := fun k hk => by simp [Value.ownBlock] at hk
      r1 := fun k hk => by simp [Value.ownBlock] at hk
      rr := fun k hk => by simp [Value.ownBlock] at hk }
theorem ld_next {w wr W : World} {c : Nat} {u v : Value} {x y x' y' : List UInt8} (h : LdAt w c u v x y wr) (hd : Dt wr W (fun k => w.heap.size < k ∧ k < wr.heap.size) (w.heap.size + 1) (Dk.load x' y' c)) : LdAt w c u v x' y' W := by
  have hx := blk_lt h.bx
  refine ⟨h.b.trans (hd.2.to_below (fun k hk g => by omega) h.b.size), blk_fr hd.2 h.bx (fun g => by omega), hd.1.fr (Fr.refl (fun _ => False) _) (fun _ _ h => h) (fun k hk => ?_) (fun k hk => hk.2)⟩
  rcases hk with g | g
  · have := hd.2.size; exact ⟨g.1, by omega⟩
  · exact ⟨Nat.lt_of_lt_of_le hx g.1, g.2⟩
theorem ld_own {wr wa wb : World} {va vb : Value} {l : List UInt8} (hba : Below wr.drew.heap.size wr.drew wa) (hbb : Below wa.heap.size wa wb) (hoa : OwnB wa wr.drew.heap.size va l) (hob : OwnB wb wa.heap.size vb l) :
    Below wr.heap.size wr wb ∧ OwnB wb wr.heap.size va l ∧ OwnB wb wr.heap.size vb l :=
  ⟨below_then (drew_below wr) (below_then hba hbb), hoa.below hbb, own_base hob hba.size⟩
set_option maxRecDepth 100000 in
set_option maxHeartbeats 8000000 in
theorem Load_any (w : World) (n : Int) (hn : n = 0 ∨ n = 1) (u v : Value) (la lb : List UInt8) (hu : SlB w u la) (hv : SlB w v lb) (hla : la.length ≤ 140737488355328) (hlb : lb.length ≤ 140737488355328) :
    Calls Try.prog 9 #[.agg #[u, v], .int .i64 n] w fun e w' => ∃ d, e = .returned (.tuple #[.pointer (some ⟨d, 0, none⟩), .int .i64 0]) ∧ Below w.heap.size w w' ∧ DAt w' (fun k => Nw w w' k) d (Dk.load la lb n.toNat) := by
  obtain ⟨Au, cu, rfl⟩ := hu.form
  obtain ⟨Av, cv, rfl⟩ := hv.form
  have HU := hid hu
  have HV := hid hv
  clear hu hv
  rcases hn with rfl | rfl
  · skip
    go_enter Try.func9, Try.ntmps9
    go_wp2
    go_loopw [17] (fun i wr => (i = .int .i64 0 ∧ LdAt w 0 (.slice Au la.length cu) (.slice Av lb.length cv) [] [] wr) ∨ (i = .int .i64 1 ∧ LdAt w 0 (.slice Au la.length cu) (.slice Av lb.length cv) la [] wr) ∨ (i = .int .i64 2 ∧ LdAt w 0 (.slice Au la.length cu) (.slice Av lb.length cv) la lb wr)) (fun i _ => 2 - (intOf i).toNat)
    case atStart => exact .inl ⟨rfl, ⟨((Below.refl _ _).alloc (Nat.le_refl _) _).alloc (by simp) _, (Below.heap_alloc _ _ _ (by simp)).trans (heap_alloc_new _ _), Ld_start w 0 _ _ (by omega)⟩⟩
    case round =>
      rcases hrel with ⟨rfl, hst⟩ | ⟨rfl, hst⟩ | ⟨rfl, hst⟩
      case inl =>
        have HST := hid hst
        obtain ⟨hbk, hbx, hdt⟩ := hst
        obtain ⟨I, l0, n0, a0, l1, n1, a1, hV⟩ := hdt
        obtain ⟨c0, c1, c2, c3, c4, c5⟩ := hV.cells
        have hbd := hV.at_
        have HDV := hid hV
        have HBK := hid hbk
        have HBX := hid hbx
        have HBD := hid hbd
        have hdlt := blk_lt hbd
        have hxlt := blk_lt hbx
        have x0 : wr.cell? ⟨w.heap.size, 0, none⟩ = some (.slice Au la.length cu) := by rw [blk_cell hbx]; rfl
        have K := hid (HU.out.below hbk)
        clear hV hbk hbx hbd
        go_wp2
        go_region_held3 (fun W => W.cell? ⟨w.heap.size, 0, none⟩ = some (.slice Au la.length cu))
          (first | assumption | exact x0 | exact (hba.cell (p := ⟨w.heap.size, 0, none⟩) hxlt).trans x0 | exact ((below_then hba hbb).cell (p := ⟨w.heap.size, 0, none⟩) hxlt).trans x0 | (rw [World.cell?_setCell_other _ _ _ _ (by simp), World.cell?_setCell_other _ _ _ _ (by simp), World.cell?_setCell_other _ _ _ _ (by simp)]; exact ((below_then hba hbb).cell (p := ⟨w.heap.size, 0, none⟩) hxlt).trans x0))
          (first
            | (go_at_call 34; (with_reducible refine (Clone_any (.slice Au la.length cu) la _ K.out.drew (by omega)).mono ?_); rintro e wa ⟨va, rfl, hoa, hba⟩; obtain ⟨Aa, ca, rfl⟩ := hoa.form)
            | (go_at_call 34; (with_reducible refine (Clone_any (.slice Au la.length cu) la _ (K.out.drew.below hba) (by omega)).mono ?_); rintro e wb ⟨vb, rfl, hob, hbb⟩; obtain ⟨Ab, cb, rfl⟩ := hob.form; have hB2 : Below wr.drew.heap.size wr.drew wb := below_then hba hbb; have g0 : wb.cell? ⟨w.heap.size + 1, 0, none⟩ = some l0 := (hB2.cell (p := ⟨w.heap.size + 1, 0, none⟩) hdlt).trans c0; have g1 : wb.cell? ⟨w.heap.size + 1, 1, none⟩ = some n0 := (hB2.cell (p := ⟨w.heap.size + 1, 1, none⟩) hdlt).trans c1; have g2 : wb.cell? ⟨w.heap.size + 1, 2, none⟩ = some a0 := (hB2.cell (p := ⟨w.heap.size + 1, 2, none⟩) hdlt).trans c2; have e0 : wb.frozen? ⟨w.heap.size + 1, 0, none⟩ = false := (hB2.frozen (p := ⟨w.heap.size + 1, 0, none⟩) hdlt).trans (blk_frozen HBD.out _); have e1 : wb.frozen? ⟨w.heap.size + 1, 1, none⟩ = false := (hB2.frozen (p := ⟨w.heap.size + 1, 1, none⟩) hdlt).trans (blk_frozen HBD.out _); have e2 : wb.frozen? ⟨w.heap.size + 1, 2, none⟩ = false := (hB2.frozen (p := ⟨w.heap.size + 1, 2, none⟩) hdlt).trans (blk_frozen HBD.out _)))
        all_goals
          have L := hid (ld_own hba hbb hoa hob)
          first
            | have R := hid (ld_next HST.out (HDV.out.put0 L.out.1 L.out.2.1 L.out.2.2))
              clear L HDV HBD hba hbb hoa hob hB2 g0 g1 g2 e0 e1 e2
              go_wp2
              go_roundw
              case rel => exact .inr (.inl ⟨rfl, R.out⟩)
              case measure => simp [intOf]
            | have R := hid (ld_next HST.out (HDV.out.put0 L.out.1 L.out.2.2 L.out.2.1))
              clear L HDV HBD hba hbb hoa hob hB2 g0 g1 g2 e0 e1 e2
              go_wp2
              go_roundw
              case rel => exact .inr (.inl ⟨rfl, R.out⟩)
              case measure => simp [intOf]
      case inr.inl =>
        have HST := hid hst
        obtain ⟨hbk, hbx, hdt⟩ := hst
        obtain ⟨I, l0, n0, a0, l1, n1, a1, hV⟩ := hdt
        obtain ⟨c0, c1, c2, c3, c4, c5⟩ := hV.cells
        have hbd := hV.at_
        have HDV := hid hV
        have HBK := hid hbk
        have HBX := hid hbx
        have HBD := hid hbd
        have hdlt := blk_lt hbd
        have hxlt := blk_lt hbx
        have x0 : wr.cell? ⟨w.heap.size, 1, none⟩ = some (.slice Av lb.length cv) := by rw [blk_cell hbx]; rfl
        have K := hid (HV.out.below hbk)
        clear hV hbk hbx hbd
        go_wp2
        go_region_held3 (fun W => W.cell? ⟨w.heap.size, 1, none⟩ = some (.slice Av lb.length cv))
          (first | assumption | exact x0 | exact (hba.cell (p := ⟨w.heap.size, 1, none⟩) hxlt).trans x0 | exact ((below_then hba hbb).cell (p := ⟨w.heap.size, 1, none⟩) hxlt).trans x0 | (rw [World.cell?_setCell_other _ _ _ _ (by simp), World.cell?_setCell_other _ _ _ _ (by simp), World.cell?_setCell_other _ _ _ _ (by simp)]; exact ((below_then hba hbb).cell (p := ⟨w.heap.size, 1, none⟩) hxlt).trans x0))
          (first
            | (go_at_call 34; (with_reducible refine (Clone_any (.slice Av lb.length cv) lb _ K.out.drew (by omega)).mono ?_); rintro e wa ⟨va, rfl, hoa, hba⟩; obtain ⟨Aa, ca, rfl⟩ := hoa.form)
            | (go_at_call 34; (with_reducible refine (Clone_any (.slice Av lb.length cv) lb _ (K.out.drew.below hba) (by omega)).mono ?_); rintro e wb ⟨vb, rfl, hob, hbb⟩; obtain ⟨Ab, cb, rfl⟩ := hob.form; have hB2 : Below wr.drew.heap.size wr.drew wb := below_then hba hbb; have g0 : wb.cell? ⟨w.heap.size + 1, 3, none⟩ = some l1 := (hB2.cell (p := ⟨w.heap.size + 1, 3, none⟩) hdlt).trans c3; have g1 : wb.cell? ⟨w.heap.size + 1, 4, none⟩ = some n1 := (hB2.cell (p := ⟨w.heap.size + 1, 4, none⟩) hdlt).trans c4; have g2 : wb.cell? ⟨w.heap.size + 1, 5, none⟩ = some a1 := (hB2.cell (p := ⟨w.heap.size + 1, 5, none⟩) hdlt).trans c5; have e0 : wb.frozen? ⟨w.heap.size + 1, 3, none⟩ = false := (hB2.frozen (p := ⟨w.heap.size + 1, 3, none⟩) hdlt).trans (blk_frozen HBD.out _); have e1 : wb.frozen? ⟨w.heap.size + 1, 4, none⟩ = false := (hB2.frozen (p := ⟨w.heap.size + 1, 4, none⟩) hdlt).trans (blk_frozen HBD.out _); have e2 : wb.frozen? ⟨w.heap.size + 1, 5, none⟩ = false := (hB2.frozen (p := ⟨w.heap.size + 1, 5, none⟩) hdlt).trans (blk_frozen HBD.out _)))
        all_goals
          have L := hid (ld_own hba hbb hoa hob)
          first
            | have R := hid (ld_next HST.out (HDV.out.put1 L.out.1 L.out.2.1 L.out.2.2))
              clear L HDV HBD hba hbb hoa hob hB2 g0 g1 g2 e0 e1 e2
              go_wp2
              go_roundw
              case rel => exact .inr (.inr ⟨rfl, R.out⟩)
              case measure => simp [intOf]
            | have R := hid (ld_next HST.out (HDV.out.put1 L.out.1 L.out.2.2 L.out.2.1))
              clear L HDV HBD hba hbb hoa hob hB2 g0 g1 g2 e0 e1 e2
              go_wp2
              go_roundw
              case rel => exact .inr (.inr ⟨rfl, R.out⟩)
              case measure => simp [intOf]
      case inr.inr =>
        obtain ⟨hbk, hbx, hdt⟩ := hst
        have hx := blk_lt hbx
        have R := hid (⟨hbk, hdt.fr (Fr.refl (fun _ => False) _) (fun _ _ h => h) (fun k hk => ⟨by omega, hk.2⟩) (fun k hk => hk.2)⟩ : Below w.heap.size w wr ∧ DAt wr (fun k => Nw w wr k) (w.heap.size + 1) (Dk.load la lb 0))
        clear hbk hbx hdt
        go_wp2
        go_ret2
        exact ⟨_, rfl, R.out⟩
  · skip
    go_enter Try.func9, Try.ntmps9
    go_wp2
    go_loopw [17] (fun i wr => (i = .int .i64 0 ∧ LdAt w 1 (.slice Au la.length cu) (.slice Av lb.length cv) [] [] wr) ∨ (i = .int .i64 1 ∧ LdAt w 1 (.slice Au la.length cu) (.slice Av lb.length cv) la [] wr) ∨ (i = .int .i64 2 ∧ LdAt w 1 (.slice Au la.length cu) (.slice Av lb.length cv) la lb wr)) (fun i _ => 2 - (intOf i).toNat)
    case atStart => exact .inl ⟨rfl, ⟨((Below.refl _ _).alloc (Nat.le_refl _) _).alloc (by simp) _, (Below.heap_alloc _ _ _ (by simp)).trans (heap_alloc_new _ _), Ld_start w 1 _ _ (by omega)⟩⟩
    case round =>
      rcases hrel with ⟨rfl, hst⟩ | ⟨rfl, hst⟩ | ⟨rfl, hst⟩
      case inl =>
        have HST := hid hst
        obtain ⟨hbk, hbx, hdt⟩ := hst
        obtain ⟨I, l0, n0, a0, l1, n1, a1, hV⟩ := hdt
        obtain ⟨c0, c1, c2, c3, c4, c5⟩ := hV.cells
        have hbd := hV.at_
        have HDV := hid hV
        have HBK := hid hbk
        have HBX := hid hbx
        have HBD := hid hbd
        have hdlt := blk_lt hbd
        have hxlt := blk_lt hbx
        have x0 : wr.cell? ⟨w.heap.size, 0, none⟩ = some (.slice Au la.length cu) := by rw [blk_cell hbx]; rfl
        have K := hid (HU.out.below hbk)
        clear hV hbk hbx hbd
        go_wp2
        go_region_held3 (fun W => W.cell? ⟨w.heap.size, 0, none⟩ = some (.slice Au la.length cu))
          (first | assumption | exact x0 | exact (hba.cell (p := ⟨w.heap.size, 0, none⟩) hxlt).trans x0 | exact ((below_then hba hbb).cell (p := ⟨w.heap.size, 0, none⟩) hxlt).trans x0 | (rw [World.cell?_setCell_other _ _ _ _ (by simp), World.cell?_setCell_other _ _ _ _ (by simp), World.cell?_setCell_other _ _ _ _ (by simp)]; exact ((below_then hba hbb).cell (p := ⟨w.heap.size, 0, none⟩) hxlt).trans x0))
          (first
            | (go_at_call 34; (with_reducible refine (Clone_any (.slice Au la.length cu) la _ K.out.drew (by omega)).mono ?_); rintro e wa ⟨va, rfl, hoa, hba⟩; obtain ⟨Aa, ca, rfl⟩ := hoa.form)
            | (go_at_call 34; (with_reducible refine (Clone_any (.slice Au la.length cu) la _ (K.out.drew.below hba) (by omega)).mono ?_); rintro e wb ⟨vb, rfl, hob, hbb⟩; obtain ⟨Ab, cb, rfl⟩ := hob.form; have hB2 : Below wr.drew.heap.size wr.drew wb := below_then hba hbb; have g0 : wb.cell? ⟨w.heap.size + 1, 0, none⟩ = some l0 := (hB2.cell (p := ⟨w.heap.size + 1, 0, none⟩) hdlt).trans c0; have g1 : wb.cell? ⟨w.heap.size + 1, 1, none⟩ = some n0 := (hB2.cell (p := ⟨w.heap.size + 1, 1, none⟩) hdlt).trans c1; have g2 : wb.cell? ⟨w.heap.size + 1, 2, none⟩ = some a0 := (hB2.cell (p := ⟨w.heap.size + 1, 2, none⟩) hdlt).trans c2; have e0 : wb.frozen? ⟨w.heap.size + 1, 0, none⟩ = false := (hB2.frozen (p := ⟨w.heap.size + 1, 0, none⟩) hdlt).trans (blk_frozen HBD.out _); have e1 : wb.frozen? ⟨w.heap.size + 1, 1, none⟩ = false := (hB2.frozen (p := ⟨w.heap.size + 1, 1, none⟩) hdlt).trans (blk_frozen HBD.out _); have e2 : wb.frozen? ⟨w.heap.size + 1, 2, none⟩ = false := (hB2.frozen (p := ⟨w.heap.size + 1, 2, none⟩) hdlt).trans (blk_frozen HBD.out _)))
        all_goals
          have L := hid (ld_own hba hbb hoa hob)
          first
            | have R := hid (ld_next HST.out (HDV.out.put0 L.out.1 L.out.2.1 L.out.2.2))
              clear L HDV HBD hba hbb hoa hob hB2 g0 g1 g2 e0 e1 e2
              go_wp2
              go_roundw
              case rel => exact .inr (.inl ⟨rfl, R.out⟩)
              case measure => simp [intOf]
            | have R := hid (ld_next HST.out (HDV.out.put0 L.out.1 L.out.2.2 L.out.2.1))
              clear L HDV HBD hba hbb hoa hob hB2 g0 g1 g2 e0 e1 e2
              go_wp2
              go_roundw
              case rel => exact .inr (.inl ⟨rfl, R.out⟩)
              case measure => simp [intOf]
      case inr.inl =>
        have HST := hid hst
        obtain ⟨hbk, hbx, hdt⟩ := hst
        obtain ⟨I, l0, n0, a0, l1, n1, a1, hV⟩ := hdt
        obtain ⟨c0, c1, c2, c3, c4, c5⟩ := hV.cells
        have hbd := hV.at_
        have HDV := hid hV
        have HBK := hid hbk
        have HBX := hid hbx
        have HBD := hid hbd
        have hdlt := blk_lt hbd
        have hxlt := blk_lt hbx
        have x0 : wr.cell? ⟨w.heap.size, 1, none⟩ = some (.slice Av lb.length cv) := by rw [blk_cell hbx]; rfl
        have K := hid (HV.out.below hbk)
        clear hV hbk hbx hbd
        go_wp2
        go_region_held3 (fun W => W.cell? ⟨w.heap.size, 1, none⟩ = some (.slice Av lb.length cv))
          (first | assumption | exact x0 | exact (hba.cell (p := ⟨w.heap.size, 1, none⟩) hxlt).trans x0 | exact ((below_then hba hbb).cell (p := ⟨w.heap.size, 1, none⟩) hxlt).trans x0 | (rw [World.cell?_setCell_other _ _ _ _ (by simp), World.cell?_setCell_other _ _ _ _ (by simp), World.cell?_setCell_other _ _ _ _ (by simp)]; exact ((below_then hba hbb).cell (p := ⟨w.heap.size, 1, none⟩) hxlt).trans x0))
          (first
            | (go_at_call 34; (with_reducible refine (Clone_any (.slice Av lb.length cv) lb _ K.out.drew (by omega)).mono ?_); rintro e wa ⟨va, rfl, hoa, hba⟩; obtain ⟨Aa, ca, rfl⟩ := hoa.form)
            | (go_at_call 34; (with_reducible refine (Clone_any (.slice Av lb.length cv) lb _ (K.out.drew.below hba) (by omega)).mono ?_); rintro e wb ⟨vb, rfl, hob, hbb⟩; obtain ⟨Ab, cb, rfl⟩ := hob.form; have hB2 : Below wr.drew.heap.size wr.drew wb := below_then hba hbb; have g0 : wb.cell? ⟨w.heap.size + 1, 3, none⟩ = some l1 := (hB2.cell (p := ⟨w.heap.size + 1, 3, none⟩) hdlt).trans c3; have g1 : wb.cell? ⟨w.heap.size + 1, 4, none⟩ = some n1 := (hB2.cell (p := ⟨w.heap.size + 1, 4, none⟩) hdlt).trans c4; have g2 : wb.cell? ⟨w.heap.size + 1, 5, none⟩ = some a1 := (hB2.cell (p := ⟨w.heap.size + 1, 5, none⟩) hdlt).trans c5; have e0 : wb.frozen? ⟨w.heap.size + 1, 3, none⟩ = false := (hB2.frozen (p := ⟨w.heap.size + 1, 3, none⟩) hdlt).trans (blk_frozen HBD.out _); have e1 : wb.frozen? ⟨w.heap.size + 1, 4, none⟩ = false := (hB2.frozen (p := ⟨w.heap.size + 1, 4, none⟩) hdlt).trans (blk_frozen HBD.out _); have e2 : wb.frozen? ⟨w.heap.size + 1, 5, none⟩ = false := (hB2.frozen (p := ⟨w.heap.size + 1, 5, none⟩) hdlt).trans (blk_frozen HBD.out _)))
        all_goals
          have L := hid (ld_own hba hbb hoa hob)
          first
            | have R := hid (ld_next HST.out (HDV.out.put1 L.out.1 L.out.2.1 L.out.2.2))
              clear L HDV HBD hba hbb hoa hob hB2 g0 g1 g2 e0 e1 e2
              go_wp2
              go_roundw
              case rel => exact .inr (.inr ⟨rfl, R.out⟩)
              case measure => simp [intOf]
            | have R := hid (ld_next HST.out (HDV.out.put1 L.out.1 L.out.2.2 L.out.2.1))
              clear L HDV HBD hba hbb hoa hob hB2 g0 g1 g2 e0 e1 e2
              go_wp2
              go_roundw
              case rel => exact .inr (.inr ⟨rfl, R.out⟩)
              case measure => simp [intOf]
      case inr.inr =>
        obtain ⟨hbk, hbx, hdt⟩ := hst
        have hx := blk_lt hbx
        have R := hid (⟨hbk, hdt.fr (Fr.refl (fun _ => False) _) (fun _ _ h => h) (fun k hk => ⟨by omega, hk.2⟩) (fun k hk => hk.2)⟩ : Below w.heap.size w wr ∧ DAt wr (fun k => Nw w wr k) (w.heap.size + 1) (Dk.load la lb 1))
        clear hbk hbx hdt
        go_wp2
        go_ret2
        exact ⟨_, rfl, R.out⟩
end Go.Proofs.Ytcadacljacbipaa
