/- The walk of the law TopSum. -/
import Derived.Test.YthadfebboagabaaDoorTopSumC
import Derived.BigRegion
import Derived.Deep.RegionHeld3
namespace Go.Proofs.YthadfebboagabaaDoor
open Go.RowKit
theorem Of_litsB {w0 W : World} {rs : List (Value × List UInt8)} (h : Rs w0 W rs) (ps : List (Value × List UInt8)) (x : BitVec 32) (hx : Crc.sumOf (ps.map (·.2)).flatten = x) (hn : ps.length ≤ 1000) (hp : ∀ p ∈ ps, p ∈ rs ∨ p = (.slice none 0 0, [])) {g n : Nat} (hg : g = W.heap.size) (hn' : n = ps.length) :
    Calls Tryd.prog 19 #[.slice (some ⟨g, 0, none⟩) n n] (W.alloc (.cells (ps.map (·.1)).toArray 33)) fun e w' => e = .returned (W32 x) ∧ Rs w0 w' rs ∧ Below W.heap.size W w' := by
  subst hx hg hn'
  refine (Of_any _ _ _ (h.e.alloc _).t (lits h ps hp) (by simp; omega) (fun i => ?_)).mono ?_
  · rcases Nat.lt_or_ge i ps.length with hi | hi
    · have hm : ps[i] ∈ ps := List.getElem_mem hi
      simp only [List.getD_eq_getElem?_getD, List.getElem?_map, List.getElem?_eq_getElem hi, Option.map_some, Option.getD_some]
      rcases hp _ hm with h1 | h1
      · exact (h.s _ h1).2
      · rw [h1]; simp
    · simp [hi]
  · rintro e w' ⟨rfl, rfl⟩
    exact ⟨rfl, h.alloc _, (Below.refl _ _).alloc (Nat.le_refl _) _⟩
theorem Rs.to_ {w0 W W' : World} {rs : List (Value × List UInt8)} (h : Rs w0 W rs) (hb : Below W.heap.size W W') : Rs w0 W' rs := h.next hb
theorem SAt.below {w w' : World} {g : Nat} {l : List UInt8} (h : SAt w g l) (hb : Below w.heap.size w w') : SAt w' g l := blk_keep hb h (blk_lt h)
theorem Of_one1 {w0 W : World} {u : Value} {l : List UInt8} (hE : En w0 W) (h : SlB W u l) (hl : l.length ≤ 281474976710656) :
    Calls Tryd.prog 19 #[.slice (some ⟨W.heap.size, 0, none⟩) 1 1] (W.alloc (.cells #[u] 33)) fun e w' => e = .returned (W32 (Crc.sumOf l)) ∧ w' = W.alloc (.cells #[u] 33) := by
  have := Of_any _ [l] _ (hE.alloc _).t (lit_bb (w := W) [u] [l] rfl (fun i hi => by obtain rfl : i = 0 := (by simpa using hi); exact h)) (by simp) (fun i => by cases i <;> simp; omega)
  refine this.mono ?_
  rintro e w' ⟨rfl, rfl⟩
  exact ⟨by simp, rfl⟩
theorem Of_one1D {w0 W : World} {u : Value} {l : List UInt8} (hE : En w0 W.drew) (h : SlB W.drew u l) (hl : l.length ≤ 281474976710656) :
    Calls Tryd.prog 19 #[.slice (some ⟨W.heap.size, 0, none⟩) 1 1] (W.alloc (.cells #[u] 33)).drew fun e w' => e = .returned (W32 (Crc.sumOf l)) ∧ w' = (W.alloc (.cells #[u] 33)).drew := Of_one1 (W := W.drew) hE h hl
theorem own_drop {w : World} {base g cap : Nat} {d : List UInt8} (h : OwnB w base (.slice (some ⟨g, 0, none⟩) d.length cap) d) (k : Nat) (hk : k ≤ d.length) (c : Nat) (hc : d.length - k ≤ c) : SlB w (.slice (some ⟨g, k, none⟩) (d.length - k) c) (d.drop k) := by
  refine ⟨_, _, by rw [List.length_drop], by rw [List.length_drop]; exact hc, (fun h => by cases h), fun h0 => ⟨g, k, rfl, fun i hi => ?_⟩⟩
  rw [List.length_drop] at hi
  rw [(h.at_ (k + i) (by omega)).1]
  simp
theorem own_take {w : World} {base g cap : Nat} {d : List UInt8} (h : OwnB w base (.slice (some ⟨g, 0, none⟩) d.length cap) d) (k : Nat) (hk : k ≤ d.length) (c : Nat) (hc : k ≤ c) : SlB w (.slice (some ⟨g, 0, none⟩) k c) (d.take k) := by
  have hl : (d.take k).length = k := by rw [List.length_take]; omega
  refine ⟨_, c, by rw [hl], by rw [hl]; exact hc, (fun h => by cases h), fun h0 => ⟨g, 0, rfl, fun i hi => ?_⟩⟩
  rw [hl] at hi
  rw [Nat.zero_add, (h.at_ i (by omega)).1]
  simp [List.getElem?_take_of_lt hi]
/-- the bytes of a text, in a new block -/
def convC (W : World) (s : ByteArray) : Nat := grownCap W s.toList.length 0 5
def convW (W : World) (s : ByteArray) : World := W.drew.alloc (.cells (bytesRow s (convC W s)) 5 ((bytesRow s (convC W s)).size, (bytesRow s (convC W s)).size + 1))
theorem toList_len (s : ByteArray) : s.toList.length = s.size := by rw [toList_eq, Array.length_toList]; rfl
theorem conv_run (W : World) (s : ByteArray) : (convert 9 33 (.string s)).run Tryd.prog W = .ok (.slice (some ⟨W.heap.size, 0, none⟩) s.toList.length (convC W s)) (convW W s) := by
  have hrun := run_bytes_of_string (P := Tryd.prog) W 9 33 5 s Tryd.underlying9 Tryd.underlying33 Tryd.underlying5
  rw [← toList_len] at hrun
  exact hrun
theorem conv_below (W : World) (s : ByteArray) : Below W.heap.size W (convW W s) := ((Below.refl W.heap.size W).drew).alloc (Nat.le_refl _) _
theorem conv_sl (W : World) (s : ByteArray) : SlB (convW W s) (.slice (some ⟨W.heap.size, 0, none⟩) s.toList.length (convC W s)) s.toList := by
  refine ⟨_, _, rfl, grownCap_ge W _ 0 5, (fun h => by cases h), fun _ => ⟨W.heap.size, 0, rfl, fun i hi => ?_⟩⟩
  unfold convW
  rw [Nat.zero_add, show (⟨W.heap.size, i, none⟩ : Addr) = ⟨W.drew.heap.size, i, none⟩ from rfl, cell_of_row _ _ _ _ _ _ (heap_alloc_new W.drew _)]
  have hi' : i < s.data.size := by rw [toList_len] at hi; exact hi
  rw [bytesRow_at s _ i hi']
  simp [toList_eq, Array.getElem?_eq_getElem hi']
abbrev HB (key : ByteArray) (dv : Value) (bit : Int) (p : BitVec 32) (b : Nat) (w W : World) : Prop :=
  W.cell? ⟨b, 4, none⟩ = some (.string key) ∧ W.cell? ⟨b, 10, none⟩ = some dv ∧ W.cell? ⟨b, 11, none⟩ = some (.int .i64 bit) ∧ W.cell? ⟨b, 12, none⟩ = some (W32 p) ∧ Hid (Below w.heap.size w W)
theorem HB.keep {key : ByteArray} {dv : Value} {bit : Int} {p : BitVec 32} {b : Nat} {w W W' : World} (h : HB key dv bit p b w W) (hb : Below W.heap.size W W') : HB key dv bit p b w W' :=
  ⟨(hb.cell (World.block_lt_of_cell? W _ h.1)).trans h.1, (hb.cell (World.block_lt_of_cell? W _ h.2.1)).trans h.2.1, (hb.cell (World.block_lt_of_cell? W _ h.2.2.1)).trans h.2.2.1, (hb.cell (World.block_lt_of_cell? W _ h.2.2.2.1)).trans h.2.2.2.1, hid (below_then h.2.2.2.2.out hb)⟩
theorem sums_join (la lb : List UInt8) : Crc.rounds Crc.Z lb.length (Crc.sumOf la) ^^^ Crc.sumOf lb = Crc.sumOf (la ++ lb) := Crc.join_sums la lb
/-- what is told of a text with its sum behind it, some bits turned -/
theorem told_iff (l : List UInt8) (a : Nat) (p : BitVec 32) (h : List UInt8) (hh : h = Crc.turn a p (l ++ Crc.four (Crc.sumOf l))) :
    (Crc.four (Crc.sumOf (h.take l.length)) = h.drop l.length) ↔ h = l ++ Crc.four (Crc.sumOf l) := by
  have hr := Crc.residue l
  constructor
  · intro e
    have h2 : Crc.sumOf h = 0x2144DF1C#32 := by
      rw [← List.take_append_drop l.length h, ← e]; exact Crc.residue _
    rw [hh] at h2 ⊢
    exact (Crc.residue_burst a p _ hr).1 h2
  · intro e
    rw [e, List.take_left', List.drop_left']
    · rfl
    · rfl
set_option maxRecDepth 100000 in
set_option maxHeartbeats 4000000 in
theorem TopSum_walk (x0 x1 x2 x3 x5 x6 x7 x8 x9 x13 dv : Value) (key : ByteArray) (lb : List UInt8) (bit : Int) (p : BitVec 32) (hk : key.toList.length + lb.length ≤ 1048576) (b0 : -9223372036854775808 ≤ bit) (b1 : bit ≤ 9223372036854775807) (w : World) (hd : SlB w dv lb) (hT : TabAt w) :
    Calls Tryd.prog 8 #[.agg #[x0, x1, x2, x3, .string key, x5, x6, x7, x8, x9, dv, .int .i64 bit, W32 p, x13]] w fun e w' => e = .returned (.bool true) ∧ Below w.heap.size w w' := by
  have HD := hid hd
  have HT := hid hT
  obtain ⟨Ad, cd, rfl⟩ := hd.form
  have hconv := fun W => conv_run W key
  obtain ⟨la, hla⟩ : ∃ la, key.toList = la := ⟨_, rfl⟩
  have HLA := hid hla
  rw [hla] at hk hconv
  clear hd hT hla
  go_enter Tryd.func8, Tryd.ntmps8
  go_wp2
  refine Code.seen (fun W => HB key (.slice Ad lb.length cd) bit p w.heap.size w W) ⟨by rw [blk_cell (heap_alloc_new _ _)]; rfl, by rw [blk_cell (heap_alloc_new _ _)]; rfl, by rw [blk_cell (heap_alloc_new _ _)]; rfl, by rw [blk_cell (heap_alloc_new _ _)]; rfl, hid ((Below.refl _ _).alloc (Nat.le_refl _) _)⟩ fun w1 H1 => ?_
  have hh1 := H1.out.keep ((Below.refl _ _).drew)
  have hh2 := hh1.keep (conv_below _ key)
  obtain ⟨p1, p2, p3, p4, _⟩ := hh1
  obtain ⟨r1, r2, r3, r4, _⟩ := hh2
  go_region
  clear p1 p2 p3 p4 r1 r2 r3 r4
  have HA : Hid (SlB (convW w1.drew key) (.slice (some ⟨w1.heap.size, 0, none⟩) la.length (convC w1.drew key)) la) := hid (by rw [← HLA.out]; exact conv_sl w1.drew key)
  have HB2 : Hid (Below w.heap.size w (convW w1.drew key)) := hid (below_then H1.out.2.2.2.2.out (below_then ((Below.refl w1.heap.size w1).drew) (conv_below w1.drew key)))
  clear hconv
  obtain ⟨Aa, hAa⟩ : ∃ A : Option Addr, A = some ⟨w1.heap.size, 0, none⟩ := ⟨_, rfl⟩
  simp only [← hAa] at HA ⊢
  generalize convC w1.drew key = ca at *
  generalize convW w1.drew key = w2 at *
  have E2 : Hid (En w w2) := hid ⟨HB2.out, HT.out⟩
  have HD2 := hid (HD.out.below HB2.out)
  clear hAa H1 HB2
  go_wp2_with fail
  refine (own_any _ la w2 HA.out (by omega)).mono ?_
  rintro e w3 ⟨A3, c3, rfl, ho3, hb3⟩
  have HO3 := hid ho3
  have HB3 := hid hb3
  have HD3 := hid (HD2.out.below hb3)
  have HZ2 := hid E2.out.b.size
  clear ho3 hb3
  go_wp2_with (first | (at_builtin; refine wpList_appB rfl (.tmp 31) (.tmp 32) rfl w2.heap.size _ _ la lb rfl rfl HO3.out HD3.out (by omega) HB3.out.size ?_; intro v4 w4 ho4 hg4; obtain ⟨D, hD⟩ : ∃ D, D = la ++ lb := ⟨_, rfl⟩; rw [← hD] at ho4; have HDD := hid hD; have hDl : D.length ≤ 1048576 := (by rw [hD, List.length_append]; exact hk); clear hD; obtain ⟨A4, c4, rfl⟩ := ho4.form; have HB4 := hid (OwnB.grown HB3.out HO3.out (Nat.le_refl _) HB3.out.size hg4); have HO4 := hid ho4; have R4 : Hid (Rs w w4 [(.slice A4 D.length c4, D), (.slice Aa la.length ca, la), (.slice Ad lb.length cd, lb)]) := (hid ((((⟨E2.out.next HB4.out, fun p hp => by cases hp⟩ : Rs w w4 []).cons (HD2.out.below HB4.out) (by omega)).cons (HA.out.below HB4.out) (by omega)).cons ho4.sl (by omega))); clear ho4 hg4) | fail)
  have K4 : Hid (Below w4.heap.size w4 w4) := hid (Below.refl _ _)
  refine (own_any _ la w4 (R4.out.s (.slice Aa la.length ca, la) (by simp)).1 (by omega)).mono ?_
  rintro e w5 ⟨A5, c5, rfl, ho, hb⟩
  have R5 := hid ((R4.out.next hb).cons ho.sl (by omega))
  have K5 := hid (below_then K4.out hb)
  clear ho hb HO3 HB3 HD3 HA HD2 R4 K4
  obtain ⟨x, hx⟩ : ∃ x, x = Crc.sumOf la := ⟨_, rfl⟩
  obtain ⟨y, hy⟩ : ∃ y, y = Crc.sumOf lb := ⟨_, rfl⟩
  obtain ⟨z, hz⟩ : ∃ z, z = Crc.sumOf D := ⟨_, rfl⟩
  have HX := hid hx
  have HY := hid hy
  have HZ := hid hz
  clear hx hy hz
  go_wp2_with fail
  refine Calls.mono (Of_litsB R5.out [(.slice A5 la.length c5, la)] x (by rw [HX.out]; simp) (by simp) (by simp) rfl rfl) ?_
  rintro e w6 ⟨rfl, h6, hb⟩
  have R6 := hid h6
  have K6 := hid (below_then K5.out hb)
  clear h6 hb R5 K5
  go_wp2_with fail
  refine (own_any (.slice Ad lb.length cd) lb w6 (R6.out.s ((.slice Ad lb.length cd), lb) (by simp)).1 (by omega)).mono ?_
  rintro e w7 ⟨A7, c7, rfl, ho, hb⟩
  have R7 := hid ((R6.out.next hb).cons ho.sl (by omega))
  have K7 := hid (below_then K6.out hb)
  clear ho hb R6 K6
  go_wp2_with fail
  refine Calls.mono (Of_litsB R7.out [(.slice A7 lb.length c7, lb)] y (by rw [HY.out]; simp) (by simp) (by simp) rfl rfl) ?_
  rintro e w8 ⟨rfl, h8, hb⟩
  have R8 := hid h8
  have K8 := hid (below_then K7.out hb)
  clear h8 hb R7 K7
  go_wp2_with fail
  refine Calls.mono (Join_at x y z lb.length w8 R8.out.e.t rfl rfl rfl (by omega) (by rw [HX.out, HY.out, HZ.out, HDD.out]; exact sums_join la lb)) ?_
  rintro e w9 ⟨rfl, hb⟩
  have R9 := hid (R8.out.next hb)
  have K9 := hid (below_then K8.out hb)
  clear hb R8 K8
  go_wp2_with fail
  refine (New_any w9).mono ?_
  rintro e w10 ⟨rfl, hs, hb, hz10⟩
  obtain ⟨g, hg⟩ : ∃ g, g = w9.heap.size := ⟨_, rfl⟩
  simp only [← hg] at hs ⊢
  have HS10 := hid hs
  have K10 := hid (below_then K9.out hb)
  have J10 : Hid (Below w9.heap.size w9 w10) := hid hb
  have HG := hid hg
  have hlal : la.length ≤ 1048576 := by omega
  have hlbl : lb.length ≤ 1048576 := by omega
  clear hs hb hz10 hg
  go_wp2_with fail
  refine (own_any (.slice Aa la.length ca) la w10 ((R9.out.next J10.out).s ((.slice Aa la.length ca), la) (by simp)).1 (by omega)).mono ?_
  rintro e w11 ⟨A11, c11, rfl, ho, hb⟩
  have U11 := hid ho
  have B11 := hid hb
  have J11 : Hid (Below w9.heap.size w9 w11) := hid (J10.out.trans (hb.mono J10.out.size))
  clear ho hb
  have HS11 := hid (HS10.out.below B11.out)
  clear HS10
  go_wp2_with fail
  refine (Write_any g [] la _ w11 HS11.out (R9.out.next J11.out).e.t U11.out.sl (by simp; omega)).mono ?_
  rintro e w12 ⟨rfl, hs, hf⟩
  have HS12 : Hid (SAt w12 g la) := hid hs
  have J12 : Hid (Below w9.heap.size w9 w12) := hid (J11.out.trans (hf.to_below (fun k hk h => by have := HG.out; omega) J11.out.size))
  clear hs hf HS11 U11 B11 K10 J10
  go_wp2_with fail
  refine (Copy_any g la w12 HS12.out).mono ?_
  rintro e w13 ⟨rfl, hs, hb⟩
  obtain ⟨g2, hg2⟩ : ∃ g2, g2 = w12.heap.size := ⟨_, rfl⟩
  simp only [← hg2] at hs ⊢
  have HT13 := hid hs
  have HS13 := hid (HS12.out.below hb)
  have J13 : Hid (Below w9.heap.size w9 w13) := hid (J12.out.trans (hb.mono J12.out.size))
  have HGG : Hid (g2 ≠ g) := hid (by have := blk_lt HS12.out; omega)
  clear hs hb hg2 HS12
  go_wp2_with fail
  refine (own_any (.slice Ad lb.length cd) lb w13 ((R9.out.next J13.out).s ((.slice Ad lb.length cd), lb) (by simp)).1 (by omega)).mono ?_
  rintro e w14 ⟨A14, c14, rfl, ho, hb⟩
  have U14 := hid ho
  have B14 := hid hb
  have J14 : Hid (Below w9.heap.size w9 w14) := hid (J13.out.trans (hb.mono J13.out.size))
  clear ho hb
  have HS14 := hid (HS13.out.below B14.out)
  have HT14 := hid (HT13.out.below B14.out)
  clear HS13 HT13
  go_wp2_with fail
  refine (Write_any g la lb _ w14 HS14.out (R9.out.next J14.out).e.t U14.out.sl (by omega)).mono ?_
  rintro e w15 ⟨rfl, hs, hf⟩
  rw [← HDD.out] at hs
  have HS15 : Hid (SAt w15 g D) := hid hs
  have HT15 := hid (HT14.out.fr hf HGG.out)
  have J15 : Hid (Below w9.heap.size w9 w15) := hid (J14.out.trans (hf.to_below (fun k hk h => by have := HG.out; omega) J14.out.size))
  clear hs hf HS14 HT14 U14 B14
  go_wp2_with fail
  have C := check32_any (.slice Aa la.length ca) la w15 ((R9.out.next J15.out).s ((.slice Aa la.length ca), la) (by simp)).1 (by omega)
  rw [← HX.out] at C
  refine C.mono ?_
  rintro e w' ⟨rfl, hw⟩
  replace hw := hw.symm
  subst hw
  clear C
  go_wp2_with fail
  have C := check32_any (.slice Ad lb.length cd) lb w15 ((R9.out.next J15.out).s ((.slice Ad lb.length cd), lb) (by simp)).1 (by omega)
  rw [← HY.out] at C
  refine C.mono ?_
  rintro e w' ⟨rfl, hw⟩
  replace hw := hw.symm
  subst hw
  clear C
  go_wp2_with fail
  have C := check32_any (.slice A4 D.length c4) D w15 ((R9.out.next J15.out).s ((.slice A4 D.length c4), D) (by simp)).1 (by omega)
  rw [← HZ.out] at C
  refine C.mono ?_
  rintro e w' ⟨rfl, hw⟩
  replace hw := hw.symm
  subst hw
  clear C
  go_wp2_with fail
  have C := Value_any g D w15 HS15.out
  rw [← HZ.out] at C
  refine C.mono ?_
  rintro e w' ⟨rfl, hw⟩
  replace hw := hw.symm
  subst hw
  clear C
  go_wp2_with fail
  have C := Value_any g2 la w15 HT15.out
  rw [← HX.out] at C
  refine C.mono ?_
  rintro e w' ⟨rfl, hw⟩
  replace hw := hw.symm
  subst hw
  clear C HT15
  go_wp2_with fail
  refine (own_any (.slice Aa la.length ca) la w15 ((R9.out.next J15.out).s ((.slice Aa la.length ca), la) (by simp)).1 (by omega)).mono ?_
  rintro e w16 ⟨A16, c16, rfl, ho, hb⟩
  have U16 := hid ho
  have B16 := hid hb
  have J16 : Hid (Below w9.heap.size w9 w16) := hid (J15.out.trans (hb.mono J15.out.size))
  clear ho hb
  have HS16 := hid (HS15.out.below B16.out)
  clear HS15
  go_wp2_with fail
  refine (own_any (.slice Ad lb.length cd) lb w16 ((R9.out.next J16.out).s ((.slice Ad lb.length cd), lb) (by simp)).1 (by omega)).mono ?_
  rintro e w17 ⟨A17, c17, rfl, ho, hb⟩
  have U17 := hid ho
  have B17 := hid hb
  have J17 : Hid (Below w9.heap.size w9 w17) := hid (J16.out.trans (hb.mono J16.out.size))
  clear ho hb
  have HS17 := hid (HS16.out.below B17.out)
  have U16b := hid (U16.out.sl.below B17.out)
  have R17 : Hid (Rs w w17 [(.slice A16 la.length c16, la), (.slice A17 lb.length c17, lb), (.slice A4 D.length c4, D)]) := hid (by
    have r0 : Rs w w17 [] := ⟨(R9.out.next J17.out).e, fun p hp => by cases hp⟩
    have r1 := r0.cons ((R9.out.next J17.out).s (.slice A4 D.length c4, D) (by simp)).1 (show D.length ≤ 281474976710656 by omega)
    have r2 := r1.cons U17.out.sl (show lb.length ≤ 281474976710656 by omega)
    exact r2.cons U16b.out (show la.length ≤ 281474976710656 by omega))
  clear HS16 U16 U17 U16b B16 B17
  go_wp2_with fail
  refine Calls.mono (Of_litsB R17.out [(.slice A16 la.length c16, la), (.slice A17 lb.length c17, lb)] z (by rw [HZ.out, HDD.out]; simp) (by simp) (by simp) rfl rfl) ?_
  rintro e w18 ⟨rfl, _, hb⟩
  have HS18 := hid (HS17.out.below hb)
  have J18 : Hid (Below w9.heap.size w9 w18) := hid (J17.out.trans (hb.mono J17.out.size))
  clear hb HS17 R17 J17
  go_wp2_with fail
  refine (Len_any g D w18 HS18.out).mono ?_
  rintro e w' ⟨rfl, hw⟩
  replace hw := hw.symm
  subst hw
  clear HS18
  go_wp2_with fail
  have C := check32_any (.slice A4 D.length c4) D w18 ((R9.out.next J18.out).s ((.slice A4 D.length c4), D) (by simp)).1 (by omega)
  rw [← HZ.out] at C
  refine C.mono ?_
  rintro e w' ⟨rfl, hw⟩
  replace hw := hw.symm
  subst hw
  clear C
  go_wp2_with fail
  refine (sumBytes_any z w18).mono ?_
  rintro e w19 ⟨rfl, hw⟩
  have J19 : Hid (Below w9.heap.size w9 w19) := hid (by rw [hw]; exact J18.out.alloc (Nat.le_trans (Nat.le_refl _) J18.out.size) _)
  have HL19 : Hid (SlB w19 (.slice (some ⟨w18.heap.size, 0, none⟩) 4 4) (Crc.four z)) := hid (by rw [hw]; exact lit_sl w18 (Crc.four z) (by simp [Crc.four]))
  have HO19 : Hid (OwnB w19 w2.heap.size (.slice A4 D.length c4) D) := hid (HO4.out.below (K9.out.trans (J19.out.mono K9.out.size)))
  have hf4 : (Crc.four z).length = 4 := by simp [Crc.four]
  have HF4 := hid hf4
  have E19 := hid ((R9.out.next J19.out).e)
  have HS19 : Hid (w2.heap.size ≤ w19.heap.size) := hid (Nat.le_trans HB4.out.size (Nat.le_trans K9.out.size J19.out.size))
  clear hw hf4
  go_wp2_with (first | (at_builtin; refine wpList_appB rfl (.tmp 112) (.tmp 115) rfl w2.heap.size _ _ D (Crc.four z) rfl rfl HO19.out HL19.out (by rw [HF4.out]; omega) HS19.out ?_; intro v20 w20 ho20 hg20; have E20 := hid (E19.out.grown HO19.out HZ2.out hg20); obtain ⟨WD, hWD⟩ : ∃ WD, WD = D ++ Crc.four z := ⟨_, rfl⟩; rw [← hWD] at ho20; have HWD := hid hWD; have hWl : WD.length ≤ 1048580 := (by rw [hWD, List.length_append, HF4.out]; omega); have hW4 : 4 ≤ WD.length := (by rw [hWD, List.length_append, HF4.out]; omega); clear hWD; obtain ⟨A20, c20, rfl⟩ := ho20.form; have HO20 := hid ho20; clear ho20 hg20) | fail)
  refine (pick_any _ bit (by omega) (by omega) b0 b1 w20).mono ?_
  rintro e w' ⟨a, rfl, hal, hw⟩
  replace hw := hw.symm
  subst hw
  go_wp2_with fail
  refine (own_any _ WD w20 HO20.out.sl (by omega)).mono ?_
  rintro e w21 ⟨A21, c21, rfl, ho, hb⟩
  have HO21 := hid ho
  have E21 := hid (E20.out.next hb)
  have HW21 := hid (HO20.out.sl.below hb)
  clear ho hb HO20 E20
  go_wp2_with fail
  refine (Turn_any _ WD a p (by omega) w21 HO21.out.sl (by omega)).mono ?_
  rintro e w22 ⟨u, rfl, ho, hb⟩
  obtain ⟨hit, hhit⟩ : ∃ h, h = Crc.turn a p WD := ⟨_, rfl⟩
  rw [← hhit] at ho
  have HHIT := hid hhit
  have hhl : Hid (hit.length = WD.length) := hid (by rw [hhit, Crc.turn_length])
  have hh1 : hit.length ≤ 1048580 := by have := hhl.out; omega
  have hh2 : 4 ≤ hit.length := by have := hhl.out; omega
  clear hhit
  obtain ⟨A22, c22, rfl⟩ := ho.form
  have HO22 := hid ho
  have E22 := hid (E21.out.next hb)
  have HW22 := hid (HW21.out.below hb)
  clear ho hb HO21 E21 HW21
  go_wp2_with fail
  refine (turned_any _ WD a p (by omega) w22 HW22.out (by omega)).mono ?_
  rintro e w23 ⟨A23, c23, rfl, ho, hb⟩
  rw [← HHIT.out] at ho
  have HO23 : Hid (SlB w23 (.slice A23 WD.length c23) hit) := hid ho.sl
  have HH23 := hid (HO22.out.below hb)
  have E23 := hid (E22.out.next hb)
  have HW23 := hid (HW22.out.below hb)
  clear ho hb HO22 E22 HW22
  go_wp2_with fail
  refine (sameBytes_any _ _ hit hit w23 HH23.out.sl HO23.out (by omega)).mono ?_
  rintro e w24 ⟨rfl, m, hw⟩
  have HH24 : Hid (OwnB w24 w21.heap.size (.slice A22 hit.length c22) hit) := hid (by rw [hw]; exact HH23.out.below (below_drewN (Below.refl _ _) m))
  have E24 : Hid (En w w24) := hid (by rw [hw]; exact E23.out.drewN m)
  have HW24 : Hid (SlB w24 (.slice A20 WD.length c20) WD) := hid (by rw [hw]; exact HW23.out.drewN m)
  clear hw HO23 HH23 E23 HW23
  obtain ⟨N, hN⟩ : ∃ N, hit.length = N + 4 := ⟨hit.length - 4, by omega⟩
  have n1 : (hit.length : Int) - 4 = (N : Int) := by omega
  have n2 : N ≤ hit.length := by omega
  have n3 : N ≤ 1048576 := by omega
  have HN := hid hN
  obtain ⟨g22, cc, e22, _, hc22, _⟩ := HH24.out.some_ (by omega)
  injection e22 with e1 e2 e3
  subst e1 e3
  clear e2 hN
  have n4 : N ≤ c22 := by omega
  have n5 : N < c22 := by omega
  obtain ⟨x', hx'⟩ : ∃ x', x' = Crc.sumOf (hit.take N) := ⟨_, rfl⟩
  have HX' := hid hx'
  have HQ : Hid (decide (Crc.four x' = hit.drop N) = decide (hit = WD)) := hid (by
    have hDl2 : D.length = N := by have h1 := hhl.out; have h2 := HN.out; rw [HWD.out, List.length_append, HF4.out] at h1; omega
    have := told_iff D a p hit (by rw [HHIT.out, HWD.out, HZ.out])
    rw [hDl2, ← hx', ← HZ.out, ← HWD.out] at this
    simp only [this])
  clear hx'
  have kd : ∀ {W : World}, Below w24.heap.size w24 W → Below w24.heap.size w24 W.drew := fun h => h.drew
  have k1 : Below w24.heap.size w24 w24.drew := (Below.refl _ _).drew
  have k2 : Below w24.heap.size w24 (w24.alloc (.cells #[.slice (some ⟨g22, 0, none⟩) N N] 33)).drew := ((Below.refl _ _).alloc (Nat.le_refl _) _).drew
  have k3 : Below w24.heap.size w24 ((w24.alloc (.cells #[.slice (some ⟨g22, 0, none⟩) N N] 33)).alloc (.cells ((Crc.four x').map B).toArray 5)).drew := ((((Below.refl _ _).alloc (Nat.le_refl _) _).alloc ((Below.refl w24.heap.size w24).alloc (Nat.le_refl _) _).size _)).drew
  have K4 : Hid (Below w24.heap.size w24 ((w24.alloc (.cells #[.slice (some ⟨g22, 0, none⟩) N N] 33)).alloc (.cells ((Crc.four x').map B).toArray 5))) := hid (((Below.refl _ _).alloc (Nat.le_refl _) _).alloc ((Below.refl w24.heap.size w24).alloc (Nat.le_refl _) _).size _)
  have K1 := hid k1
  have K2 := hid k2
  have K3 := hid k3
  have HT24 : Hid (SlB w24.drew (.slice (some ⟨g22, 0, none⟩) N N) (hit.take N)) := hid (own_take (HH24.out.below (Below.refl _ _).drew) N n2 N (Nat.le_refl _))
  have HE24 : Hid (En w w24.drew) := hid E24.out.drew
  have hz24 : (w24.alloc (.cells #[.slice (some ⟨g22, 0, none⟩) N N] 33)).heap.size = w24.heap.size + 1 := Array.size_push ..
  have HF24 : Hid (SlB ((w24.alloc (.cells #[.slice (some ⟨g22, 0, none⟩) N N] 33)).alloc (.cells ((Crc.four x').map B).toArray 5)).drew (.slice (some ⟨w24.heap.size + 1, 0, none⟩) 4 4) (Crc.four x')) := hid (by
    have h : SlB ((w24.alloc (.cells #[.slice (some ⟨g22, 0, none⟩) N N] 33)).alloc (.cells ((Crc.four x').map B).toArray 5)).drew (.slice (some ⟨(w24.alloc (.cells #[.slice (some ⟨g22, 0, none⟩) N N] 33)).heap.size, 0, none⟩) 4 4) (Crc.four x') := SlB.drew (lit_sl (w24.alloc (.cells #[.slice (some ⟨g22, 0, none⟩) N N] 33)) (Crc.four x') (by simp [Crc.four]))
    rw [hz24] at h
    exact h)
  clear hz24
  have HD24 : Hid (SlB ((w24.alloc (.cells #[.slice (some ⟨g22, 0, none⟩) N N] 33)).alloc (.cells ((Crc.four x').map B).toArray 5)).drew (.slice (some ⟨g22, N, none⟩) (hit.length - N) (c22 - N)) (hit.drop N)) := hid (own_drop (HH24.out.below k3) N n2 _ (by omega))
  have hfl : (Crc.four x').length ≤ 140737488355328 := by simp [Crc.four]
  have HFL := hid hfl
  clear kd k1 k2 k3 hfl
  simp only [decide_true]
  go_wp2_with fail
  go_region_held3 (fun W => Below w24.heap.size w24 W)
    (first | assumption | exact Below.refl _ _ | exact K1.out | exact K2.out | exact K3.out | exact below_drewN K3.out _ | exact below_drewN K4.out _)
    (first
      | (go_at_call 19; refine Calls.mono (Of_one1D HE24.out HT24.out (by rw [List.length_take]; omega)) ?_; rw [← HX'.out]; rintro e w' ⟨rfl, rfl⟩)
      | (go_at_call 25; refine (sumBytes_any x' _).mono ?_; rintro e w' ⟨rfl, rfl⟩)
      | (go_at_call 27; refine (sameBytes_any _ _ (Crc.four x') (hit.drop N) _ HF24.out HD24.out HFL.out).mono ?_; rintro e w' ⟨rfl, q, rfl⟩))
  have k25 : Below w24.heap.size w24 (((w24.alloc (.cells #[.slice (some ⟨g22, 0, none⟩) N N] 33)).alloc (.cells ((Crc.four x').map B).toArray 5)).drewN (1 + q)) := below_drewN K4.out _
  obtain ⟨w25, hw25⟩ : ∃ W, W = (((w24.alloc (.cells #[.slice (some ⟨g22, 0, none⟩) N N] 33)).alloc (.cells ((Crc.four x').map B).toArray 5)).drewN (1 + q)) := ⟨_, rfl⟩
  rw [← hw25] at k25 ⊢
  have K25 := hid k25
  have HE25 : Hid (En w w25) := hid (E24.out.next k25)
  have HH25 : Hid (SlB w25 (.slice (some ⟨g22, 0, none⟩) hit.length c22) hit) := hid (HH24.out.below k25).sl
  have HW25 : Hid (SlB w25 (.slice A20 WD.length c20) WD) := hid (HW24.out.below k25)
  clear k25 hw25 K1 K2 K3 K4 HF24 HD24 HT24 HE24 HH24 HW24
  go_wp2_with fail
  refine (sameBytes_any _ _ hit WD w25 HH25.out HW25.out (by omega)).mono ?_
  rintro e w26 ⟨rfl, r, hw⟩
  have HE26 : Hid (En w w26) := hid (by rw [hw]; exact HE25.out.drewN r)
  clear hw
  rw [HQ.out]
  generalize decide (hit = WD) = bb at *
  go_wp2_with fail
  go_ret
  exact ⟨rfl, HE26.out.b⟩
end Go.Proofs.YthadfebboagabaaDoor
