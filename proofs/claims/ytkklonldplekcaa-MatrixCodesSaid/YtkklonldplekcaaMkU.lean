/- The helpers of the law MatrixCodes: unlike. -/
import Derived.Test.YtkklonldplekcaaMatrixRanksW
import Derived.Test.YtkklonldplekcaaCdR
namespace Go.Proofs.Ytkklonldplekcaa
open Go.RowKit
/-- of a list the bytes ahead of i, each once, at most so many, none of another list -/
def unlT (no : List UInt8) (most : Nat) (l : List UInt8) : Nat → List UInt8
  | 0 => []
  | i + 1 => if l.getD i 0 ∈ unlT no most l i ++ no ∨ most ≤ (unlT no most l i).length then unlT no most l i else unlT no most l i ++ [l.getD i 0]
/-- unlike bytes, at most so many, none of another list -/
def Unl (no : List UInt8) (most : Nat) (L : List UInt8) : Prop := L.length ≤ most ∧ (∀ i j, i < L.length → j < L.length → L.getD i 0 = L.getD j 0 → i = j) ∧ ∀ i, i < L.length → L.getD i 0 ∉ no
theorem getD_mem_ {L : List UInt8} {i : Nat} (hi : i < L.length) : L.getD i 0 ∈ L := by
  rw [List.getD_eq_getElem?_getD, List.getElem?_eq_getElem hi]; exact List.getElem_mem hi
theorem snoc_getD (L : List UInt8) (x : UInt8) (i : Nat) (hi : i < (L ++ [x]).length) : (i < L.length ∧ (L ++ [x]).getD i 0 = L.getD i 0) ∨ (i = L.length ∧ (L ++ [x]).getD i 0 = x) := by
  rw [List.length_append, List.length_singleton] at hi
  by_cases h : i < L.length
  · exact .inl ⟨h, by rw [List.getD_eq_getElem?_getD, List.getElem?_append_left h, ← List.getD_eq_getElem?_getD]⟩
  · obtain rfl : i = L.length := by omega
    exact .inr ⟨rfl, by simp⟩
theorem Unl.snoc {no : List UInt8} {most : Nat} {L : List UInt8} {x : UInt8} (h : Unl no most L) (hx : x ∉ L ++ no) (hl : L.length < most) : Unl no most (L ++ [x]) := by
  obtain ⟨_, h2, h3⟩ := h
  rw [List.mem_append] at hx
  refine ⟨by rw [List.length_append, List.length_singleton]; omega, fun i j hi hj e => ?_, fun i hi => ?_⟩
  · rcases snoc_getD L x i hi with ⟨a, b⟩ | ⟨a, b⟩ <;> rcases snoc_getD L x j hj with ⟨c, d⟩ | ⟨c, d⟩ <;> rw [b, d] at e
    · exact h2 i j a c e
    · exact absurd (.inl (e ▸ getD_mem_ a)) hx
    · exact absurd (.inl (e ▸ getD_mem_ c)) hx
    · omega
  · rcases snoc_getD L x i hi with ⟨a, b⟩ | ⟨a, b⟩ <;> rw [b]
    · exact h3 i a
    · exact fun e => hx (.inr e)
theorem unlT_ok (no : List UInt8) (most : Nat) (l : List UInt8) : ∀ i, Unl no most (unlT no most l i)
  | 0 => ⟨Nat.zero_le _, fun i j hi => by simp [unlT] at hi, fun i hi => by simp [unlT] at hi⟩
  | i + 1 => by
    have ih := unlT_ok no most l i
    simp only [unlT]
    split
    · exact ih
    · rename_i h
      exact ih.snoc (fun e => h (.inl e)) (by omega)
theorem unlT_pos (most : Nat) (hm : 0 < most) (l : List UInt8) : ∀ i, 0 < i → 0 < (unlT [] most l i).length
  | 0, h => by omega
  | i + 1, _ => by
    simp only [unlT, List.append_nil]
    split
    · rename_i h
      rcases h with h | h
      · exact List.length_pos_of_mem h
      · omega
    · simp
theorem own_lift {w : World} {base : Nat} {v : Value} {l : List UInt8} (h : OwnB w 0 v l) (hb : ∀ k, v.ownBlock = some k → base ≤ k) : OwnB w base v l := by
  obtain ⟨h1, h2 | ⟨g, cap, cur, rfl, _, r⟩⟩ := h
  · exact ⟨h1, .inl h2⟩
  · exact ⟨h1, .inr ⟨g, cap, cur, rfl, hb g rfl, r⟩⟩
theorem own_word {w : World} {base : Nat} {v : Value} {l : List UInt8} {n : Nat} (h : OwnB w base v l) (hn : l.length = n) : ∃ A c, v = .slice A n c := by subst hn; exact h.form
/-- bytes of the call's own -/
def UnSt (w wr : World) (o : Value) (L : List UInt8) : Prop := OwnB wr 0 o L ∧ (∀ k, o.ownBlock = some k → w.heap.size ≤ k) ∧ Below w.heap.size w wr
theorem UnSt.more {w wr w1 w2 : World} {o o' : Value} {L L' : List UInt8} (h : UnSt w wr o L) (h1 : Below wr.heap.size wr w1) (ho : OwnB w2 0 o' L') (hg : w1.grownBy w2 o.ownBlock) (hn : ∀ k, o'.ownBlock = some k → o.ownBlock = some k ∨ w1.heap.size ≤ k) : UnSt w w2 o' L' := by
  obtain ⟨a, b, c⟩ := h
  have hs := c.size
  have hs1 := h1.size
  have hb : Below w.heap.size w w1 := below_then c h1
  refine ⟨ho, fun k hk => ?_, hb.grown hg hb.size b⟩
  rcases hn k hk with e | e
  · exact b k e
  · omega
set_option maxRecDepth 100000 in
set_option maxHeartbeats 8000000 in
theorem unlike_any (w : World) (u v : Value) (l no : List UInt8) (hu : SlB w u l) (hv : SlB w v no) (most : Nat) (hm : most ≤ 1000) (hl : l.length ≤ 140737488355328) (hno : no.length ≤ 1099511627776) :
    Calls Try.prog 40 #[u, .int .i64 most, v] w fun e w' => ∃ v', e = .returned v' ∧ OwnB w' w.heap.size v' (unlT no most l l.length) ∧ Below w.heap.size w w' := by
  obtain ⟨Au, cu, rfl⟩ := hu.form
  obtain ⟨Av, cv, rfl⟩ := hv.form
  have HU := hid hu
  have HV := hid hv
  clear hu hv
  go_enter Try.func40, Try.ntmps40
  go_wp2
  go_loopw [7, 9, 10, 12, 15] (fun o _ _ _ x wr => ∃ i : Nat, i ≤ l.length ∧ x = .int .i64 i ∧ UnSt w wr o (unlT no most l i)) (fun _ _ _ _ x _ => l.length - (intOf x).toNat)
  case atStart => exact ⟨0, Nat.zero_le _, rfl, OwnB.nil _ _, (fun k hk => by cases hk), Below.refl _ _⟩
  case round =>
    obtain ⟨i, hi, rfl, hst⟩ := hrel
    by_cases hlt : i < l.length
    · obtain ⟨x, hx⟩ : ∃ x, l.getD i 0 = x := ⟨_, rfl⟩
      obtain ⟨out, ho⟩ : ∃ o, unlT no most l i = o := ⟨_, rfl⟩
      have hok := (unlT_ok no most l i).1
      have HSTEP : Hid (unlT no most l (i + 1) = if x ∈ out ++ no ∨ most ≤ out.length then out else out ++ [x]) := hid (by simp only [unlT]; rw [hx, ho])
      rw [ho] at hst hok
      obtain ⟨bu, ou, rfl, hbytes⟩ := (HU.out.below hst.2.2).cells (by omega)
      have x0 := hbytes i hlt
      rw [hx] at x0
      obtain ⟨Ao, co, rfl⟩ := hst.1.form
      have HST := hid hst
      have i0 : (0 : Int) ≤ (i : Int) := by omega
      have i1 : (i : Int) < (l.length : Int) := by omega
      have hol : out.length ≤ 1099511627776 := by omega
      have HLL := hid (fun (L : List UInt8) (e : out ++ no = L) => (show L.length ≤ 1099511628776 by rw [← e, List.length_append]; omega))
      have HAL : Hid (out.length + no.length ≤ 140737488355328) := hid (by omega)
      clear hst hbytes hx ho
      go_wp2_with (first
        | (at_builtin; refine wpList_appB rfl (.tmp 19) (.tmp 20) rfl wr.heap.size _ _ [] out rfl rfl (by exact lit0_ wr) (by exact HST.out.1.sl.below ((Below.refl _ _).alloc (Nat.le_refl _) _)) (by simp only [List.length_nil]; omega) (by simp) ?_; intro v1 w1 ho1 hg1; rw [List.nil_append] at ho1; have HB1 := hid (OwnB.grown ((Below.refl wr.heap.size wr).alloc (Nat.le_refl _) _) (lit0_ wr) (Nat.le_refl _) (by simp) hg1); have HO1 := hid ho1; clear ho1 hg1)
        | (at_builtin; refine wpList_appB rfl (.tmp 21) (.tmp 22) rfl wr.heap.size _ _ out no rfl rfl HO1.out (by exact HV.out.below (below_then HST.out.2.2 HB1.out)) HAL.out (by exact HB1.out.size) ?_; intro v2 w2 ho2 hg2; obtain ⟨L2, hL2⟩ : ∃ L, out ++ no = L := ⟨_, rfl⟩; have HB2 := hid (OwnB.grown HB1.out HO1.out (Nat.le_refl _) HB1.out.size hg2); have hl2 := HLL.out _ hL2; rw [hL2] at ho2; have HL2 := hid hL2; have HO2 := hid ho2; obtain ⟨A2, c2, rfl⟩ := ho2.form; clear ho2 hg2 hL2))
      clear x0
      go_loop [10, 12, 25] (fun t _ y => ∃ (j : Nat) (th : Bool), j ≤ L2.length ∧ t = .bool th ∧ y = .int .i64 j ∧ (th = true ↔ x ∈ L2.take j)) (fun _ _ y => L2.length - (intOf y).toNat)
      case atStart => exact ⟨0, false, Nat.zero_le _, rfl, rfl, by simp⟩
      case round =>
        obtain ⟨j, th, hj, rfl, rfl, hth⟩ := hrel
        have HTH := hid hth
        clear hth
        by_cases hjl : j < L2.length
        · obtain ⟨g, cg, e, _, _, _⟩ := HO2.out.some_ (by omega)
          injection e with e1 _ e2
          subst e1 e2
          obtain ⟨y0, _⟩ := HO2.out.at_ j hjl
          obtain ⟨y, hy⟩ : ∃ y, L2.getD j 0 = y := ⟨_, rfl⟩
          rw [hy] at y0
          have HN : Hid (x ∈ L2.take (j + 1) ↔ x ∈ L2.take j ∨ x = y) := hid (by
            rw [List.take_succ_eq_append_getElem hjl, List.mem_append, List.mem_singleton, ← hy, List.getD_eq_getElem?_getD, List.getElem?_eq_getElem hjl]; rfl)
          have j0 : (0 : Int) ≤ (j : Int) := by omega
          have j1 : (j : Int) < (L2.length : Int) := by omega
          clear hy
          by_cases hxy : x = y
          · subst hxy
            have R : Hid (true = true ↔ x ∈ L2.take (j + 1)) := hid ⟨fun _ => HN.out.2 (.inr rfl), fun _ => rfl⟩
            cases th
            all_goals
              go_wp2
              go_round
              case rel => exact ⟨j + 1, true, by omega, rfl, by go_num, R.out⟩
              case measure => simp [intOf]; omega
          · have hne : ((x.toNat : Int) == (y.toNat : Int)) = false := by rw [beq_eq_false_iff_ne]; intro e; exact hxy (UInt8.toNat_inj.1 (by omega))
            have hne2 : (x.toNat == y.toNat) = false := by rw [beq_eq_false_iff_ne]; intro e; exact hxy (UInt8.toNat_inj.1 e)
            have R : Hid (th = true ↔ x ∈ L2.take (j + 1)) := hid (HTH.out.trans ⟨fun h => HN.out.2 (.inl h), fun h => (HN.out.1 h).elim id fun e => absurd e hxy⟩)
            clear hxy
            cases th
            all_goals
              go_wp2
              go_round
              case rel => exact ⟨j + 1, _, by omega, rfl, by go_num, R.out⟩
              case measure => simp [intOf]; omega
        · obtain rfl : j = L2.length := by omega
          have HTH2 : Hid (th = true ↔ x ∈ out ++ no) := hid (by have := HTH.out; rw [List.take_length] at this; rw [HL2.out]; exact this)
          clear HTH
          by_cases hmo : most ≤ out.length
          · have m1 : ¬ (out.length : Int) < (most : Int) := by omega
            have HE : Hid (unlT no most l (i + 1) = out) := hid (by rw [HSTEP.out, if_pos (.inr hmo)])
            have R : Hid (UnSt w w2 (.slice Ao out.length co) out) := hid ⟨HST.out.1.below HB2.out, HST.out.2.1, below_then HST.out.2.2 HB2.out⟩
            cases th
            all_goals
              go_wp2
              go_roundw
              case rel => exact ⟨i + 1, by omega, by go_num, by rw [HE.out]; exact R.out⟩
              case measure => simp [intOf]; omega
          · have m1 : (out.length : Int) < (most : Int) := by omega
            cases th
            · have HE : Hid (unlT no most l (i + 1) = out ++ [x]) := hid (by
                rw [HSTEP.out, if_neg]
                rintro (h | h)
                · exact absurd (HTH2.out.2 h) (by simp)
                · exact hmo h)
              have HOW : Hid (OwnB w2 0 (.slice Ao out.length co) out) := hid (HST.out.1.below HB2.out)
              clear hmo
              go_wp2_with (at_builtin; refine wpList_appU rfl (.tmp 44) (.tmp 46) rfl (.slice Ao out.length co) out x w2.heap.size 5 rfl rfl (OwnB.alloc HOW.out _) (heap_alloc_new _ _) hol ?_; intro g9 cap9 w9 ho9 hg9 hn9; have R := hid (HST.out.more (below_alloc HB2.out HB2.out.size (.cells #[B x] 5 (0, 0))) ho9 hg9 hn9); clear ho9 hg9 hn9)
              go_roundw
              case rel => exact ⟨i + 1, by omega, by go_num, by rw [HE.out]; exact R.out⟩
              case measure => simp [intOf]; omega
            · have HE : Hid (unlT no most l (i + 1) = out) := hid (by rw [HSTEP.out, if_pos (.inl (HTH2.out.1 rfl))])
              have R : Hid (UnSt w w2 (.slice Ao out.length co) out) := hid ⟨HST.out.1.below HB2.out, HST.out.2.1, below_then HST.out.2.2 HB2.out⟩
              go_wp2
              go_roundw
              case rel => exact ⟨i + 1, by omega, by go_num, by rw [HE.out]; exact R.out⟩
              case measure => simp [intOf]; omega
    · obtain rfl : l.length = i := by omega
      have HE := hid (own_lift hst.1 hst.2.1)
      have HB := hid hst.2.2
      clear hst
      go_wp2
      go_ret
      exact ⟨_, rfl, HE.out, HB.out⟩
end Go.Proofs.Ytkklonldplekcaa
