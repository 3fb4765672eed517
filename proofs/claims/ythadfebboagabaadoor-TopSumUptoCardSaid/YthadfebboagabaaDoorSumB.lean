/- Walks over bytes: the laws' own helpers, Clone, Turn. -/
import Derived.Test.YthadfebboagabaaDoorSumW
import Derived.Test.YthadfebboagabaaDoorByt
import Derived.Lib.SliceRun
namespace Go.Proofs.YthadfebboagabaaDoor
open Go.RowKit

set_option maxHeartbeats 1000000 in
theorem wide_any (v : Value) (l : List UInt8) (w : World) (h : SlB w v l) (hl : l.length ≤ 140737488351232) :
    Calls Tryd.prog 15 #[v] w fun e w' => ∃ u, e = .returned u ∧ Wide w' w.heap.size u l ∧ Below w.heap.size w w' := by
  have H := hid h
  clear h
  have hlen : Hid (∃ A c, v = .slice A l.length c) := by obtain ⟨A, c, rfl, _⟩ := H.out; exact ⟨A, c, rfl⟩
  obtain ⟨A, c, rfl⟩ := hlen
  go_enter Tryd.func15, Tryd.ntmps15
  go_wp2_with (first
    | (at_builtin; refine wpList_appB rfl (.tmp 4) (.tmp 5) rfl w.heap.size _ _ [] l rfl rfl (OwnB.nil _ _) H.out (by simp; omega) (Nat.le_refl _) ?_; intro v1 w1 ho1 hg1; have hb1 := hid (OwnB.grown (Below.refl w.heap.size w) (OwnB.nil w w.heap.size) (Nat.le_refl _) (Nat.le_refl _) hg1))
    | (at_builtin; refine wpList_appB rfl (.tmp 7) (.tmp 8) rfl w.heap.size _ _ ([] ++ l) [0xc1, 0xc2] rfl rfl (ho1.alloc _) (by exact lit_sl w1 [0xc1, 0xc2] (by decide)) (by simp; omega) (by exact Nat.le_trans hb1.out.size (by simp)) ?_; intro v2 w2 ho2 hg2; have hb2 := hid (OwnB.grown (hb1.out.alloc hb1.out.size _) (ho1.alloc _) (Nat.le_refl _) (Nat.le_trans hb1.out.size (by simp)) hg2); obtain ⟨g, cap, rfl, hgb, hcap, hmax⟩ := ho2.some_ (by simp); have hcap2 : l.length + 2 ≤ cap := (by simpa using hcap); clear hcap))
  go_ret
  refine ⟨_, rfl, ⟨g, cap, rfl, hcap2, ?_⟩, hb2.out⟩
  simpa using ho2

set_option maxHeartbeats 1000000 in
theorem kept_true {base : Nat} (v u : Value) (l : List UInt8) (w : World) (h : Wide w base v l) (hu : SlB w u l) (hl : l.length ≤ 140737488351232) :
    Calls Tryd.prog 16 #[v, u] w fun e w' => e = .returned (.bool true) ∧ w = w' := by
  have k1 := conv_str h.sl
  have k2 := conv_str hu
  obtain ⟨g, cap, rfl, hcap, ho⟩ := h
  have c1 := (ho.at_ l.length (by simp)).1
  have c2 := (ho.at_ (l.length + 1) (by simp)).1
  simp at c1 c2
  obtain ⟨A, c, rfl, _⟩ := hu
  go_enter Tryd.func16, Tryd.ntmps16
  go_wp2
  go_ret
  exact ⟨rfl, rfl⟩

theorem byte_of (x : BitVec 32) (k : Nat) {q : Int} (hq : q = ((2 ^ k : Nat) : Int)) : ((x.toNat : Int) / q) % 256 = (((⟨(x >>> k).setWidth 8⟩ : UInt8).toNat : Nat) : Int) := by
  subst hq
  show _ = ((((x >>> k).setWidth 8).toNat : Nat) : Int)
  rw [BitVec.toNat_setWidth, BitVec.toNat_ushiftRight, Nat.shiftRight_eq_div_pow]
  rfl
theorem byte_of0 (x : BitVec 32) : (x.toNat : Int) % 256 = (((⟨x.setWidth 8⟩ : UInt8).toNat : Nat) : Int) := by
  show _ = (((x.setWidth 8).toNat : Nat) : Int)
  rw [BitVec.toNat_setWidth]; rfl
set_option maxHeartbeats 1000000 in
theorem four_any (x : BitVec 32) (w : World) :
    Calls Tryd.prog 18 #[W32 x] w fun e w' => e = .returned (.slice (some ⟨w.heap.size, 0, none⟩) 4 4) ∧ w' = w.alloc (.cells ((Crc.four x).map B).toArray 5) := by
  have k0 := byte_of0 x
  have k1 := byte_of x 8 (q := 256) (by decide)
  have k2 := byte_of x 16 (q := 65536) (by decide)
  have k3 : (x.toNat : Int) / (16777216 : Int) = (((⟨(x >>> 24).setWidth 8⟩ : UInt8).toNat : Nat) : Int) := by have h := byte_of x 24 (q := 16777216) (by decide); have := x.isLt; rw [← h]; omega
  unfold Crc.four
  generalize (⟨x.setWidth 8⟩ : UInt8) = b0 at *
  generalize (⟨(x >>> 8).setWidth 8⟩ : UInt8) = b1 at *
  generalize (⟨(x >>> 16).setWidth 8⟩ : UInt8) = b2 at *
  generalize (⟨(x >>> 24).setWidth 8⟩ : UInt8) = b3 at *
  go_enter Tryd.func18, Tryd.ntmps18
  go_wp2
  go_ret
  exact ⟨rfl, rfl⟩

set_option maxHeartbeats 1000000 in
theorem clone_any (v : Value) (l : List UInt8) (w : World) (h : SlB w v l) (hl : l.length ≤ 140737488355328) :
    Calls Tryd.prog 32 #[v] w fun e w' => ∃ u, e = .returned u ∧ OwnB w' w.heap.size u l ∧ Below w.heap.size w w' := by
  have H := hid h
  clear h
  obtain ⟨A, c, e1, hc, hnil, _⟩ := H.out
  have hq := fun (a : Option Addr) (n c : Nat) (w : World) => Lib.run_eql_slice_nil (P := Tryd.prog) w 33 5 a n c 0 0 Tryd.underlying33
  cases A with
  | none =>
    obtain rfl := hnil rfl
    obtain rfl : l = [] := List.length_eq_zero_iff.1 (by omega)
    subst e1
    clear hnil hc
    go_enter Tryd.func32, Tryd.ntmps32
    go_wp2
    go_ret
    exact ⟨_, rfl, OwnB.nil _ _, Below.refl _ _⟩
  | some ad =>
    subst e1
    clear hnil
    go_enter Tryd.func32, Tryd.ntmps32
    go_wp2_with (at_builtin; refine wpList_appB rfl (.tmp 5) (.tmp 6) rfl w.heap.size _ _ [] l rfl rfl (by exact lit0 w) (by exact H.out.below ((Below.refl _ _).alloc (Nat.le_refl _) _)) (by simp; omega) (by simp) ?_; intro v1 w1 ho1 hg1; have hb1 := hid (OwnB.grown ((Below.refl w.heap.size w).alloc (Nat.le_refl _) _) (lit0 w) (Nat.le_refl _) (by simp) hg1))
    go_ret
    exact ⟨_, rfl, by simpa using ho1, hb1.out⟩

/-- what is turned behind the first bytes -/
def turnTo (at_ : Nat) (p : BitVec 32) (l : List UInt8) (m : Nat) : List UInt8 := l.mapIdx fun i b => if i < m then b ^^^ Crc.ebyte at_ p i else b
theorem turnTo_length (at_ : Nat) (p : BitVec 32) (l : List UInt8) (m : Nat) : (turnTo at_ p l m).length = l.length := by simp [turnTo]
theorem turnTo_get (at_ : Nat) (p : BitVec 32) (l : List UInt8) (m i : Nat) (hi : i < l.length) : (turnTo at_ p l m).getD i 0 = if i < m then l.getD i 0 ^^^ Crc.ebyte at_ p i else l.getD i 0 := by
  simp [turnTo, List.getElem?_mapIdx, hi]
theorem ext_getD {k l : List UInt8} (h : k.length = l.length) (hg : ∀ i, i < l.length → k.getD i 0 = l.getD i 0) : k = l := by
  apply List.ext_getElem h
  intro i h1 h2
  have := hg i h2
  simpa [h1, h2] using this
theorem turnTo_step (at_ : Nat) (p : BitVec 32) (l : List UInt8) (m : Nat) (hm : m < l.length) : (turnTo at_ p l m).set m (l.getD m 0 ^^^ Crc.ebyte at_ p m) = turnTo at_ p l (m + 1) := by
  apply ext_getD
  · simp [turnTo]
  · intro i hi
    rw [turnTo_length] at hi
    rw [turnTo_get _ _ _ _ _ hi]
    simp only [List.getD_eq_getElem?_getD, List.getElem?_set, turnTo_length]
    by_cases h : m = i
    · subst h; simp [hm]
    · simp only [h, if_false]
      have := turnTo_get at_ p l m i hi
      rw [List.getD_eq_getElem?_getD] at this
      rw [this]
      by_cases h2 : i < m
      · have h3 : i < m + 1 := by omega
        simp [h2, h3]
      · have h3 : ¬ i < m + 1 := by omega
        simp [h2, h3]
theorem ebyte_low (at_ : Nat) (p : BitVec 32) (i : Nat) (h : 8 * i + 8 ≤ at_) : Crc.ebyte at_ p i = 0 := by
  apply UInt8.eq_of_toBitVec_eq
  apply BitVec.eq_of_getLsbD_eq
  intro j hj
  rw [Crc.ebyte_bit _ _ _ _ hj]
  have : ¬ at_ ≤ 8 * i + j := by omega
  simp [Crc.ebit, this]
theorem ebyte_high (at_ : Nat) (p : BitVec 32) (i : Nat) (h : at_ + 32 ≤ 8 * i) : Crc.ebyte at_ p i = 0 := by
  apply UInt8.eq_of_toBitVec_eq
  apply BitVec.eq_of_getLsbD_eq
  intro j hj
  rw [Crc.ebyte_bit _ _ _ _ hj]
  simp [Crc.ebit]
  intro _
  exact BitVec.getLsbD_of_ge _ _ (by omega)
theorem turnTo_start (at_ : Nat) (p : BitVec 32) (l : List UInt8) : turnTo at_ p l (at_ / 8) = l := by
  apply ext_getD (turnTo_length _ _ _ _)
  intro i hi
  rw [turnTo_get _ _ _ _ _ hi]
  split
  · rw [ebyte_low _ _ _ (by omega)]; simp
  · rfl
theorem turnTo_all (at_ : Nat) (p : BitVec 32) (l : List UInt8) (m : Nat) (h : at_ / 8 + 5 ≤ m ∨ l.length ≤ m) : turnTo at_ p l m = Crc.turn at_ p l := by
  apply ext_getD (by rw [turnTo_length, Crc.turn_length])
  intro i hi
  rw [Crc.turn_length] at hi
  rw [turnTo_get _ _ _ _ _ hi, Crc.turn_get _ _ _ _ hi]
  split
  · rfl
  · rw [ebyte_high _ _ _ (by omega)]; simp
theorem ebyte_nat (f s k : Nat) (p : BitVec 32) (hs : s < 8) : (Crc.ebyte (8 * f + s) p (f + k)).toNat = p.toNat * 2 ^ s / 2 ^ (8 * k) % 256 := by
  have e0 : (Crc.ebyte (8 * f + s) p (f + k)).toNat = BitVec.toNat (if 8 * f + s ≤ 8 * (f + k) then (p >>> (8 * (f + k) - (8 * f + s))).setWidth 8 else p.setWidth 8 <<< (8 * f + s - 8 * (f + k))) := rfl
  rw [e0]
  by_cases h : 8 * f + s ≤ 8 * (f + k)
  · rw [if_pos h]
    rw [BitVec.toNat_setWidth, BitVec.toNat_ushiftRight, Nat.shiftRight_eq_div_pow]
    have e : 8 * (f + k) - (8 * f + s) = 8 * k - s := by omega
    have e2 : 2 ^ (8 * k) = 2 ^ s * 2 ^ (8 * k - s) := by rw [← Nat.pow_add]; congr 1; omega
    rw [e, e2, ← Nat.div_div_eq_div_mul, Nat.mul_div_cancel _ (Nat.two_pow_pos s)]
  · rw [if_neg h]
    have hk : k = 0 := by omega
    subst hk
    rw [BitVec.toNat_shiftLeft, BitVec.toNat_setWidth, Nat.shiftLeft_eq]
    have e : 8 * f + s - 8 * (f + 0) = s := by omega
    rw [e]
    simp [Nat.mod_mul_mod]

theorem turn_byte (p : BitVec 32) (b e : UInt8) (s k : Nat) (hs : s < 8) (he : e.toNat = p.toNat * 2 ^ s / 2 ^ (8 * k) % 256) :
    bits .xor .u8 (b.toNat : Int) (IntKind.u64.wrap ((p.toNat : Int) * 2 ^ s) / 2 ^ (8 * k) % 256) = ((b ^^^ e).toNat : Int) := by
  have h1 : (p.toNat : Int) * 2 ^ s = ((p.toNat * 2 ^ s : Nat) : Int) := by rw [Int.natCast_mul, Int.natCast_pow]; rfl
  have h2 : p.toNat * 2 ^ s < 18446744073709551616 := by
    have h3 : p.toNat < 4294967296 := p.isLt
    have h4 : 2 ^ s ≤ 2 ^ 7 := Nat.pow_le_pow_right (by decide) (by omega)
    have := Nat.mul_le_mul (Nat.le_of_lt h3) h4
    omega
  have h5 : IntKind.u64.wrap ((p.toNat * 2 ^ s : Nat) : Int) = ((p.toNat * 2 ^ s : Nat) : Int) := by
    rw [IntKind.wrap_u64]; omega
  have h6 : ((p.toNat * 2 ^ s : Nat) : Int) / 2 ^ (8 * k) % 256 = (e.toNat : Int) := by
    rw [he, show ((2 : Int) ^ (8 * k)) = ((2 ^ (8 * k) : Nat) : Int) by rw [Int.natCast_pow]; rfl]
    rfl
  rw [h1, h5, h6, u8_xor_nat _ _ (UInt8.toNat_lt b) (UInt8.toNat_lt e), UInt8.toNat_xor]
theorem Turn_neg (v : Value) (bit : Int) (p : BitVec 32) (hb : bit < 0) (w : World) (hv : ∃ A n c, v = .slice A n c) :
    Calls Tryd.prog 20 #[v, .int .i64 bit, W32 p] w fun e w' => e = .returned (.tuple #[.slice none 0 0, .int .i64 1]) ∧ w' = w := by
  obtain ⟨A, n, c, rfl⟩ := hv
  go_enter Tryd.func20, Tryd.ntmps20
  go_wp2
  go_ret2
  exact ⟨rfl, rfl⟩

set_option maxHeartbeats 1000000 in
theorem Turn_any (v : Value) (l : List UInt8) (bit : Nat) (p : BitVec 32) (hbit : bit ≤ 9223372036854775807) (w : World) (h : SlB w v l) (hl : l.length ≤ 140737488355328) :
    Calls Tryd.prog 20 #[v, .int .i64 bit, W32 p] w fun e w' => ∃ u, e = .returned (.tuple #[u, .int .i64 0]) ∧ OwnB w' w.heap.size u (Crc.turn bit p l) ∧ Below w.heap.size w w' := by
  have H := hid h
  clear h
  go_enter Tryd.func20, Tryd.ntmps20
  go_wp2_with fail
  refine (clone_any v l w H.out hl).mono ?_
  rintro e w1 ⟨u, rfl, ho, hb⟩
  have hul : ∃ A c, u = .slice A l.length c := by obtain ⟨A, c, rfl, _⟩ := ho.sl; exact ⟨A, c, rfl⟩
  obtain ⟨A, c, rfl⟩ := hul
  have HO := hid ho
  have HB := hid hb
  clear ho hb H
  obtain ⟨f, hf⟩ : ∃ f, f = bit / 8 := ⟨_, rfl⟩
  obtain ⟨s, hs⟩ : ∃ s, s = bit % 8 := ⟨_, rfl⟩
  have q1 : (bit : Int) / 8 = (f : Int) := by omega
  have q2 : (bit : Int) % 8 = (s : Int) := by omega
  have hs8 : s < 8 := by omega
  have hf1 : f ≤ 9223372036854775807 := by omega
  have HF := hid hf
  have HS := hid hs
  clear hf hs
  go_wp2
  go_loopw [20] (fun i wr => ∃ k : Nat, k ≤ 5 ∧ i = .int .i64 k ∧ OwnB wr w.heap.size (.slice A l.length c) (turnTo bit p l (f + k)) ∧ Below w.heap.size w wr) (fun i _ => 5 - (intOf i).toNat)
  case atStart => exact ⟨0, Nat.zero_le _, rfl, by rw [HF.out, Nat.add_zero, turnTo_start]; exact HO.out, HB.out⟩
  case round =>
    obtain ⟨k, hk, rfl, ho, hb⟩ := hrel
    have HO1 := hid ho
    have HB1 := hid hb
    clear ho hb
    by_cases hlt : k < 5
    · by_cases hin : f + k < l.length
      · obtain ⟨g, c1, e1, hg, _, _⟩ := HO1.out.some_ (by rw [turnTo_length]; omega)
        rw [turnTo_length] at e1
        injection e1 with e1 e2 e3
        subst e1; subst e3
        clear e2
        obtain ⟨hc, hfr⟩ := HO1.out.at_ (f + k) (by rw [turnTo_length]; omega)
        rw [turnTo_get _ _ _ _ _ hin, if_neg (by omega)] at hc
        have HT := hid (turnTo_step bit p l (f + k) hin)
        have HE : Hid ((Crc.ebyte bit p (f + k)).toNat = p.toNat * 2 ^ s / 2 ^ (8 * k) % 256) := by
          show _ = _
          rw [← ebyte_nat f s k p hs8, show 8 * f + s = bit by have := HF.out; have := HS.out; omega]
        generalize l.getD (f + k) 0 = b0 at *
        generalize Crc.ebyte bit p (f + k) = eb at *
        have HX := hid (turn_byte p b0 eb s k hs8 HE.out)
        have i0 : (0 : Int) ≤ (f : Int) + (k : Int) := by omega
        have i1 : (f : Int) + (k : Int) < (l.length : Int) := by omega
        have i2 : (f : Int) < (l.length : Int) - (k : Int) := by omega
        go_wp2
        go_region
        rw [HX.out]
        go_wp2
        go_roundw
        case rel => exact ⟨k + 1, by omega, by go_num, by rw [← Nat.add_assoc, ← HT.out]; exact (HO1.out.set_ (f + k) (b0 ^^^ eb)).drew, (below_set HB1.out hg _ _).drew⟩
        case measure => simp [intOf]; omega
      · go_wp2
        go_roundw
        case rel => exact ⟨k + 1, by omega, by go_num, by rw [turnTo_all _ _ _ _ (.inr (by omega))]; rw [turnTo_all _ _ _ _ (.inr (by omega))] at HO1; exact HO1.out, HB1.out⟩
        case measure => simp [intOf]; omega
    · go_wp2
      go_ret2
      rw [turnTo_all _ _ _ _ (.inl (by have := HF.out; omega))] at HO1
      exact ⟨_, rfl, HO1.out, HB1.out⟩

theorem lit_bb {w : World} (vs : List Value) (ll : List (List UInt8)) (hlen : vs.length = ll.length) (h : ∀ i, i < ll.length → SlB w (vs.getD i undef) (ll.getD i [])) :
    SlBB (w.alloc (.cells vs.toArray 33)) (.slice (some ⟨w.heap.size, 0, none⟩) ll.length ll.length) ll := by
  refine ⟨fun i => vs.getD i undef, ⟨_, _, rfl, Nat.le_refl _, (fun h => by cases h), fun _ => ⟨w.heap.size, 0, rfl, fun i hi => ?_⟩⟩, fun i hi => (h i hi).below ((Below.refl _ _).alloc (Nat.le_refl _) _)⟩
  rw [blk_cell (heap_alloc_new _ _)]
  have : i < vs.length := by omega
  simp [this]
theorem bit_test8 (b : UInt8) (j : Nat) (hj : j < 8) : (bits .and .u8 ((b.toNat : Int) / 2 ^ j) 1 == 1) = b.toBitVec.getLsbD j := by
  have h : (b.toNat : Int) / 2 ^ j = ((b.toNat / 2 ^ j : Nat) : Int) := by push_cast; rfl
  have hb := b.toNat_lt
  have hl : b.toNat / 2 ^ j ≤ b.toNat := Nat.div_le_self _ _
  rw [h, show (1 : Int) = ((1 : Nat) : Int) from rfl, u8_and_nat _ _ (by omega) (by omega), Nat.and_one_is_mod]
  simp only [BitVec.getLsbD, Nat.testBit_eq_decide_div_mod_eq]
  have : ((((b.toNat / 2 ^ j % 2 : Nat) : Int)) == ((1 : Nat) : Int)) = decide (b.toNat / 2 ^ j % 2 = 1) := by
    rw [Bool.eq_iff_iff, beq_iff_eq, decide_eq_true_iff]; omega
  exact this
theorem xor8 (a b : UInt8) : bits .xor .u8 (a.toNat : Int) (b.toNat : Int) = ((a ^^^ b).toNat : Int) := by
  rw [u8_xor_nat _ _ (UInt8.toNat_lt a) (UInt8.toNat_lt b), UInt8.toNat_xor]
theorem En.grown {w0 w w' : World} {base : Nat} {v : Value} {l : List UInt8} (h : En w0 w) (ho : OwnB w base v l) (hB : w0.heap.size ≤ base) (hg : w.grownBy w' v.ownBlock) : En w0 w' :=
  ⟨OwnB.grown h.b ho hB h.b.size hg, h.t0⟩
theorem turn_turn (a : Nat) (p : BitVec 32) (l : List UInt8) : Crc.turn a p (Crc.turn a p l) = l := by
  apply ext_getD (by rw [Crc.turn_length, Crc.turn_length])
  intro i hi
  rw [Crc.turn_get _ _ _ _ (by rw [Crc.turn_length]; exact hi), Crc.turn_get _ _ _ _ hi, UInt8.xor_assoc, UInt8.xor_self, UInt8.xor_zero]

/-- a world that has grown out of an elder one, with the table and some slices of bytes as they read -/
structure Rs (w0 W : World) (rs : List (Value × List UInt8)) : Prop where
  e : En w0 W
  s : ∀ p ∈ rs, SlB W p.1 p.2 ∧ p.2.length ≤ 281474976710656
theorem Rs.next {w0 W W' : World} {rs : List (Value × List UInt8)} (h : Rs w0 W rs) (hb : Below W.heap.size W W') : Rs w0 W' rs := ⟨h.e.next hb, fun p hp => ⟨(h.s p hp).1.below hb, (h.s p hp).2⟩⟩
theorem Rs.alloc {w0 W : World} {rs : List (Value × List UInt8)} (h : Rs w0 W rs) (o : Obj) : Rs w0 (W.alloc o) rs := h.next ((Below.refl _ _).alloc (Nat.le_refl _) o)
theorem Rs.cons {w0 W : World} {rs : List (Value × List UInt8)} (h : Rs w0 W rs) {v : Value} {l : List UInt8} (hv : SlB W v l) (hl : l.length ≤ 281474976710656) : Rs w0 W ((v, l) :: rs) := ⟨h.e, fun p hp => by
  rcases List.mem_cons.1 hp with rfl | hp
  · exact ⟨hv, hl⟩
  · exact h.s p hp⟩
theorem Rs.sub {w0 W : World} {rs ss : List (Value × List UInt8)} (h : Rs w0 W rs) (hs : ∀ p ∈ ss, p ∈ rs) : Rs w0 W ss := ⟨h.e, fun p hp => h.s p (hs p hp)⟩
theorem lits {w0 W : World} {rs : List (Value × List UInt8)} (h : Rs w0 W rs) (ps : List (Value × List UInt8)) (hp : ∀ p ∈ ps, p ∈ rs ∨ p = (.slice none 0 0, [])) :
    SlBB (W.alloc (.cells (ps.map (·.1)).toArray 33)) (.slice (some ⟨W.heap.size, 0, none⟩) ps.length ps.length) (ps.map (·.2)) := by
  have := lit_bb (w := W) (ps.map (·.1)) (ps.map (·.2)) (by simp) (fun i hi => by
    have hi' : i < ps.length := by simpa using hi
    have hm : ps[i] ∈ ps := List.getElem_mem hi'
    simp only [List.getD_eq_getElem?_getD, List.getElem?_map, List.getElem?_eq_getElem hi', Option.map_some, Option.getD_some]
    rcases hp _ hm with h1 | h1
    · exact (h.s _ h1).1
    · rw [h1]; exact Sl.nil _ _)
  simpa using this
theorem Of_lits {w0 W : World} {rs : List (Value × List UInt8)} (h : Rs w0 W rs) (ps : List (Value × List UInt8)) (x : BitVec 32) (hx : Crc.sumOf (ps.map (·.2)).flatten = x) (hn : ps.length ≤ 1000) (hp : ∀ p ∈ ps, p ∈ rs ∨ p = (.slice none 0 0, [])) {g n : Nat} (hg : g = W.heap.size) (hn' : n = ps.length) :
    Calls Tryd.prog 19 #[.slice (some ⟨g, 0, none⟩) n n] (W.alloc (.cells (ps.map (·.1)).toArray 33)) fun e w' => e = .returned (W32 x) ∧ Rs w0 w' rs := by
  subst hx hg hn'
  refine (Of_any _ _ _ (h.e.alloc _).t (lits h ps hp) (by simp; omega) (fun i => ?_)).mono ?_
  · rcases Nat.lt_or_ge i ps.length with hi | hi
    · have hm : ps[i] ∈ ps := List.getElem_mem hi
      simp only [List.getD_eq_getElem?_getD, List.getElem?_map, List.getElem?_eq_getElem hi, Option.map_some, Option.getD_some]
      rcases hp _ hm with h1 | h1
      · exact (h.s _ h1).2
      · rw [h1]; simp
    · simp [hi]
  · rintro e w' ⟨rfl, rfl⟩
    exact ⟨rfl, h.alloc _⟩
end Go.Proofs.YthadfebboagabaaDoor
