/- The walks of package pack: a number's form; the writer. -/
import Derived.Test.YtamhlfhblgmhoaaOwn
import Derived.Test.YtamhlfhblgmhoaaPkM
namespace Go.Proofs.Ytamhlfhblgmhoaa
open Go.RowKit
theorem pk_low (m : Nat) (h : m < 128) : (m : Int) = ((UInt8.ofNat m).toNat : Int) := by
  rw [UInt8.toNat_ofNat']; omega
theorem or128 : ∀ k : Fin 256, k.val ||| 128 = k.val % 128 + 128 := by decide +kernel
theorem pk_high (m : Nat) : bits .or .u8 ((m : Int) % 256) 128 = ((UInt8.ofNat (m % 128 + 128)).toNat : Int) := by
  rw [show ((m : Int) % 256) = ((m % 256 : Nat) : Int) by omega, show (128 : Int) = ((128 : Nat) : Int) from rfl, u8_or_nat _ _ (by omega) (by omega)]
  have := or128 ⟨m % 256, by omega⟩
  simp only at this
  rw [this, UInt8.toNat_ofNat']; omega
set_option maxRecDepth 100000 in
set_option maxHeartbeats 1000000 in
theorem form_any (n : Nat) (hn : n ≤ 9223372036854775807) (w : World) :
    Calls Try.prog 32 #[.int .i64 n] w fun e w' => ∃ A c, e = .returned (.slice A (Pk.form n).length c) ∧ OwnB w' w.heap.size (.slice A (Pk.form n).length c) (Pk.form n) ∧ Below w.heap.size w w' := by
  have H9 := hid (Pk.form_nine n hn)
  go_enter Try.func32, Try.ntmps32
  go_wp2
  go_loopw [0, 3] (fun x u wr => ∃ (m : Nat) (l : List UInt8), m ≤ n ∧ x = .int .i64 m ∧ OwnB wr w.heap.size u l ∧ l ++ Pk.form m = Pk.form n ∧ Below w.heap.size w wr) (fun x _ _ => (intOf x).toNat)
  case atStart => exact ⟨n, [], Nat.le_refl _, rfl, OwnB.nil _ _, rfl, Below.refl _ _⟩
  case round =>
    obtain ⟨m, l, hm, rfl, ho, he, hb⟩ := hrel
    have HO := hid ho
    have HB := hid hb
    have HE := hid he
    have HL : Hid (l.length + (Pk.form m).length ≤ 9) := hid (by rw [← List.length_append, he]; exact H9.out)
    have HP := hid (Pk.form_pos m)
    clear ho hb he
    by_cases hlt : m < 128
    · have HF := hid (Pk.form_small m hlt)
      have hlow := hid (pk_low m hlt)
      obtain ⟨b, hbb⟩ : ∃ b, UInt8.ofNat m = b := ⟨_, rfl⟩
      rw [hbb] at HF hlow
      clear hbb
      obtain ⟨A1, c1, rfl⟩ := HO.out.form
      go_wp2_with (at_builtin; refine wpList_appB rfl (.tmp 14) (.tmp 17) rfl w.heap.size _ _ l [b] rfl rfl (HO.out.alloc _) (by rw [hlow.out]; exact lit_sl wr [b] (by simp)) (by have := HL.out; have := HP.out; simp only [List.length_cons, List.length_nil]; omega) (by exact Nat.le_trans HB.out.size (by simp)) ?_; intro v2 w2 ho2 hg2; have hb2 := hid (OwnB.grown (HB.out.alloc HB.out.size _) (HO.out.alloc _) (Nat.le_refl _) (Nat.le_trans HB.out.size (by simp)) hg2); have ho3 := hid ho2)
      go_ret
      have e1 : l ++ [b] = Pk.form n := by rw [← HE.out, HF.out]
      have ho4 := ho3.out
      rw [e1] at ho4
      obtain ⟨A2, c2, e2⟩ := ho4.form
      rw [e2] at ho4 ⊢
      exact ⟨_, _, rfl, ho4, hb2.out⟩
    · have HF := hid (Pk.form_big m (by omega))
      have hhigh := pk_high m
      obtain ⟨b, hbb⟩ : ∃ b, UInt8.ofNat (m % 128 + 128) = b := ⟨_, rfl⟩
      rw [hbb] at HF hhigh
      clear hbb
      have q1 : (m : Int) / 128 = ((m / 128 : Nat) : Int) := by omega
      obtain ⟨q, hq⟩ : ∃ q, q = m / 128 := ⟨_, rfl⟩
      have HQ := hid hq
      rw [← hq] at q1
      clear hq
      obtain ⟨A1, c1, rfl⟩ := HO.out.form
      go_wp2_with (at_builtin; refine wpList_appB rfl (.tmp 6) (.tmp 10) rfl w.heap.size _ _ l [b] rfl rfl (HO.out.alloc _) (by exact lit_sl wr [b] (by simp)) (by have := HL.out; have := HP.out; simp only [List.length_cons, List.length_nil]; omega) (by exact Nat.le_trans HB.out.size (by simp)) ?_; intro v2 w2 ho2 hg2; have hb2 := hid (OwnB.grown (HB.out.alloc HB.out.size _) (HO.out.alloc _) (Nat.le_refl _) (Nat.le_trans HB.out.size (by simp)) hg2); have ho3 := hid ho2)
      go_roundw
      case rel => exact ⟨q, l ++ [b], by have := HQ.out; omega, by go_num, ho3.out, by rw [← HE.out, HF.out, HQ.out]; simp, hb2.out⟩
      case measure => have := HQ.out; simp [intOf]; omega
theorem Size_neg (n : Int) (hn : n < 0) (w : World) :
    Calls Try.prog 8 #[.int .i64 n] w fun e w' => e = .returned (.tuple #[.int .i64 0, .int .i64 33]) ∧ Below w.heap.size w w' := by
  go_enter Try.func8, Try.ntmps8
  go_wp2
  go_ret2
  exact ⟨rfl, Below.refl _ _⟩
theorem Size_any (n : Nat) (hn : n ≤ 9223372036854775807) (w : World) :
    Calls Try.prog 8 #[.int .i64 n] w fun e w' => e = .returned (.tuple #[.int .i64 (Pk.form n).length, .int .i64 0]) ∧ Below w.heap.size w w' := by
  have H9 := Pk.form_nine n hn
  go_enter Try.func8, Try.ntmps8
  go_wp2_with fail
  refine (form_any n hn w).mono ?_
  rintro e w' ⟨A, c, rfl, ho, hb⟩
  have HB := hid hb
  clear ho hb
  go_wp2
  go_ret2
  exact ⟨rfl, HB.out⟩
/-- a writer: its first error and all that was put -/
structure WAt (w : World) (g : Nat) (e : Int) (v : Value) (l : List UInt8) : Prop where
  at_ : w.heap[g]? = some (.cells #[.int .i64 e, v] 67 (0, 0))
  own : OwnB w 0 v l
  ne : v.ownBlock ≠ some g
/-- the blocks that a writer's calls may change -/
abbrev WX (g : Nat) (v : Value) : Nat → Prop := fun k => k = g ∨ v.ownBlock = some k
theorem WAt.fr {X : Nat → Prop} {w w' : World} {g : Nat} {e : Int} {v : Value} {l : List UInt8} (h : WAt w g e v l) (hf : Fr X w w') (hg : ¬ X g) (hv : ∀ k, v.ownBlock = some k → ¬ X k) : WAt w' g e v l :=
  ⟨blk_fr hf h.at_ hg, h.own.fr hf hv, h.ne⟩
theorem WAt.below {w w' : World} {g : Nat} {e : Int} {v : Value} {l : List UInt8} (h : WAt w g e v l) (hb : Below w.heap.size w w') : WAt w' g e v l :=
  h.fr (Fr.of_below hb) (fun h => h) (fun _ _ h => h)
theorem NewWriter_any (w : World) :
    Calls Try.prog 9 #[] w fun e w' => e = .returned (.pointer (some ⟨w.heap.size, 0, none⟩)) ∧ WAt w' w.heap.size 0 (.slice none 0 0) [] ∧ Below w.heap.size w w' ∧ w'.heap.size = w.heap.size + 1 := by
  go_enter Try.func9, Try.ntmps9
  go_wp2
  go_ret
  exact ⟨rfl, ⟨heap_alloc_new _ _, OwnB.nil _ _, by simp [Value.ownBlock]⟩, (Below.refl _ _).alloc (Nat.le_refl _) _, by simp⟩
end Go.Proofs.Ytamhlfhblgmhoaa
