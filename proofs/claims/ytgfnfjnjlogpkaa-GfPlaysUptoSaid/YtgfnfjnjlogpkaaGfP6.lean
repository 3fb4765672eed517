/- The law's lists: whole, turned; a window of a row with a mark behind it. -/
import Derived.Test.YtgfnfjnjlogpkaaGfP4
import Derived.Test.YtgfnfjnjlogpkaaByX
namespace Go.Proofs.Ytgfnfjnjlogpkaa
open Go.RowKit
set_option maxHeartbeats 1000000 in
theorem whole_any (a b : Value) (l : List UInt8) (w : World) (ha : SlB w a (l ++ [77, 78])) (hb : SlB w b l) (hl : l.length + 2 ≤ 140737488355328) :
    Calls Try.prog 46 #[a, b] w fun e w' => e = .returned (.bool true) ∧ ∃ n, w' = w.drewN n := by
  obtain ⟨A, c, rfl⟩ := ha.form
  obtain ⟨A', c', rfl⟩ := hb.form
  obtain ⟨b1, o1, rfl, hc⟩ := ha.cells (by simp)
  have e77 : w.cell? ⟨b1, o1 + l.length, none⟩ = some (B 77) := by rw [hc l.length (by simp)]; simp
  have e78 : w.cell? ⟨b1, o1 + (l.length + 1), none⟩ = some (B 78) := by rw [hc (l.length + 1) (by simp)]; simp
  have HA : Hid (∀ i, i < l.length → w.cell? ⟨b1, o1 + i, none⟩ = some (B (l.getD i 0))) := hid fun i hi => by
    have := hc i (by simp; omega)
    rw [this]; simp [List.getElem?_append_left hi]
  have HB := hid hb
  clear ha hb hc
  rw [show (l ++ ([77, 78] : List UInt8)).length = l.length + 2 by simp]
  go_enter Try.func46, Try.ntmps46
  go_wp2
  go_loopw [6] (fun i wr => ∃ k n : Nat, k ≤ l.length ∧ i = .int .i64 k ∧ wr = w.drewN n) (fun i _ => l.length - (intOf i).toNat)
  case atStart => exact ⟨0, 0, Nat.zero_le _, rfl, rfl⟩
  case round =>
    obtain ⟨k, n, hk, rfl, hwr⟩ := hrel
    have HW := hid hwr
    clear hwr e77 e78
    by_cases hlt : k < l.length
    · obtain ⟨b2, o2, rfl, h2⟩ := HB.out.cells (by omega)
      have h1 : wr.cell? ⟨b1, o1 + k, none⟩ = some (B (l.getD k 0)) := by rw [HW.out]; exact HA.out k hlt
      replace h2 : wr.cell? ⟨b2, o2 + k, none⟩ = some (B (l.getD k 0)) := by rw [HW.out]; exact h2 k hlt
      generalize l.getD k 0 = x at *
      go_wp2
      go_quiet (fail)
      go_wp2
      go_roundw
      case rel => exact ⟨k + 1, n + nq, by omega, by go_num, by rw [HW.out]; simp⟩
      case measure => simp [intOf]; omega
    · go_wp2
      go_ret
      exact ⟨rfl, n, HW.out⟩
/-- the first k written over -/
def tu (t : UInt8) (l : List UInt8) (k : Nat) : List UInt8 := (l.take k).map (fun x => x + 1 + t) ++ l.drop k
theorem tu_zero (t : UInt8) (l : List UInt8) : tu t l 0 = l := by simp [tu]
theorem tu_all (t : UInt8) (l : List UInt8) : tu t l l.length = l.map (fun x => x + 1 + t) := by simp [tu]
theorem tu_length (t : UInt8) (l : List UInt8) (k : Nat) (hk : k ≤ l.length) : (tu t l k).length = l.length := by simp [tu]; omega
theorem tu_get (t : UInt8) (l m : List UInt8) (k : Nat) (hk : k < l.length) : (tu t l k ++ m).getD k 0 = l.getD k 0 := by
  have h1 : ((l.take k).map (fun x => x + 1 + t)).length = k := by simp; omega
  simp only [tu, List.append_assoc, List.getD_eq_getElem?_getD]
  rw [List.getElem?_append_right (by omega), h1, Nat.sub_self, List.getElem?_append_left (by simp; omega)]
  simp
theorem tu_succ (t : UInt8) (l m : List UInt8) (k : Nat) (hk : k < l.length) : (tu t l k ++ m).set k (l.getD k 0 + 1 + t) = tu t l (k + 1) ++ m := by
  have h1 : ((l.take k).map (fun x => x + 1 + t)).length = k := by simp; omega
  have e : l.getD k 0 = l[k] := by simp [hk]
  have e2 : (l.take (k + 1)).map (fun x => x + 1 + t) = (l.take k).map (fun x => x + 1 + t) ++ [l[k] + 1 + t] := by rw [List.take_succ_eq_append_getElem hk, List.map_append]; rfl
  simp only [tu]
  rw [e, e2, List.append_assoc, List.set_append_right _ _ (by omega), h1, Nat.sub_self, List.drop_eq_getElem_cons hk]
  simp only [List.cons_append, List.set_cons_zero, List.append_assoc, List.nil_append]
theorem u8_add (x t : UInt8) : ((x.toNat : Int) + 1 + (t.toNat : Int)) % 256 = ((x + 1 + t).toNat : Int) := by
  rw [UInt8.toNat_add, UInt8.toNat_add]; simp
set_option maxRecDepth 100000 in
set_option maxHeartbeats 1000000 in
theorem turned_any (g m cap base : Nat) (l t : List UInt8) (by_ : UInt8) (w : World) (h : OwnB w base (.slice (some ⟨g, 0, none⟩) m cap) (l ++ t)) (hl : l.length ≤ 140737488355328) (hcap : l.length ≤ cap) :
    Calls Try.prog 47 #[.slice (some ⟨g, 0, none⟩) l.length cap, B by_] w fun e w' => ∃ v, e = .returned v ∧ OwnB w' w.heap.size v (l.map fun x => x + 1 + by_) ∧ OwnB w' base (.slice (some ⟨g, 0, none⟩) m cap) ((l.map fun x => x + 1 + by_) ++ t) ∧ w.grownBy w' (some g) := by
  have H := hid h
  clear h
  go_enter Try.func47, Try.ntmps47
  go_wp2
  go_loopw [5] (fun i wr => ∃ k : Nat, k ≤ l.length ∧ i = .int .i64 k ∧ OwnB wr base (.slice (some ⟨g, 0, none⟩) m cap) (tu by_ l k ++ t) ∧ w.grownBy wr (some g)) (fun i _ => l.length - (intOf i).toNat)
  case atStart => exact ⟨0, Nat.zero_le _, rfl, by rw [tu_zero]; exact H.out, ⟨rfl, rfl, rfl, Nat.le_refl _, fun _ _ _ => rfl⟩⟩
  case round =>
    obtain ⟨k, hk, rfl, ho, hg⟩ := hrel
    have HO := hid ho
    have HG := hid hg
    by_cases hlt : k < l.length
    · obtain ⟨hc, hf⟩ := ho.at_ k (by simp [tu]; omega)
      rw [tu_get _ _ _ _ hlt] at hc
      have HS := hid (tu_succ by_ l t k hlt)
      clear ho hg
      generalize l.getD k 0 = x at *
      have HX := hid (u8_add x by_)
      go_wp2
      go_roundw
      case rel => exact ⟨k + 1, by omega, by go_num, by rw [← HS.out, HX.out]; exact HO.out.set_ k _, HG.out.trans (grown_set _ _ _ _)⟩
      case measure => simp [intOf]; omega
    · obtain rfl : k = l.length := by omega
      rw [tu_all] at ho
      have ho2 := OwnB.pre_ ho l.length (by simp)
      rw [List.take_left' (by simp)] at ho2
      have HO1 := hid ho
      have HO2 := hid ho2.sl
      clear ho hg ho2 HO hk hlt
      go_wp2_with (at_builtin; refine wpList_appB rfl (.tmp 22) (.tmp 23) rfl wr.heap.size _ _ [] (l.map fun x => x + 1 + by_) rfl rfl (by exact lit0 wr) (by exact HO2.out.below ((Below.refl _ _).alloc (Nat.le_refl _) _)) (by simp; omega) (by simp) ?_; intro v1 w1 ho1 hg1; rw [List.nil_append] at ho1; have HB := hid (OwnB.grown ((Below.refl wr.heap.size wr).alloc (Nat.le_refl _) _) (lit0 wr) (Nat.le_refl _) (by simp) hg1); have HO3 := hid ho1; clear ho1 hg1)
      go_ret
      refine ⟨_, rfl, own_base HO3.out HG.out.size, HO1.out.below HB.out, HG.out.trans ⟨HB.out.os, HB.out.tape, HB.out.output, HB.out.size, fun k hk _ => HB.out.block k hk⟩⟩
end Go.Proofs.Ytgfnfjnjlogpkaa
