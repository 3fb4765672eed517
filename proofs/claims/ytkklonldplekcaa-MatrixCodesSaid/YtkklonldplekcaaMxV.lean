/- The walks of package matrix: Pick. -/
import Derived.Test.YtkklonldplekcaaMxU
namespace Go.Proofs.Ytkklonldplekcaa
open Go.RowKit
/-- a list of ints, as it is read -/
def SlI (w : World) (v : Value) (l : List Int) : Prop := Sl w v l.length fun i => .int .i64 (l.getD i 0)
theorem SlI.below {w w1 : World} {v : Value} {l : List Int} (h : SlI w v l) (hb : Below w.heap.size w w1) : SlI w1 v l := Sl.below h hb
theorem SlI.form {w : World} {v : Value} {l : List Int} (h : SlI w v l) : ∃ A c, v = .slice A l.length c := by obtain ⟨A, c, rfl, _⟩ := h; exact ⟨A, c, rfl⟩
theorem SlI.cells {w : World} {A : Option Addr} {n c : Nat} {l : List Int} (h : SlI w (.slice A n c) l) (hl : 0 < l.length) : ∃ b off, A = some ⟨b, off, none⟩ ∧ ∀ i, i < l.length → w.cell? ⟨b, off + i, none⟩ = some (.int .i64 (l.getD i 0)) := by
  obtain ⟨A', c', e, _, _, hA⟩ := h
  injection e with e1 e2 e3
  subst e1
  exact hA hl
structure PickBox (w : World) (b m R o r c : Nat) : Prop where
  box : w.cell? ⟨b, 0, none⟩ = some (.pointer (some ⟨m, 0, none⟩))
  rows : w.cell? ⟨m, 1, none⟩ = some (.slice (some ⟨R, o, none⟩) r c)
theorem Pick1_no (w : World) (b m R o r c : Nat) (h : PickBox w b m R o r c) (p : Int) (h0 : 0 ≤ p) (h1 : p < (r : Int)) : Calls Try.prog 77 #[.int .i64 p, .pointer (some ⟨b, 0, none⟩)] w fun e w' => e = .returned (.bool false) ∧ w' = w := by
  obtain ⟨c0, c1⟩ := h
  have h2 : ¬ p < 0 := by omega
  have h3 : ¬ (r : Int) ≤ p := by omega
  go_enter Try.func77, Try.ntmps77
  go_wp2
  go_ret
  exact ⟨by simp, rfl⟩
set_option maxHeartbeats 1000000 in
theorem IndexFuncI_no (w : World) (b m R o r c : Nat) (h : PickBox w b m R o r c) (A : Option Addr) (cu : Nat) (ps : List Int) (hu : SlI w (.slice A ps.length cu) ps) (hp : ∀ i, i < ps.length → 0 ≤ ps.getD i 0 ∧ ps.getD i 0 < (r : Int)) (hl : ps.length ≤ 1099511627776) : Calls Try.prog 113 #[.slice A ps.length cu, .func (.func 77) #[] #[.pointer (some ⟨b, 0, none⟩)]] w fun e w' => e = .returned (.int .i64 (-1)) ∧ w' = w := by
  have H := hid h
  have HU := hid hu
  have HP := hid hp
  have hcf : ∀ (args : Array Value) (w : World), (callFunc 77 args).run Try.prog w = .ok (.enter 77 args) w := fun _ _ => by kernel_rfl
  clear h hu hp
  go_enter Try.func113, Try.ntmps113
  go_wp2
  go_loop [5, 8] (fun _ x => ∃ k : Nat, k ≤ ps.length ∧ x = .int .i64 k) (fun _ x => ps.length - (intOf x).toNat)
  case atStart => exact ⟨0, Nat.zero_le _, rfl⟩
  case round =>
    obtain ⟨k, hk, rfl⟩ := hrel
    by_cases hlt : k < ps.length
    · obtain ⟨bu, ou, rfl, hb⟩ := HU.out.cells (by omega)
      have c0 := hb k hlt
      obtain ⟨p, hp⟩ : ∃ p, ps.getD k 0 = p := ⟨_, rfl⟩
      have hp2 := HP.out k hlt
      rw [hp] at c0 hp2
      have HP2 := hid hp2
      have i0 : (0 : Int) ≤ (k : Int) := by omega
      have i1 : (k : Int) < (ps.length : Int) := by omega
      clear hb hp hp2
      go_wp2_with fail
      refine (Pick1_no w b m R o r c H.out p HP2.out.1 HP2.out.2).mono ?_
      rintro e w ⟨rfl, rfl⟩
      go_wp2
      go_round
      case rel => exact ⟨k + 1, by omega, by go_num⟩
      case measure => simp [intOf]; omega
    · go_wp2
      go_ret
      exact ⟨rfl, rfl⟩
theorem ContainsFuncI_no (w : World) (b m R o r c : Nat) (h : PickBox w b m R o r c) (A : Option Addr) (cu : Nat) (ps : List Int) (hu : SlI w (.slice A ps.length cu) ps) (hp : ∀ i, i < ps.length → 0 ≤ ps.getD i 0 ∧ ps.getD i 0 < (r : Int)) (hl : ps.length ≤ 1099511627776) : Calls Try.prog 76 #[.slice A ps.length cu, .func (.func 77) #[] #[.pointer (some ⟨b, 0, none⟩)]] w fun e w' => e = .returned (.bool false) ∧ w' = w := by
  have C := hid (IndexFuncI_no w b m R o r c h A cu ps hu hp hl)
  clear h hu hp
  go_enter Try.func76, Try.ntmps76
  go_wp2_with fail
  refine C.out.mono ?_
  rintro e w ⟨rfl, rfl⟩
  go_wp2
  go_ret
  exact ⟨rfl, rfl⟩
theorem picked_row {B : Nat} {w0 w w' : World} {ts : List Thing} {fp : Option Addr} {m R r N k : Nat} {vs : List Value} {T : List (List UInt8)} {v : Value} {K L : List UInt8} {f : Nat → List UInt8} (h : MB B w0 w ts fp m R r vs T N) (hk : k < r) (hv : vs.getD k (.slice none 0 0) = v) (hK : K.length = N) (hL : L.length = N) (hf1 : ∀ i, i < k → T.getD i [] = f i) (hM : f k = K) (ho : OwnB w' 0 v (K ++ L.drop K.length)) (hf : Fr (fun k => v.ownBlock = some k) w w') : MB B w0 w' ts fp m R r vs (T.set k K) N ∧ ∀ i, i < k + 1 → (T.set k K).getD i [] = f i := by
  rw [List.drop_of_length_le (by omega), List.append_nil] at ho
  have h1 := h.putRow hk hv hK ho hf
  refine ⟨h1, fun i hi => ?_⟩
  rw [getD_set _ _ _ _ (by have := h.r; omega)]
  by_cases e : i = k
  · rw [if_pos e, e, hM]
  · rw [if_neg e]; exact hf1 i (by omega)
/-- what Pick answers where all is well -/
def PickE (q : UInt8) (M : List (List UInt8)) (n : Nat) (ps : List Int) (w : World) (e : Ending) (w' : World) : Prop := ∃ m' T, e = .returned (.tuple #[.pointer (some ⟨m', 0, none⟩), .int .i64 0]) ∧ MatAt w' m' q T n ∧ T.length = ps.length ∧ (∀ i, i < ps.length → T.getD i [] = M.getD (ps.getD i 0).toNat []) ∧ Below w.heap.size w w'
set_option maxRecDepth 100000 in
set_option maxHeartbeats 8000000 in
theorem Pick_ok (w : World) (m : Nat) (q : UInt8) (M : List (List UInt8)) (n : Nat) (h : MatAt w m q M n) (u : Value) (ps : List Int) (hu : SlI w u ps) (hl0 : 0 < ps.length) (hl1 : ps.length ≤ 256) (hp : ∀ i, i < ps.length → 0 ≤ ps.getD i 0 ∧ ps.getD i 0 < (M.length : Int)) :
    Calls Try.prog 34 #[.pointer (some ⟨m, 0, none⟩), u] w (PickE q M n ps w) := by
  have hmf : ∀ (fn : Fn) (first cap : Array Value) (w : World), (Instr.makeFunc fn first cap).run Try.prog w = .ok (.func fn first cap) w := fun _ _ _ _ => rfl
  have hle := h.le
  have hpos := h.pos
  obtain ⟨fg, R, o, c, hfd, c0, c1, hcl, hrow⟩ := h.cells
  obtain ⟨A, kk, z0, hs, hln⟩ := hrow 0 hpos.1
  rw [Nat.add_zero] at z0
  obtain ⟨Au, cu, rfl⟩ := hu.form
  have HU := hid hu
  have HP := hid hp
  have HFD := hid hfd
  have HROW := hid hrow
  have HC := hid (And.intro c0 (And.intro c1 z0))
  obtain ⟨hm1, hm2⟩ := hle
  obtain ⟨hm3, hm4⟩ := hpos
  have z1 : ((ps.length : Int) == 0) = false := by rw [beq_eq_false_iff_ne]; omega
  have z2 : (ps.length == 0) = false := by rw [beq_eq_false_iff_ne]; omega
  have z3 : (ps.length : Int) ≤ 256 := by omega
  clear h hfd hrow hs hln hu hp c0 c1 z0
  go_enter Try.func34, Try.ntmps34
  go_upto_region 1 with (fail)
  obtain ⟨rb, hrb⟩ : ∃ rb, w.heap.size = rb := ⟨_, rfl⟩
  refine Code.seen (fun W => PickBox W rb m R o M.length c ∧ Below w.heap.size w W ∧ Fam w.heap.size w W [blkT rb (.cells #[.pointer (some ⟨m, 0, none⟩)] 26 (0, 0))]) ?_ fun w1 H1 => ?_
  · rw [← hrb]
    have hb := (Below.refl w.heap.size w).alloc (Nat.le_refl _) (.cells #[.pointer (some ⟨m, 0, none⟩)] 26 (0, 0))
    exact ⟨⟨by rw [blk_cell (heap_alloc_new _ _)]; rfl, (hb.cell (World.block_lt_of_cell? w _ HC.out.2.1)).trans HC.out.2.1⟩, hb, (Fam.start w).new _⟩
  rw [hrb]
  have b0 := H1.out.1.box
  have b1 := H1.out.1.rows
  have b2 : w1.cell? ⟨m, 0, none⟩ = some (.pointer (some ⟨fg, 0, none⟩)) := (H1.out.2.1.cell (World.block_lt_of_cell? w _ HC.out.1)).trans HC.out.1
  have b3 : w1.cell? ⟨R, o, none⟩ = some (.slice A n kk) := (H1.out.2.1.cell (World.block_lt_of_cell? w _ HC.out.2.2)).trans HC.out.2.2
  clear hrb
  go_upto_region 9 with (go_at_call 76; (with_reducible refine (ContainsFuncI_no _ rb m R o M.length c H1.out.1 Au cu ps (HU.out.below H1.out.2.1) HP.out (by omega)).mono ?_); rintro e wz ⟨rfl, hwz⟩; have hwz := hwz.symm; subst hwz)
  have HW := hid (H1.out.2.2.below (Below.refl w1.heap.size w1).drew)
  clear H1
  go_still_tail 13, (by kernel_rfl)
  change wpList _ _ _ _ _ w1.drew
  clear b0 b1 b2 b3
  generalize w1.drew = w2 at *
  go_wp2_with fail
  refine (blank_mb w.heap.size w w2 [blkT rb (.cells #[.pointer (some ⟨m, 0, none⟩)] 26 (0, 0))] HW.out (some ⟨fg, 0, none⟩) ps.length n (by omega) (by omega)).mono ?_
  rintro e w3 ⟨m', R1, vs, rfl, h3⟩
  have H3 := hid h3
  clear h3
  go_wp2
  go_loopw [7, 8, 40] (fun _ _ x wr => ∃ (k : Nat) (T : List (List UInt8)), k ≤ ps.length ∧ x = .int .i64 k ∧ MB w.heap.size w wr [blkT rb (.cells #[.pointer (some ⟨m, 0, none⟩)] 26 (0, 0))] (some ⟨fg, 0, none⟩) m' R1 ps.length vs T n ∧ ∀ i, i < k → T.getD i [] = M.getD (ps.getD i 0).toNat []) (fun _ _ x _ => ps.length - (intOf x).toNat)
  case atStart => exact ⟨0, _, Nat.zero_le _, rfl, H3.out, fun i hi => by omega⟩
  case round =>
    clear H3
    obtain ⟨k, T, hk, rfl, hm, hT⟩ := hrel
    have HM := hid hm
    have HT := hid hT
    by_cases hlt : k < ps.length
    · obtain ⟨bu, ou, rfl, hbytes⟩ := (HU.out.below hm.fam.base).cells (by omega)
      have x0 := hbytes k hlt
      obtain ⟨p, hp⟩ : ∃ p, (ps.getD k 0).toNat = p := ⟨_, rfl⟩
      have hp2 := HP.out k hlt
      have hp3 : ps.getD k 0 = (p : Int) := by omega
      rw [hp3] at x0 hp2
      have hpl : p < M.length := by omega
      obtain ⟨A1, k1, e0, hs, hln⟩ := HROW.out p hpl
      have e1 : wr.cell? ⟨R, o + p, none⟩ = some (.slice A1 n k1) := (hm.fam.base.cell (World.block_lt_of_cell? w _ e0)).trans e0
      have HS := hid (hs.below hm.fam.base).drew
      have g0 : wr.cell? ⟨rb, 0, none⟩ = some (.pointer (some ⟨m, 0, none⟩)) := by rw [blk_cell (hm.fam.back.back.blkL (ts := []) 0 rfl)]; rfl
      have g1 : wr.cell? ⟨m, 1, none⟩ = some (.slice (some ⟨R, o, none⟩) M.length c) := (hm.fam.base.cell (World.block_lt_of_cell? w _ HC.out.2.1)).trans HC.out.2.1
      obtain ⟨y0, y1⟩ := hm.box
      obtain ⟨v, L, hv, hL, ci, fi, oi, li, gi⟩ := hm.row k hlt
      obtain ⟨Av, cv, rfl⟩ := oi.form
      obtain ⟨K, hK⟩ : ∃ K, M.getD p [] = K := ⟨_, rfl⟩
      rw [hK] at HS hln
      have HKK : Hid (M.getD (ps.getD k 0).toNat [] = K) := hid (by rw [hp]; exact hK)
      have HKL := hid hln
      have HV := hid hv
      have HO := hid oi.drew
      have HLI := hid li
      have i0 : (0 : Int) ≤ (k : Int) := by omega
      have i1 : (k : Int) < (ps.length : Int) := by omega
      have i2 : (0 : Int) ≤ (p : Int) := by omega
      have i3 : (p : Int) < (M.length : Int) := by omega
      clear hm hT hbytes hp hp2 hp3 e0 hs hln hv hL fi oi li gi hK y0
      go_upto_region 13 with (fail)
      clear x0
      go_still_tail 14, (by kernel_rfl)
      change wpList _ _ _ _ _ wr.drew
      clear e1 g0 g1 y1 ci
      go_wp2_with (with_reducible show wpList _ _ _ (⟨some 59, _, _, _, _, _⟩ :: _) _ _; (refine wpList_copyB rfl (.tmp 51) (.tmp 58) rfl (.slice Av L.length cv) (.slice A1 n k1) L K rfl rfl HO.out HS.out (by rw [HKL.out, HLI.out]; exact Nat.le_refl _) ?_; intro w5 ho5 hf5; have H5 := hid (picked_row (f := fun i => M.getD (ps.getD i 0).toNat []) (HM.out.below (Below.refl wr.heap.size wr).drew) hlt HV.out HKL.out HLI.out HT.out HKK.out ho5 hf5); clear ho5 hf5))
      go_roundw
      case rel => exact ⟨k + 1, _, by omega, by go_num, H5.out.1, H5.out.2⟩
      case measure => simp [intOf]; omega
    · have HE : Hid (PickE q M n ps w (.returned (.tuple #[.pointer (some ⟨m', 0, none⟩), .int .i64 0])) wr) := hid ⟨m', T, rfl, hm.done (HFD.out.next hm.fam.base) ⟨by omega, by omega⟩ ⟨by omega, by omega⟩, hm.r.symm, fun i hi => hT i (by omega), hm.fam.base⟩
      clear hm hT
      go_wp2
      go_ret2
      exact HE.out
end Go.Proofs.Ytkklonldplekcaa
