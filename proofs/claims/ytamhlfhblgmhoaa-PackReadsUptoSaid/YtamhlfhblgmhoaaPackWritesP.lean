/- The walk of one put of the law PackWrites, into both writers. -/
import Derived.Test.YtamhlfhblgmhoaaPackWritesC
namespace Go.Proofs.Ytamhlfhblgmhoaa
open Go.RowKit
section
variable {K : Nat → Prop} {w0 W : World} {gb n g : Nat} {e : Int} {l : List UInt8}
theorem PWs.wErr {B : World → (Nat → Nat) → Prop} (h : PWs K w0 W gb n (AW g e l) B) : Calls Try.prog 30 #[.pointer (some ⟨g, 0, none⟩)] W fun r w' => r = .returned (.int .i64 e) ∧ w' = W := by
  obtain ⟨ρ, lv, mv, ls, ms, h, hn⟩ := h
  obtain ⟨v, ha, _⟩ := h.a
  exact wErr_any g e v l W ha
theorem PWs.vErr {A : World → (Nat → Nat) → Prop} (h : PWs K w0 W gb n A (AV g e l)) : Calls Try.prog 46 #[.pointer (some ⟨g, 0, none⟩)] W fun r w' => r = .returned (.int .i64 e) ∧ w' = W := by
  obtain ⟨ρ, lv, mv, ls, ms, h, hn⟩ := h
  obtain ⟨v, ha, _⟩ := h.b
  exact vErr_any g e v l W ha
theorem PWs.wData {B : World → (Nat → Nat) → Prop} (h : PWs K w0 W gb n (AW g e l) B) (hlen : l.length ≤ 140737488355328) :
    Calls Try.prog 11 #[.pointer (some ⟨g, 0, none⟩)] W fun r w' => ∃ A c, r = .returned (.slice A (dataOf e l).length c) ∧ OwnB w' W.heap.size (.slice A (dataOf e l).length c) (dataOf e l) ∧ Below W.heap.size W w' := by
  obtain ⟨ρ, lv, mv, ls, ms, h, hn⟩ := h
  obtain ⟨v, ha, _⟩ := h.a
  exact wData_any g e v l W ha hlen
theorem PWs.vData {A : World → (Nat → Nat) → Prop} (h : PWs K w0 W gb n A (AV g e l)) (hlen : l.length ≤ 140737488355328) :
    Calls Try.prog 45 #[.pointer (some ⟨g, 0, none⟩)] W fun r w' => ∃ u, r = .returned u ∧ SlB w' u (dataOf e l) ∧ Below W.heap.size W w' := by
  obtain ⟨ρ, lv, mv, ls, ms, h, hn⟩ := h
  obtain ⟨v, ha, _⟩ := h.b
  exact vData_any g e v l W ha hlen
end
/-- the state of both writers -/
abbrev PS (K : Nat → Prop) (w0 W : World) (gw gv gb n : Nat) (e : Int) (l : List UInt8) : Prop := PWs K w0 W gb n (AW gw e l) (AV gv e l)
/-- the state behind the boxing of a call's words -/
structure Front (K : Nat → Prop) (w0 W1 : World) (gx gw gv gb n : Nat) (e : Int) (l : List UInt8) (o : POp) (ov : Value) : Prop where
  s : PS (fun k => K k ∨ k = gx) W1 W1 gw gv gb n e l
  box : W1.heap[gx]? = some (.cells #[.int .i64 o.kind, .int .i64 o.n, B o.b, ov, .string o.s] 41 (0, 0))
  fr : Fr (fun k => ¬ K k) w0 W1
  lt : ∀ k, K k → k < w0.heap.size
theorem Front.mk' {K : Nat → Prop} {w0 W : World} {gw gv gb n : Nat} {e : Int} {l : List UInt8} (h : PS K w0 W gw gv gb n e l) (o : POp) (ov : Value) :
    Front K w0 (W.alloc (.cells #[.int .i64 o.kind, .int .i64 o.n, B o.b, ov, .string o.s] 41)) W.heap.size gw gv gb n e l o ov := by
  have hb : Below W.heap.size W (W.alloc (.cells #[.int .i64 o.kind, .int .i64 o.n, B o.b, ov, .string o.s] 41)) := (Below.refl _ _).alloc (Nat.le_refl _) _
  exact ⟨h.take (AW.stab _ _ _) (AV.stab _ _ _) hb (fun k => k = W.heap.size) (fun k hk => by subst hk; simp), heap_alloc_new _ _, h.fr.trans ((Fr.of_below hb).mono fun _ _ h => h.elim), h.lt⟩
theorem Front.cells {K : Nat → Prop} {w0 W1 : World} {gx gw gv gb n : Nat} {e : Int} {l : List UInt8} {o : POp} {ov : Value} (h : Front K w0 W1 gx gw gv gb n e l o ov) {K1 : Nat → Prop} {W : World} (hf : Fr (fun k => ¬ K1 k) W1 W) (hK : K1 gx) :
    W.cell? ⟨gx, 1, none⟩ = some (.int .i64 o.n) ∧ W.cell? ⟨gx, 2, none⟩ = some (B o.b) ∧ W.cell? ⟨gx, 3, none⟩ = some ov ∧ W.cell? ⟨gx, 4, none⟩ = some (.string o.s) := by
  have hb := blk_fr hf h.box (fun hh => hh hK)
  exact ⟨by rw [blk_cell hb]; rfl, by rw [blk_cell hb]; rfl, by rw [blk_cell hb]; rfl, by rw [blk_cell hb]; rfl⟩
theorem Front.back {K : Nat → Prop} {w0 W1 : World} {gx gw gv gb n : Nat} {e : Int} {l : List UInt8} {o : POp} {ov : Value} (h : Front K w0 W1 gx gw gv gb n e l o ov) {K1 : Nat → Prop} {W : World} {n' : Nat} {e' : Int} {l' : List UInt8} (hs : PS K1 W1 W gw gv gb n' e' l') (hK : ∀ k, K k → K1 k) : PS K w0 W gw gv gb n' e' l' :=
  PWs.drop hs hK h.lt h.fr
/-- what a put answers -/
def PPost (K : Nat → Prop) (w0 : World) (gw gv gb n : Nat) (l : List UInt8) (o : POp) (r : Ending) (W' : World) : Prop :=
  r = .returned (.bool true) ∧ ∃ e' l' n', PS K w0 W' gw gv gb n' e' l' ∧ l'.length ≤ l.length + 4 * o.m ∧ n' ≤ n + 2
theorem wput_len (e : Int) (l k : List UInt8) : (wput e l k).length ≤ l.length + k.length := by unfold wput; split <;> simp
set_option maxRecDepth 100000 in
set_option maxHeartbeats 4000000 in
theorem put_uint (K : Nat → Prop) (w0 W : World) (gw gv gb n : Nat) (e : Int) (l : List UInt8) (k : Int) (b : UInt8) (ol : List UInt8) (s : ByteArray) (ov : Value) (k0 : 0 ≤ k) (k1 : k ≤ 9223372036854775807) (hl : l.length ≤ 500000000) (h : PS K w0 W gw gv gb n e l) :
    Calls Try.prog 13 #[.pointer (some ⟨gw, 0, none⟩), .pointer (some ⟨gv, 0, none⟩), .agg #[.int .i64 1, .int .i64 k, B b, ov, .string s], .pointer (some ⟨gb, 0, none⟩)] W (PPost K w0 gw gv gb n l ⟨1, k, b, ol, s⟩) := by
  obtain ⟨q, rfl⟩ := Int.eq_ofNat_of_zero_le k0
  have HS0 := hid h
  clear h
  go_enter Try.func13, Try.ntmps13
  go_wp2_with fail
  refine Calls.seen (fun W1 => Front K w0 W1 W.heap.size gw gv gb n e l (⟨1, q, b, ol, s⟩ : POp) ov) (Front.mk' HS0.out (⟨1, q, b, ol, s⟩ : POp) ov) fun w1 h1 => ?_
  clear HS0
  obtain ⟨gx, hgx⟩ : ∃ gx, gx = W.heap.size := ⟨_, rfl⟩
  simp only [← hgx] at h1 ⊢
  clear hgx
  have HF := hid h1
  have HS1 := hid h1.s
  clear h1
  refine (PWs.wcall HS1.out (AV.stab _ _ _) (fun v hv hub => Uint_any gw e v l q (by omega) w1 hv (by omega))).mono ?_
  rintro r w2 ⟨rfl, h2⟩
  have HS2 := hid h2
  obtain ⟨c1, c2, c3, c4⟩ := HF.out.cells h2.fr (.inr rfl)
  clear h2 HS1
  go_wp2_with fail
  refine (PWs.vcall HS2.out (AW.stab _ _ _) (fun v hv hub => vUint_any gv e v l q (by omega) w2 hv (by omega))).mono ?_
  rintro r w3 ⟨rfl, h3⟩
  have HS3 := hid h3
  clear h3 HS2 c1 c2 c3 c4
  go_wp2_with fail
  refine (PWs.wErr HS3.out).mono ?_
  rintro r w9 ⟨rfl, rfl⟩
  go_wp2_with fail
  refine (PWs.vErr HS3.out).mono ?_
  rintro r w9 ⟨rfl, rfl⟩
  go_wp2
  go_ret
  have h9 := Pk.form_nine q (by omega)
  have hw := wput_len e l (Pk.form q)
  exact ⟨rfl, _, _, _, HF.out.back HS3.out (fun k hk => .inl hk), by unfold POp.m; simp only; omega, by omega⟩
set_option maxRecDepth 100000 in
set_option maxHeartbeats 4000000 in
theorem put_neg (K : Nat → Prop) (w0 W : World) (gw gv gb n : Nat) (e : Int) (l : List UInt8) (k : Int) (b : UInt8) (ol : List UInt8) (s : ByteArray) (ov : Value) (k0 : k < 0) (k1 : -9223372036854775808 ≤ k) (hl : l.length ≤ 500000000) (h : PS K w0 W gw gv gb n e l) :
    Calls Try.prog 13 #[.pointer (some ⟨gw, 0, none⟩), .pointer (some ⟨gv, 0, none⟩), .agg #[.int .i64 1, .int .i64 k, B b, ov, .string s], .pointer (some ⟨gb, 0, none⟩)] W (PPost K w0 gw gv gb n l ⟨1, k, b, ol, s⟩) := by
  have HS0 := hid h
  clear h
  go_enter Try.func13, Try.ntmps13
  go_wp2_with fail
  refine Calls.seen (fun W1 => Front K w0 W1 W.heap.size gw gv gb n e l (⟨1, k, b, ol, s⟩ : POp) ov) (Front.mk' HS0.out (⟨1, k, b, ol, s⟩ : POp) ov) fun w1 h1 => ?_
  clear HS0
  obtain ⟨gx, hgx⟩ : ∃ gx, gx = W.heap.size := ⟨_, rfl⟩
  simp only [← hgx] at h1 ⊢
  clear hgx
  have HF := hid h1
  have HS1 := hid h1.s
  clear h1
  refine (PWs.wcall HS1.out (AV.stab _ _ _) (fun v hv hub => Uint_neg gw e v l k k0 w1 hv)).mono ?_
  rintro r w2 ⟨rfl, h2⟩
  have HS2 := hid h2
  obtain ⟨c1, c2, c3, c4⟩ := HF.out.cells h2.fr (.inr rfl)
  clear h2 HS1
  go_wp2_with fail
  refine (PWs.vcall HS2.out (AW.stab _ _ _) (fun v hv hub => vUint_neg gv e v l k k0 w2 hv)).mono ?_
  rintro r w3 ⟨rfl, h3⟩
  have HS3 := hid h3
  clear h3 HS2 c1 c2 c3 c4
  go_wp2_with fail
  refine (PWs.wErr HS3.out).mono ?_
  rintro r w9 ⟨rfl, rfl⟩
  go_wp2_with fail
  refine (PWs.vErr HS3.out).mono ?_
  rintro r w9 ⟨rfl, rfl⟩
  go_wp2
  go_ret
  exact ⟨rfl, _, _, _, HF.out.back HS3.out (fun k hk => .inl hk), by omega, by omega⟩
set_option maxRecDepth 100000 in
set_option maxHeartbeats 4000000 in
theorem put_byte (K : Nat → Prop) (w0 W : World) (gw gv gb n : Nat) (e : Int) (l : List UInt8) (k : Int) (b : UInt8) (ol : List UInt8) (s : ByteArray) (ov : Value)  (hl : l.length ≤ 500000000) (h : PS K w0 W gw gv gb n e l) :
    Calls Try.prog 13 #[.pointer (some ⟨gw, 0, none⟩), .pointer (some ⟨gv, 0, none⟩), .agg #[.int .i64 2, .int .i64 k, B b, ov, .string s], .pointer (some ⟨gb, 0, none⟩)] W (PPost K w0 gw gv gb n l ⟨2, k, b, ol, s⟩) := by
  have HS0 := hid h
  clear h
  go_enter Try.func13, Try.ntmps13
  go_wp2_with fail
  refine Calls.seen (fun W1 => Front K w0 W1 W.heap.size gw gv gb n e l (⟨2, k, b, ol, s⟩ : POp) ov) (Front.mk' HS0.out (⟨2, k, b, ol, s⟩ : POp) ov) fun w1 h1 => ?_
  clear HS0
  obtain ⟨gx, hgx⟩ : ∃ gx, gx = W.heap.size := ⟨_, rfl⟩
  simp only [← hgx] at h1 ⊢
  clear hgx
  have HF := hid h1
  have HS1 := hid h1.s
  clear h1
  refine (PWs.wcall HS1.out (AV.stab _ _ _) (fun v hv hub => wByte_any gw e v l b w1 hv (by omega))).mono ?_
  rintro r w2 ⟨rfl, h2⟩
  have HS2 := hid h2
  obtain ⟨c1, c2, c3, c4⟩ := HF.out.cells h2.fr (.inr rfl)
  clear h2 HS1
  go_wp2_with fail
  refine (PWs.vcall HS2.out (AW.stab _ _ _) (fun v hv hub => vwByte_any gv e v l b w2 hv (by omega))).mono ?_
  rintro r w3 ⟨rfl, h3⟩
  have HS3 := hid h3
  clear h3 HS2 c1 c2 c3 c4
  go_wp2_with fail
  refine (PWs.wErr HS3.out).mono ?_
  rintro r w9 ⟨rfl, rfl⟩
  go_wp2_with fail
  refine (PWs.vErr HS3.out).mono ?_
  rintro r w9 ⟨rfl, rfl⟩
  go_wp2
  go_ret
  have hw := wput_len e l [b]
  simp only [List.length_cons, List.length_nil] at hw
  exact ⟨rfl, _, _, _, HF.out.back HS3.out (fun k hk => .inl hk), by unfold POp.m; simp only; omega, by omega⟩
set_option maxRecDepth 100000 in
set_option maxHeartbeats 4000000 in
theorem put_bool (K : Nat → Prop) (w0 W : World) (gw gv gb n : Nat) (e : Int) (l : List UInt8) (k : Int) (b : UInt8) (ol : List UInt8) (s : ByteArray) (ov : Value) (q : Bool) (hq : ((b.toNat : Int) % 2 == 1) = q) (hl : l.length ≤ 500000000) (h : PS K w0 W gw gv gb n e l) :
    Calls Try.prog 13 #[.pointer (some ⟨gw, 0, none⟩), .pointer (some ⟨gv, 0, none⟩), .agg #[.int .i64 3, .int .i64 k, B b, ov, .string s], .pointer (some ⟨gb, 0, none⟩)] W (PPost K w0 gw gv gb n l ⟨3, k, b, ol, s⟩) := by
  have HS0 := hid h
  clear h
  go_enter Try.func13, Try.ntmps13
  go_wp2_with fail
  refine Calls.seen (fun W1 => Front K w0 W1 W.heap.size gw gv gb n e l (⟨3, k, b, ol, s⟩ : POp) ov) (Front.mk' HS0.out (⟨3, k, b, ol, s⟩ : POp) ov) fun w1 h1 => ?_
  clear HS0
  obtain ⟨gx, hgx⟩ : ∃ gx, gx = W.heap.size := ⟨_, rfl⟩
  simp only [← hgx] at h1 ⊢
  clear hgx
  have HF := hid h1
  have HS1 := hid h1.s
  clear h1
  refine (PWs.wcall HS1.out (AV.stab _ _ _) (fun v hv hub => wBool_any gw e v l q w1 hv (by omega))).mono ?_
  rintro r w2 ⟨rfl, h2⟩
  have HS2 := hid h2
  obtain ⟨c1, c2, c3, c4⟩ := HF.out.cells h2.fr (.inr rfl)
  clear h2 HS1
  go_wp2_with fail
  refine (PWs.vcall HS2.out (AW.stab _ _ _) (fun v hv hub => vwBool_any gv e v l q w2 hv (by omega))).mono ?_
  rintro r w3 ⟨rfl, h3⟩
  have HS3 := hid h3
  clear h3 HS2 c1 c2 c3 c4
  go_wp2_with fail
  refine (PWs.wErr HS3.out).mono ?_
  rintro r w9 ⟨rfl, rfl⟩
  go_wp2_with fail
  refine (PWs.vErr HS3.out).mono ?_
  rintro r w9 ⟨rfl, rfl⟩
  go_wp2
  go_ret
  have hw := wput_len e l [if q then 1 else 0]
  simp only [List.length_cons, List.length_nil] at hw
  exact ⟨rfl, _, _, _, HF.out.back HS3.out (fun k hk => .inl hk), by unfold POp.m; simp only; omega, by omega⟩
set_option maxRecDepth 100000 in
set_option maxHeartbeats 4000000 in
theorem put_text (K : Nat → Prop) (w0 W : World) (gw gv gb n : Nat) (e : Int) (l : List UInt8) (k : Int) (b : UInt8) (ol : List UInt8) (s : ByteArray) (ov : Value) (hs : s.toList.length ≤ 1048576) (hl : l.length ≤ 500000000) (h : PS K w0 W gw gv gb n e l) :
    Calls Try.prog 13 #[.pointer (some ⟨gw, 0, none⟩), .pointer (some ⟨gv, 0, none⟩), .agg #[.int .i64 5, .int .i64 k, B b, ov, .string s], .pointer (some ⟨gb, 0, none⟩)] W (PPost K w0 gw gv gb n l ⟨5, k, b, ol, s⟩) := by
  have HS0 := hid h
  clear h
  go_enter Try.func13, Try.ntmps13
  go_wp2_with fail
  refine Calls.seen (fun W1 => Front K w0 W1 W.heap.size gw gv gb n e l (⟨5, k, b, ol, s⟩ : POp) ov) (Front.mk' HS0.out (⟨5, k, b, ol, s⟩ : POp) ov) fun w1 h1 => ?_
  clear HS0
  obtain ⟨gx, hgx⟩ : ∃ gx, gx = W.heap.size := ⟨_, rfl⟩
  simp only [← hgx] at h1 ⊢
  clear hgx
  have HF := hid h1
  have HS1 := hid h1.s
  clear h1
  refine (PWs.wcall HS1.out (AV.stab _ _ _) (fun v hv hub => wText_any gw e v l s w1 hv (by omega))).mono ?_
  rintro r w2 ⟨rfl, h2⟩
  have HS2 := hid h2
  obtain ⟨c1, c2, c3, c4⟩ := HF.out.cells h2.fr (.inr rfl)
  clear h2 HS1
  go_wp2_with fail
  refine (PWs.vcall HS2.out (AW.stab _ _ _) (fun v hv hub => vwText_any gv e v l s w2 hv (by omega))).mono ?_
  rintro r w3 ⟨rfl, h3⟩
  have HS3 := hid h3
  clear h3 HS2 c1 c2 c3 c4
  go_wp2_with fail
  refine (PWs.wErr HS3.out).mono ?_
  rintro r w9 ⟨rfl, rfl⟩
  go_wp2_with fail
  refine (PWs.vErr HS3.out).mono ?_
  rintro r w9 ⟨rfl, rfl⟩
  go_wp2
  go_ret
  have h9 := Pk.form_nine s.toList.length (by omega)
  have hw := wput_len e l (Pk.form s.toList.length)
  have hw2 := wput_len e (wput e l (Pk.form s.toList.length)) s.toList
  have hs2 : s.toList.length = s.data.toList.length := by rw [toList_eq]
  exact ⟨rfl, _, _, _, HF.out.back HS3.out (fun k hk => .inl hk), by unfold POp.m; simp only; omega, by omega⟩
set_option maxRecDepth 100000 in
set_option maxHeartbeats 4000000 in
theorem put_none (K : Nat → Prop) (w0 W : World) (gw gv gb n : Nat) (e : Int) (l : List UInt8) (k : Int) (b : UInt8) (ol : List UInt8) (s : ByteArray) (ov : Value) (kd : Int) (q1 : (kd == 1) = false) (q2 : (kd == 2) = false) (q3 : (kd == 3) = false) (q4 : (kd == 4) = false) (q5 : (kd == 5) = false) (q6 : (kd == 6) = false) (hl : l.length ≤ 500000000) (h : PS K w0 W gw gv gb n e l) :
    Calls Try.prog 13 #[.pointer (some ⟨gw, 0, none⟩), .pointer (some ⟨gv, 0, none⟩), .agg #[.int .i64 kd, .int .i64 k, B b, ov, .string s], .pointer (some ⟨gb, 0, none⟩)] W (PPost K w0 gw gv gb n l ⟨kd, k, b, ol, s⟩) := by
  have HS0 := hid h
  clear h
  go_enter Try.func13, Try.ntmps13
  go_wp2_with fail
  refine Calls.seen (fun W1 => Front K w0 W1 W.heap.size gw gv gb n e l (⟨kd, k, b, ol, s⟩ : POp) ov) (Front.mk' HS0.out (⟨kd, k, b, ol, s⟩ : POp) ov) fun w1 h1 => ?_
  clear HS0
  obtain ⟨gx, hgx⟩ : ∃ gx, gx = W.heap.size := ⟨_, rfl⟩
  simp only [← hgx] at h1 ⊢
  clear hgx
  have HF := hid h1
  have HS1 := hid h1.s
  clear h1
  refine (PWs.wErr HS1.out).mono ?_
  rintro r w9 ⟨rfl, rfl⟩
  go_wp2_with fail
  refine (PWs.vErr HS1.out).mono ?_
  rintro r w9 ⟨rfl, rfl⟩
  go_wp2
  go_ret
  exact ⟨rfl, _, _, _, HF.out.back HS1.out (fun k hk => .inl hk), by omega, by omega⟩
end Go.Proofs.Ytamhlfhblgmhoaa
