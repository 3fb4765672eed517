/- The walks of package pack: the rest of the writer; a text as bytes. -/
import Derived.Test.YtamhlfhblgmhoaaPkW2
import Derived.Laws.IdiomStrings
namespace Go.Proofs.Ytamhlfhblgmhoaa
open Go.RowKit
theorem conv_bytes (w : World) (s : ByteArray) : ∃ c w', (convert 9 28 (.string s)).run Try.prog w = .ok (.slice (some ⟨w.heap.size, 0, none⟩) s.toList.length c) w' ∧
    SlB w' (.slice (some ⟨w.heap.size, 0, none⟩) s.toList.length c) s.toList ∧ Below w.heap.size w w' := by
  have hl : s.toList.length = s.size := by rw [toList_eq, Array.length_toList]; rfl
  have hrun := run_bytes_of_string (P := Try.prog) w 9 28 5 s Try.underlying9 Try.underlying28 Try.underlying5
  rw [← hl] at hrun
  refine ⟨_, _, hrun, ⟨_, _, rfl, grownCap_ge w _ 0 5, (fun h => by cases h), fun _ => ⟨w.heap.size, 0, rfl, fun i hi => ?_⟩⟩, ?_⟩
  · rw [Nat.zero_add, show (⟨w.heap.size, i, none⟩ : Addr) = ⟨w.drew.heap.size, i, none⟩ from rfl, cell_of_row _ _ _ _ _ _ (heap_alloc_new w.drew _)]
    have hi' : i < s.data.size := by rw [hl] at hi; exact hi
    rw [bytesRow_at s _ i hi']
    simp [toList_eq, Array.getElem?_eq_getElem hi']
  · exact ((Below.refl w.heap.size w).drew).alloc (Nat.le_refl _) _
set_option maxHeartbeats 1000000 in
theorem wErr_any (g : Nat) (e : Int) (v : Value) (l : List UInt8) (w : World) (h : WAt w g e v l) :
    Calls Try.prog 30 #[.pointer (some ⟨g, 0, none⟩)] w fun r w' => r = .returned (.int .i64 e) ∧ w' = w := by
  have c0 := h.c0
  clear h
  go_enter Try.func30, Try.ntmps30
  go_wp2
  go_ret
  exact ⟨rfl, rfl⟩
set_option maxHeartbeats 1000000 in
theorem wByte_any (g : Nat) (e : Int) (v : Value) (l : List UInt8) (b : UInt8) (w : World) (h : WAt w g e v l) (hlen : l.length + 1 ≤ 140737488355328) :
    Calls Try.prog 37 #[.pointer (some ⟨g, 0, none⟩), B b] w fun r w' => r = .returned (.tuple #[]) ∧ Left w w' g v e (wput e l [b]) := by
  have H := hid h
  clear h
  go_enter Try.func37, Try.ntmps37
  go_wp2_with fail
  refine (put_any g e v _ l [b] _ (H.out.below ((Below.refl _ _).alloc (Nat.le_refl _) _)) (by exact lit_sl w [b] (by simp)) (by simpa using hlen)).mono ?_
  rintro r w2 ⟨rfl, hL⟩
  have HL := hid (hL.pre ((Below.refl _ _).alloc (Nat.le_refl _) _) H.out.lt)
  clear hL
  go_wp2
  go_returns
  exact ⟨rfl, HL.out⟩
set_option maxHeartbeats 1000000 in
theorem wBool_any (g : Nat) (e : Int) (v : Value) (l : List UInt8) (b : Bool) (w : World) (h : WAt w g e v l) (hlen : l.length + 1 ≤ 140737488355328) :
    Calls Try.prog 39 #[.pointer (some ⟨g, 0, none⟩), .bool b] w fun r w' => r = .returned (.tuple #[]) ∧ Left w w' g v e (wput e l [if b then 1 else 0]) := by
  have H := hid h
  clear h
  cases b
  · go_enter Try.func39, Try.ntmps39
    go_wp2_with fail
    refine (put_any g e v _ l [0] _ (H.out.below ((Below.refl _ _).alloc (Nat.le_refl _) _)) (by exact lit_sl w [0] (by simp)) (by simpa using hlen)).mono ?_
    rintro r w2 ⟨rfl, hL⟩
    have HL := hid (hL.pre ((Below.refl _ _).alloc (Nat.le_refl _) _) H.out.lt)
    clear hL
    go_wp2
    go_returns
    exact ⟨rfl, HL.out⟩
  · go_enter Try.func39, Try.ntmps39
    go_wp2_with fail
    refine (put_any g e v _ l [1] _ (H.out.below ((Below.refl _ _).alloc (Nat.le_refl _) _)) (by exact lit_sl w [1] (by simp)) (by simpa using hlen)).mono ?_
    rintro r w2 ⟨rfl, hL⟩
    have HL := hid (hL.pre ((Below.refl _ _).alloc (Nat.le_refl _) _) H.out.lt)
    clear hL
    go_wp2
    go_returns
    exact ⟨rfl, HL.out⟩
theorem Left.then {w w1 w2 : World} {g : Nat} {v v1 : Value} {e e2 : Int} {l l2 : List UInt8} (h1 : WAt w1 g e v1 l) (hf : Fr (WX g v) w w1) (hp : ∀ k, v1.ownBlock = some k → v.ownBlock = some k ∨ w.heap.size ≤ k) (h : Left w1 w2 g v1 e2 l2) : Left w w2 g v e2 l2 := by
  obtain ⟨v2, a1, a2, a3⟩ := h
  refine ⟨v2, a1, hf.trans (a2.mono fun k hk hx => ?_), fun k hk => ?_⟩
  · rcases hx with hx | hx
    · exact .inl (.inl hx)
    · rcases hp k hx with h | h
      · exact .inl (.inr h)
      · exact .inr h
  · rcases a3 k hk with h | h
    · exact hp k h
    · exact .inr (Nat.le_trans hf.size h)
set_option maxHeartbeats 1000000 in
theorem wBytes_any (g : Nat) (e : Int) (v u : Value) (l k : List UInt8) (w : World) (h : WAt w g e v l) (hu : SlB w u k) (hub : ∀ b, u.ownBlock = some b → b ≠ g ∧ v.ownBlock ≠ some b) (hlen : l.length + k.length + 9 ≤ 140737488355328) :
    Calls Try.prog 41 #[.pointer (some ⟨g, 0, none⟩), u] w fun r w' => r = .returned (.tuple #[]) ∧ Left w w' g v e (wput e (wput e l (Pk.form k.length)) k) := by
  have H := hid h
  have HU := hid hu
  have HUB := hid hub
  obtain ⟨A, c, rfl⟩ := hu.form
  have h9 := Pk.form_nine k.length (by omega)
  clear h hu hub
  go_enter Try.func41, Try.ntmps41
  go_wp2_with fail
  refine (Uint_any g e v l k.length (by omega) w H.out (by omega)).mono ?_
  rintro r w1 ⟨rfl, v1, hw1, hf1, hp1⟩
  have HW1 := hid hw1
  have HF1 := hid hf1
  have HP1 := hid hp1
  have hl1 : (wput e l (Pk.form k.length)).length + k.length ≤ 140737488355328 := by unfold wput; split <;> (try simp only [List.length_append]) <;> omega
  clear hw1 hf1 hp1
  go_wp2_with fail
  refine (put_any g e v1 _ _ k w1 HW1.out ?_ hl1).mono ?_
  · obtain ⟨A', c', e1, h1, h2, h3⟩ := HU.out
    injection e1 with e1 e2 e3
    subst e1 e3
    refine ⟨A, c, rfl, h1, h2, fun h0 => ?_⟩
    obtain ⟨b, off, eA, hc⟩ := h3 h0
    refine ⟨b, off, eA, fun i hi => ?_⟩
    have hcc := hc i hi
    have hb := World.block_lt_of_cell? w _ hcc
    rw [World.cell?_of_block (w := w) (w' := w1) (a := ⟨b, off + i, none⟩), hcc]
    refine HF1.out.block b hb fun hx => ?_
    have := HUB.out b (by rw [eA]; rfl)
    rcases hx with hx | hx
    · exact this.1 hx
    · exact this.2 hx
  rintro r w2 ⟨rfl, hL⟩
  have HL := hid (Left.then HW1.out HF1.out HP1.out hL)
  clear hL
  go_wp2
  go_returns
  exact ⟨rfl, HL.out⟩
set_option maxHeartbeats 1000000 in
theorem wText_any (g : Nat) (e : Int) (v : Value) (l : List UInt8) (s : ByteArray) (w : World) (h : WAt w g e v l) (hlen : l.length + s.toList.length + 9 ≤ 140737488355328) :
    Calls Try.prog 43 #[.pointer (some ⟨g, 0, none⟩), .string s] w fun r w' => r = .returned (.tuple #[]) ∧ Left w w' g v e (wput e (wput e l (Pk.form s.toList.length)) s.toList) := by
  have H := hid h
  obtain ⟨c, w1, hrun, hs, hb⟩ := conv_bytes w s
  have HS := hid hs
  have HB := hid hb
  clear h hs hb
  go_enter Try.func43, Try.ntmps43
  go_wp2_with fail
  refine (wBytes_any g e v _ l s.toList w1 (H.out.below HB.out) HS.out (fun b hb => ?_) hlen).mono ?_
  · simp only [Value.ownBlock, Option.some.injEq] at hb
    subst hb
    have := blk_lt H.out.at_
    exact ⟨by omega, fun h => by have := H.out.lt _ h; omega⟩
  rintro r w2 ⟨rfl, hL⟩
  have HL := hid (hL.pre HB.out H.out.lt)
  clear hL
  go_wp2
  go_returns
  exact ⟨rfl, HL.out⟩
end Go.Proofs.Ytamhlfhblgmhoaa
