/- Lists that are handed out and written full: append in place, or anew; the law's book. -/
import Derived.Test.YtamhlfhblgmhoaaPkX
namespace Go.Proofs.Ytamhlfhblgmhoaa
open Go.RowKit
section
variable {P : Program} (w : World)
theorem run_app_two (base : Nat) (t ty e : TypeId) (i : TypeInfo) (z : Value) (size bytes : Nat) (ht : P.underlying t = some (.slice e)) (hi : P.info? e = some i) (hz : i.zero = some z)
    (hsize : i.size = size) (hby : i.bytes = bytes) (hzs : z.cells.size = size) (hsz : 0 < size)
    (v : Value) (n : Nat) (xs : List Value) (hown : w.ownsRow base e size v n xs)
    (a : Addr) (m c : Nat) (news : List Value) (hl : news.length = m * size) (hnews : ∀ j u, news[j]? = some u → w.cell? (a.add j) = some u) (h1 : ∀ u ∈ news, u.oneCell' = true)
    (h63 : n + m ≤ maxLen) (hbytes : (n + m) * bytes ≤ 140737488355328) (hbase : base ≤ w.heap.size) :
    ∃ v' w', (Builtin.append_ #[t, t] ty #[v, .slice (some a) m c]).run P w = .ok v' w' ∧ w'.ownsRow base e size v' (n + m) (xs ++ news) ∧
      ((v'.ownBlock = v.ownBlock ∧ w.grownBy w' v.ownBlock) ∨ (Below w.heap.size w w' ∧ ∀ k, v'.ownBlock = some k → w.heap.size ≤ k)) := by
  have hown0 := hown
  obtain ⟨hxl, ⟨rfl, rfl⟩ | ⟨g, cap, cur, rfl, hbg, hg, hnc, hcm, hcs, htake⟩⟩ := hown
  · have hx : xs = [] := List.eq_nil_of_length_eq_zero (by simpa using hxl)
    subst hx
    obtain ⟨v', w', hr, h2, h3, _⟩ := run_append_own (P := P) w w.heap.size t ty e i z size bytes ht hi hz hsize hby hzs hsz _ _ _ (World.ownsRow_nil w _ e size) a m c news hl hnews h1 h63 hbytes (Nat.le_refl _)
    exact ⟨v', w', hr, own_base h2 hbase, .inr ⟨⟨h3.os, h3.tape, h3.output, h3.size, fun k hk => h3.block k hk (fun e => by cases e)⟩, fun k hk => (World.ownsRow.lt h2 k hk).1⟩⟩
  · by_cases hroom : n + m ≤ cap
    · obtain ⟨w', hr, h2, h3⟩ := run_append_fits (P := P) w base t ty e i size ht hi hsize g n cap xs hown0 a m c news hl hnews h1 hroom
      exact ⟨_, w', hr, h2, .inl ⟨rfl, h3⟩⟩
    · obtain ⟨v', w', hr, h2, h3, _⟩ := run_append_own (P := P) w base t ty e i z size bytes ht hi hz hsize hby hzs hsz _ _ _ hown0 a m c news hl hnews h1 h63 hbytes hbase
      have hsmall : n + m ≤ 9223372036854775807 := by simp only [maxLen] at h63; omega
      have hr2 := run_append_grow (P := P) w t ty e i z ht hi hz ⟨g, 0, none⟩ n cap xs (by rw [hsize]; exact hxl) (hown0.cells (g := g) rfl) a m c news (by rw [hsize]; exact hl) hnews (by omega) (by omega) (growslice_fits (by omega) (by rw [hby]; exact hbytes))
      rw [hr] at hr2
      injection hr2 with e1 e2
      refine ⟨v', w', hr, h2, .inr ⟨?_, fun k hk => ?_⟩⟩
      · rw [e2]
        exact ((Below.refl w.heap.size w).drew).alloc (Nat.le_refl _) _
      · rw [e1] at hk
        simp only [Value.ownBlock, Option.some.injEq] at hk
        omega
end
/-- one byte put behind a row of bytes -/
theorem wpList_app1 {w : World} {ops : Array Oper} {rest : List Oper} {o : Oper} {a : Act} {Q : Exit → Act → World → Prop} (hgd : o.guard = none) (s x : Operand)
    (ho : o.op = .call { callee := .builtin .append, args := #[s, x], argTypes := #[28, 28] })
    (base : Nat) (v : Value) (l : List UInt8) (b : UInt8) (g c : Nat) (hs : a.eval s = v) (hx : a.eval x = .slice (some ⟨g, 0, none⟩) 1 c) (hown : OwnB w base v l) (hu : w.cell? ⟨g, 0, none⟩ = some (B b)) (hlen : l.length + 1 ≤ 140737488355328) (hbase : base ≤ w.heap.size)
    (h : ∀ v' w', OwnB w' base v' (l ++ [b]) → ((v'.ownBlock = v.ownBlock ∧ w.grownBy w' v.ownBlock) ∨ (Below w.heap.size w w' ∧ ∀ k, v'.ownBlock = some k → w.heap.size ≤ k)) → wpList Try.prog ops Q rest (a.put o.dst v') w') : wpList Try.prog ops Q (o :: rest) a w :=
  wpList_plain hgd fun _ hK => by
    obtain ⟨i, hi, hz0, hz1, hz2⟩ := info_parts infoB
    obtain ⟨v', w', hrun, r1, r2⟩ := run_app_two (P := Try.prog) w base 28 o.type 5 i (.int .u8 0) 1 1 Try.underlying28 hi hz0 hz1 hz2 rfl (by decide) v l.length (l.map B) hown ⟨g, 0, none⟩ 1 c [B b] rfl (fun j u hj => by
      cases j with
      | zero => simp at hj; subst hj; simpa [Addr.add] using hu
      | succ j => simp at hj) (fun u hu => by simp at hu; subst hu; rfl) (by unfold maxLen; omega) (by omega) hbase
    unfold Oper.wp
    simp [execOp, ho, resolve, invoke, builtin, hs, hx, hrun, Result.andThen]
    exact hK _ _ (h v' w' (by unfold OwnB; rw [List.length_append, List.map_append]; exact r1) r2)
def mark (k : Nat) : UInt8 := UInt8.ofNat (k * 5 + 3)
theorem mark_eq (k : Nat) (h : k ≤ 1048576) : ((k : Int) * 5 + 3) % 256 = ((mark k).toNat : Int) := by
  unfold mark; rw [UInt8.toNat_ofNat']; omega
theorem OwnB.prefix_ {w : World} {base g n cap : Nat} {l : List UInt8} (h : OwnB w base (.slice (some ⟨g, 0, none⟩) n cap) l) (k : Nat) (hk : k ≤ l.length) : OwnB w base (.slice (some ⟨g, 0, none⟩) k cap) (l.take k) := by
  obtain ⟨h1, ⟨h2, _⟩ | ⟨g', cap', cur, e, hb, hg, hn, hm, hs, hc⟩⟩ := h
  · cases h2
  · injection e with e1 e2 e3
    injection e1 with e1
    injection e1 with e1
    subst e1 e3
    have hl : (l.take k).length = k := by rw [List.length_take]; omega
    refine ⟨by rw [hl]; simp; omega, .inr ⟨g, cap, cur, by rw [hl], hb, hg, by rw [hl]; omega, hm, hs, ?_⟩⟩
    rw [hl]
    have := congrArg (List.take k) hc
    rw [List.take_take, ← List.map_take] at this
    rw [show min k (l.length * 1) = k * 1 by omega] at this
    exact this
theorem own_fr {X : Nat → Prop} {w w' : World} {base e s n : Nat} {v : Value} {xs : List Value} (h : w.ownsRow base e s v n xs) (hf : Fr X w w') (hx : ∀ k, v.ownBlock = some k → ¬ X k) : w'.ownsRow base e s v n xs :=
  own_block h fun k hk => hf.block k (World.ownsRow.lt h k hk).2 (hx k hk)
theorem sl_fr {X : Nat → Prop} {w w1 : World} {v : Value} {l : List UInt8} (h : SlB w v l) (hf : Fr X w w1) (hx : ∀ k, v.ownBlock = some k → ¬ X k) : SlB w1 v l := by
  obtain ⟨A, c, rfl, h1, h2, h3⟩ := h
  refine ⟨A, c, rfl, h1, h2, fun h0 => ?_⟩
  obtain ⟨b, off, rfl, hc⟩ := h3 h0
  refine ⟨b, off, rfl, fun i hi => ?_⟩
  have hb := World.block_lt_of_cell? w _ (hc i hi)
  rw [World.cell?_of_block (w := w) (w' := w1) (a := ⟨b, off + i, none⟩) (hf.block b hb (hx b rfl)), hc i hi]
/-- a list that was handed out and written full of its mark -/
def Held (W : World) (ρ : Nat → Nat) (i : Nat) (u : Value) : Prop := ∃ n, n ≤ 140737488355328 ∧ SlB W u (List.replicate n (mark i)) ∧ ∀ k, u.ownBlock = some k → ρ k = 0 ∧ k < W.heap.size
/-- the law's book -/
structure Bk (W : World) (ρ : Nat → Nat) (gb : Nat) (lv mv : Value) (ls ms : List Value) : Prop where
  at_ : W.heap[gb]? = some (.cells #[lv, mv] 38 (0, 0))
  lo : W.ownsRow 0 28 1 lv ls.length ls
  mo : W.ownsRow 0 28 1 mv ms.length ms
  n : ms.length = ls.length
  el : ∀ (i : Nat) (u : Value), ls[i]? = some u → Held W ρ i u
  em : ∀ (i : Nat) (u : Value), ms[i]? = some u → Held W ρ i u
  rb : ρ gb = 1
  rl : ∀ k, lv.ownBlock = some k → ρ k = 2
  rm : ∀ k, mv.ownBlock = some k → ρ k = 3
theorem Held.fr {X : Nat → Prop} {W W' : World} {ρ : Nat → Nat} {i : Nat} {u : Value} (h : Held W ρ i u) (hf : Fr X W W') (hX : ∀ k, k < W.heap.size → X k → ρ k ≠ 0) : Held W' ρ i u := by
  obtain ⟨n, h0, h1, h2⟩ := h
  exact ⟨n, h0, sl_fr h1 hf (fun k hk hx => hX k (h2 k hk).2 hx (h2 k hk).1), fun k hk => ⟨(h2 k hk).1, Nat.lt_of_lt_of_le (h2 k hk).2 hf.size⟩⟩
theorem Bk.fr {X : Nat → Prop} {W W' : World} {ρ : Nat → Nat} {gb : Nat} {lv mv : Value} {ls ms : List Value} (h : Bk W ρ gb lv mv ls ms) (hf : Fr X W W') (hX : ∀ k, k < W.heap.size → X k → 4 ≤ ρ k) : Bk W' ρ gb lv mv ls ms :=
  ⟨blk_fr hf h.at_ (fun hx => by have := hX gb (blk_lt h.at_) hx; have := h.rb; omega), own_fr h.lo hf (fun k hk hx => by have := hX k (World.ownsRow.lt h.lo k hk).2 hx; have := h.rl k hk; omega), own_fr h.mo hf (fun k hk hx => by have := hX k (World.ownsRow.lt h.mo k hk).2 hx; have := h.rm k hk; omega), h.n,
    fun i u hi => (h.el i u hi).fr hf (fun k hk hx e => by have := hX k hk hx; omega), fun i u hi => (h.em i u hi).fr hf (fun k hk hx e => by have := hX k hk hx; omega), h.rb, h.rl, h.rm⟩
theorem Bk.role {W : World} {ρ ρ' : Nat → Nat} {gb : Nat} {lv mv : Value} {ls ms : List Value} (h : Bk W ρ gb lv mv ls ms) (hρ : ∀ k, k < W.heap.size → ρ' k = ρ k) : Bk W ρ' gb lv mv ls ms := by
  have key : ∀ i u, Held W ρ i u → Held W ρ' i u := fun i u ⟨n, h0, h1, h2⟩ => ⟨n, h0, h1, fun k hk => ⟨by rw [hρ k (h2 k hk).2]; exact (h2 k hk).1, (h2 k hk).2⟩⟩
  exact ⟨h.at_, h.lo, h.mo, h.n, fun i u hi => key i u (h.el i u hi), fun i u hi => key i u (h.em i u hi), by rw [hρ gb (blk_lt h.at_)]; exact h.rb, fun k hk => by rw [hρ k (World.ownsRow.lt h.lo k hk).2]; exact h.rl k hk, fun k hk => by rw [hρ k (World.ownsRow.lt h.mo k hk).2]; exact h.rm k hk⟩
theorem row_form {W : World} {e n : Nat} {v : Value} {xs : List Value} (h : W.ownsRow 0 e 1 v n xs) : ∃ A c, v = .slice A n c ∧ n ≤ c ∧ (0 < n → ∃ g, A = some ⟨g, 0, none⟩ ∧ ∀ (i : Nat) (u : Value), xs[i]? = some u → W.cell? ⟨g, i, none⟩ = some u) := by
  have h0 := h
  obtain ⟨hx, ⟨rfl, rfl⟩ | ⟨g, cap, cur, rfl, _, _, hc, _⟩⟩ := h
  · exact ⟨none, 0, rfl, Nat.le_refl _, fun h => absurd h (by omega)⟩
  · refine ⟨_, cap, rfl, hc, fun _ => ⟨g, rfl, fun i u hi => ?_⟩⟩
    have hil := (List.getElem?_eq_some_iff.1 hi).1
    rw [World.ownsRow.cellAt h0 i (by omega), hi]
set_option maxRecDepth 100000 in
set_option maxHeartbeats 2000000 in
theorem kept_any (W : World) (ρ : Nat → Nat) (gb : Nat) (lv mv : Value) (ls ms : List Value) (h : Bk W ρ gb lv mv ls ms) (hn : ls.length ≤ 1048576) :
    Calls Try.prog 14 #[.pointer (some ⟨gb, 0, none⟩)] W fun r w' => r = .returned (.bool true) ∧ w' = W := by
  have H := hid h
  have c0 : W.cell? ⟨gb, 0, none⟩ = some lv := by rw [blk_cell h.at_]; rfl
  have c1 : W.cell? ⟨gb, 1, none⟩ = some mv := by rw [blk_cell h.at_]; rfl
  obtain ⟨A, c, rfl, hc, hA⟩ := row_form h.lo
  obtain ⟨A2, c2, rfl, hc2, hA2⟩ := row_form h.mo
  have hml : ms.length = ls.length := h.n
  rw [hml] at c1 hc2 hA2
  have HA := hid hA
  have HA2 := hid hA2
  have HML := hid hml
  clear h hA hA2 hml
  go_enter Try.func14, Try.ntmps14
  go_wp2
  go_loop [3] (fun i => ∃ k : Nat, k ≤ ls.length ∧ i = .int .i64 k) (fun i => ls.length - (intOf i).toNat)
  case atStart => exact ⟨0, Nat.zero_le _, rfl⟩
  case round =>
    obtain ⟨k, hk, rfl⟩ := hrel
    by_cases hlt : k < ls.length
    · obtain ⟨g1, rfl, hcell⟩ := HA.out (by omega)
      obtain ⟨g2, rfl, hcell2⟩ := HA2.out (by omega)
      obtain ⟨u, hu⟩ : ∃ u, ls[k]? = some u := ⟨_, List.getElem?_eq_getElem hlt⟩
      obtain ⟨x, hx⟩ : ∃ x, ms[k]? = some x := ⟨_, List.getElem?_eq_getElem (by rw [HML.out]; exact hlt)⟩
      replace hcell := hcell k u hu
      replace hcell2 := hcell2 k x hx
      obtain ⟨n1, hn1, hs1, _⟩ := H.out.el k u hu
      obtain ⟨n2, hn2, hs2, _⟩ := H.out.em k x hx
      have hmk := mark_eq k (by omega)
      obtain ⟨m, hm⟩ : ∃ m, mark k = m := ⟨_, rfl⟩
      rw [hm] at hmk hs1 hs2
      obtain ⟨Au, cu, e1, hcu, _, hcl⟩ := hs1
      obtain ⟨Ax, cx, e2, hcx, _, hcl2⟩ := hs2
      rw [List.length_replicate] at e1 hcu hcl e2 hcx hcl2
      subst e1 e2
      have HC := hid hcl
      have HC2 := hid hcl2
      have hml := m.toNat_lt
      clear hu hx hm hcl hcl2
      go_wp2
      go_loop [5] (fun i => ∃ q : Nat, q ≤ n1 ∧ i = .int .i64 q) (fun i => n1 - (intOf i).toNat)
      case atStart => exact ⟨0, Nat.zero_le _, rfl⟩
      case round =>
        obtain ⟨q, hq, rfl⟩ := hrel
        by_cases hql : q < n1
        · obtain ⟨b, off, rfl, hcc⟩ := HC.out (by omega)
          replace hcc := hcc q hql
          rw [show (List.replicate n1 m).getD q 0 = m by simp [hql]] at hcc
          go_wp2
          go_round
          case rel => exact ⟨q + 1, by omega, by go_num⟩
          case measure => simp [intOf]; omega
        · go_wp2
          go_loop [6] (fun i => ∃ q : Nat, q ≤ n2 ∧ i = .int .i64 q) (fun i => n2 - (intOf i).toNat)
          case atStart => exact ⟨0, Nat.zero_le _, rfl⟩
          case round =>
            obtain ⟨q, hq, rfl⟩ := hrel
            by_cases hql : q < n2
            · obtain ⟨b, off, rfl, hcc⟩ := HC2.out (by omega)
              replace hcc := hcc q hql
              rw [show (List.replicate n2 m).getD q 0 = m by simp [hql]] at hcc
              go_wp2
              go_round
              case rel => exact ⟨q + 1, by omega, by go_num⟩
              case measure => simp [intOf]; omega
            · go_wp2
              go_round
              case rel => exact ⟨k + 1, by omega, by go_num⟩
              case measure => simp [intOf]; omega
    · go_wp2
      go_ret
      exact ⟨rfl, rfl⟩
end Go.Proofs.Ytamhlfhblgmhoaa
