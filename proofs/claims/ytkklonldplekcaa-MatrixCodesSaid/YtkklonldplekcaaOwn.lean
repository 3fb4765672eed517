/- Append, with the place of what it tells; frames that name the blocks that may change. -/
import Derived.Test.YtkklonldplekcaaByt
import Derived.Laws.OwnMore
namespace Go.Proofs.Ytkklonldplekcaa
open Go.RowKit

/-- the blocks of the elder world but those in X are as they were -/
structure Fr (X : Nat → Prop) (w w' : World) : Prop where
  os : w'.os = w.os
  tape : w'.tape = w.tape
  output : w'.output = w.output
  size : w.heap.size ≤ w'.heap.size
  block : ∀ k, k < w.heap.size → ¬ X k → w'.heap[k]? = w.heap[k]?
theorem Fr.refl (X : Nat → Prop) (w : World) : Fr X w w := ⟨rfl, rfl, rfl, Nat.le_refl _, fun _ _ _ => rfl⟩
theorem Fr.trans {X : Nat → Prop} {a b c : World} (h : Fr X a b) (k : Fr (fun i => X i ∨ a.heap.size ≤ i) b c) : Fr X a c :=
  ⟨k.os.trans h.os, k.tape.trans h.tape, k.output.trans h.output, Nat.le_trans h.size k.size, fun i hi hx => (k.block i (Nat.lt_of_lt_of_le hi h.size) (by rintro (h | h); exact hx h; omega)).trans (h.block i hi hx)⟩
theorem Fr.mono {X Y : Nat → Prop} {a b : World} (h : Fr X a b) (hxy : ∀ k, k < a.heap.size → X k → Y k) : Fr Y a b :=
  ⟨h.os, h.tape, h.output, h.size, fun k hk hy => h.block k hk fun hx => hy (hxy k hk hx)⟩
theorem Fr.of_below {w w' : World} (h : Below w.heap.size w w') : Fr (fun _ => False) w w' := ⟨h.os, h.tape, h.output, h.size, fun k hk _ => h.block k hk⟩
theorem Fr.to_below {X : Nat → Prop} {B : Nat} {w w' : World} (h : Fr X w w') (hX : ∀ k, k < B → ¬ X k) (hB : B ≤ w.heap.size) : Below B w w' :=
  ⟨h.os, h.tape, h.output, h.size, fun k hk => h.block k (by omega) (hX k hk)⟩
theorem Fr.of_grown {w w' : World} {r : Option Nat} (h : w.grownBy w' r) : Fr (fun k => r = some k) w w' := ⟨h.os, h.tape, h.output, h.size, fun k hk hx => h.block k hk (fun e => hx e.symm)⟩
theorem Fr.set_ {w : World} {g : Nat} (i : Nat) (v : Value) : Fr (fun k => k = g) w (w.setCell ⟨g, i, none⟩ v) :=
  ⟨rfl, rfl, rfl, by simp, fun k hk hx => heap_setCell_other _ _ _ _ (by simpa using hx)⟩
theorem Fr.alloc (X : Nat → Prop) (w : World) (o : Obj) : Fr X w (w.alloc o) := (Fr.of_below ((Below.refl _ _).alloc (Nat.le_refl _) o)).mono fun _ _ h => h.elim
theorem OwnB.fr {X : Nat → Prop} {w w' : World} {base : Nat} {v : Value} {l : List UInt8} (h : OwnB w base v l) (hf : Fr X w w') (hx : ∀ k, v.ownBlock = some k → ¬ X k) : OwnB w' base v l :=
  own_block h fun k hk => hf.block k (World.ownsRow.lt h k hk).2 (hx k hk)
theorem blk_fr {X : Nat → Prop} {w w' : World} (hf : Fr X w w') {g : Nat} {o : Obj} (h : w.heap[g]? = some o) (hg : ¬ X g) : w'.heap[g]? = some o := (hf.block g (blk_lt h) hg).trans h

section
variable {P : Program} (w : World)
theorem run_app_at (base : Nat) (t ty e : TypeId) (i : TypeInfo) (z : Value) (size bytes : Nat) (ht : P.underlying t = some (.slice e)) (hi : P.info? e = some i) (hz : i.zero = some z)
    (hsize : i.size = size) (hby : i.bytes = bytes) (hzs : z.cells.size = size) (hsz : 0 < size)
    (v : Value) (n : Nat) (xs : List Value) (hown : w.ownsRow base e size v n xs)
    (a : Addr) (m c : Nat) (news : List Value) (hl : news.length = m * size) (hnews : ∀ j u, news[j]? = some u → w.cell? (a.add j) = some u) (h1 : ∀ u ∈ news, u.oneCell' = true)
    (h63 : n + m ≤ maxLen) (hbytes : (n + m) * bytes ≤ 140737488355328) (hbase : base ≤ w.heap.size) :
    ∃ v' w', (Builtin.append_ #[t, t] ty #[v, .slice (some a) m c]).run P w = .ok v' w' ∧ w'.ownsRow base e size v' (n + m) (xs ++ news) ∧ w.grownBy w' v.ownBlock ∧ (∀ k, v'.ownBlock = some k → v.ownBlock = some k ∨ w.heap.size ≤ k) := by
  have hown0 := hown
  obtain ⟨hxl, ⟨rfl, rfl⟩ | ⟨g, cap, cur, rfl, hbg, hg, hnc, hcm, hcs, htake⟩⟩ := hown
  · have hx : xs = [] := List.eq_nil_of_length_eq_zero (by simpa using hxl)
    subst hx
    obtain ⟨v', w', hr, h2, h3, _⟩ := run_append_own (P := P) w w.heap.size t ty e i z size bytes ht hi hz hsize hby hzs hsz _ _ _ (World.ownsRow_nil w _ e size) a m c news hl hnews h1 h63 hbytes (Nat.le_refl _)
    exact ⟨v', w', hr, own_base h2 hbase, h3, fun k hk => .inr (World.ownsRow.lt h2 k hk).1⟩
  · by_cases hroom : n + m ≤ cap
    · obtain ⟨w', hr, h2, h3⟩ := run_append_fits (P := P) w base t ty e i size ht hi hsize g n cap xs hown0 a m c news hl hnews h1 hroom
      exact ⟨_, w', hr, h2, h3, fun k hk => .inl hk⟩
    · obtain ⟨v', w', hr, h2, h3, _⟩ := run_append_own (P := P) w base t ty e i z size bytes ht hi hz hsize hby hzs hsz _ _ _ hown0 a m c news hl hnews h1 h63 hbytes hbase
      have hsmall : n + m ≤ 9223372036854775807 := by simp only [maxLen] at h63; omega
      have hr2 := run_append_grow (P := P) w t ty e i z ht hi hz ⟨g, 0, none⟩ n cap xs (by rw [hsize]; exact hxl) (hown0.cells (g := g) rfl) a m c news (by rw [hsize]; exact hl) hnews (by omega) (by omega) (growslice_fits (by omega) (by rw [hby]; exact hbytes))
      rw [hr] at hr2
      injection hr2 with e1 e2
      refine ⟨v', w', hr, h2, h3, fun k hk => .inr ?_⟩
      rw [e1] at hk
      simp only [Value.ownBlock, Option.some.injEq] at hk
      omega
end
set_option maxRecDepth 100000 in
/-- one-cell elements put behind an owned row: from any slice -/
theorem wpList_appX {w : World} {ops : Array Oper} {rest : List Oper} {o : Oper} {a : Act} {Q : Exit → Act → World → Prop} {e t : TypeId} {z : Value} {bytes : Nat} (hgd : o.guard = none) (s x : Operand)
    (ho : o.op = .call { callee := .builtin .append, args := #[s, x], argTypes := #[t, t] })
    (ht : Try.prog.underlying t = some (.slice e)) (hinfo : (Try.prog.info? e).map (fun i => (i.zero, i.size, i.bytes)) = some (some z, 1, bytes)) (hz : z.cells.size = 1)
    (base : Nat) (v u : Value) (n m : Nat) (xs : List Value) (f : Nat → Value) (hs : a.eval s = v) (hx : a.eval x = u) (hown : w.ownsRow base e 1 v n xs) (hu : Sl w u m f) (h1 : ∀ i, i < m → (f i).oneCell' = true)
    (hbytes : (n + m) * bytes ≤ 140737488355328) (hlen : n + m ≤ maxLen) (hbase : base ≤ w.heap.size)
    (h : ∀ v' w', w'.ownsRow base e 1 v' (n + m) (xs ++ (List.range m).map f) → w.grownBy w' v.ownBlock → (∀ k, v'.ownBlock = some k → v.ownBlock = some k ∨ w.heap.size ≤ k) → wpList Try.prog ops Q rest (a.put o.dst v') w') : wpList Try.prog ops Q (o :: rest) a w :=
  wpList_plain hgd fun _ hK => by
    obtain ⟨i, hi, hz0, hz1, hz2⟩ := info_parts hinfo
    obtain ⟨A, c, rfl, hc, hnil, hA⟩ := hu
    cases A with
    | none =>
      have hc0 := hnil rfl
      obtain rfl : m = 0 := by omega
      subst hc0
      have hrun := run_append_owned_none (P := Try.prog) (w := w) base t o.type e i 1 ht hi v n xs hown
      unfold Oper.wp
      simp [execOp, ho, resolve, invoke, builtin, hs, hx, hrun, Result.andThen]
      exact hK _ _ (h v w (by simpa using hown) ⟨rfl, rfl, rfl, Nat.le_refl _, fun _ _ _ => rfl⟩ (fun k hk => .inl hk))
    | some ad =>
      obtain ⟨v', w', hrun, r1, r2, r3⟩ := run_app_at (P := Try.prog) w base t o.type e i z 1 bytes ht hi hz0 hz1 hz2 hz (by decide) v n xs hown ad m c ((List.range m).map f) (by simp) (fun j u hj => by
        have hj' : j < m := by
          rcases Nat.lt_or_ge j m with h | h
          · exact h
          · rw [List.getElem?_eq_none (by simpa using h)] at hj; cases hj
        obtain ⟨b, off, e1, hcell⟩ := hA (by omega)
        injection e1 with e1
        subst e1
        have := hcell j hj'
        have e2 : (⟨b, off, none⟩ : Addr).add j = ⟨b, off + j, none⟩ := by
          unfold Addr.add; split <;> simp_all
        rw [e2, this]
        simp [hj'] at hj
        rw [hj]) (fun u hu => by
        obtain ⟨j, hj, rfl⟩ := List.mem_map.1 hu
        exact h1 j (List.mem_range.1 hj)) hlen hbytes hbase
      unfold Oper.wp
      simp [execOp, ho, resolve, invoke, builtin, hs, hx, hrun, Result.andThen]
      exact hK _ _ (h v' w' r1 r2 r3)
theorem wpList_appBX {w : World} {ops : Array Oper} {rest : List Oper} {o : Oper} {a : Act} {Q : Exit → Act → World → Prop} (hgd : o.guard = none) (s x : Operand)
    (ho : o.op = .call { callee := .builtin .append, args := #[s, x], argTypes := #[22, 22] })
    (base : Nat) (v u : Value) (l k : List UInt8) (hs : a.eval s = v) (hx : a.eval x = u) (hown : OwnB w base v l) (hu : SlB w u k) (hlen : l.length + k.length ≤ 140737488355328) (hbase : base ≤ w.heap.size)
    (h : ∀ v' w', OwnB w' base v' (l ++ k) → w.grownBy w' v.ownBlock → (∀ k, v'.ownBlock = some k → v.ownBlock = some k ∨ w.heap.size ≤ k) → wpList Try.prog ops Q rest (a.put o.dst v') w') : wpList Try.prog ops Q (o :: rest) a w :=
  wpList_appX hgd s x ho Try.underlying22 infoB rfl base v u l.length k.length (l.map B) _ hs hx hown hu (fun _ _ => rfl) (by omega) (by unfold maxLen; omega) hbase
    fun v' w' g1 g2 g3 => h v' w' (by unfold OwnB; rw [List.length_append, List.map_append]; rw [← map_range] at g1; exact g1) g2 g3
end Go.Proofs.Ytkklonldplekcaa
