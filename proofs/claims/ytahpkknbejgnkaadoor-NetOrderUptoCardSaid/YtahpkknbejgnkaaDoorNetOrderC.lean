/- An append of datagrams in a region that draws its order; one left out of a list, as the law does it. -/
import Derived.Test.YtahpkknbejgnkaaDoorNetR
namespace Go.Proofs.YtahpkknbejgnkaaDoor
open Go.RowKit
theorem step_appP {w : World} {ops : Array Oper} {o : Oper} {a : Act} {K : Act → World → Prop} {Q : Exit → Act → World → Prop} {E : Prop} (hgd : o.guard = none) (s x : Operand)
    (ho : o.op = .call { callee := .builtin .append, args := #[s, x], argTypes := #[25, 25] })
    (base : Nat) (v : Value) (n : Nat) (xs : List Value) (hs : a.eval s = v) (hown : w.ownsRow base 32 6 v n xs)
    (ad : Addr) (m c : Nat) (news : List Value) (hx : a.eval x = .slice (some ad) m c) (hl : news.length = m * 6) (hnews : ∀ j u, news[j]? = some u → w.cell? (ad.add j) = some u) (h1 : ∀ u ∈ news, u.oneCell' = true)
    (h63 : n + m ≤ 1099511627776) (hbase : base ≤ w.heap.size)
    (h : ∀ v' w', w'.ownsRow base 32 6 v' (n + m) (xs ++ news) → w.grownBy w' v.ownBlock → K (a.put o.dst v') w') :
    if Region.wanted o (yielded ops a.tmps) = true then Oper.wp Tryd.prog o a w K Q else E := by
  have hw : Region.wanted o (yielded ops a.tmps) = true := by simp [Region.wanted, hgd]
  rw [if_pos hw]
  obtain ⟨i, hi, hz0, hz1, hz2⟩ := info_parts infoK
  obtain ⟨v', w', hrun, r1, r2, _⟩ := run_append_own (P := Tryd.prog) w base 25 o.type 32 i _ 6 64 Tryd.underlying25 hi hz0 hz1 hz2 rfl (by decide) v n xs hown ad m c news hl hnews h1 (by unfold maxLen; omega) (by omega) hbase
  unfold Oper.wp
  simp [execOp, ho, resolve, invoke, builtin, hs, hx, hrun, Result.andThen]
  exact h v' w' r1 r2
theorem litP0 (w : World) : (w.alloc (.cells #[] 32)).ownsRow w.heap.size 32 6 (.slice (some ⟨w.heap.size, 0, none⟩) 0 0) 0 [] :=
  ⟨rfl, .inr ⟨w.heap.size, 0, #[], rfl, Nat.le_refl _, heap_alloc_new _ _, Nat.le_refl _, by decide, rfl, rfl⟩⟩
/-- the cells ahead of i, and those behind it, where the list lies -/
theorem PV.ahead {T I : Nat → Prop} {w : World} {g cap i : Nat} {vs : List Value} {P : List Pkt} (h : PV w T I (.slice (some ⟨g, 0, none⟩) P.length cap) vs P) (hi : i < P.length) :
    (∀ j u, ((pktCells vs P).take (i * 6))[j]? = some u → w.cell? ((⟨g, 0, none⟩ : Addr).add j) = some u) ∧ (∀ j u, ((pktCells vs P).drop ((i + 1) * 6))[j]? = some u → w.cell? ((⟨g, (i + 1) * 6, none⟩ : Addr).add j) = some u) ∧
    (∀ u ∈ (pktCells vs P).take (i * 6), u.oneCell' = true) ∧ (∀ u ∈ (pktCells vs P).drop ((i + 1) * 6), u.oneCell' = true) ∧ ((pktCells vs P).take (i * 6)).length = i * 6 ∧ ((pktCells vs P).drop ((i + 1) * 6)).length = (P.length - (i + 1)) * 6 := by
  obtain ⟨g', cap', e, _, _, _, _, hc⟩ := h.lies (by omega)
  injection e with e1 e2 e3
  injection e1 with e1
  injection e1 with e1
  subst e1
  have hl := pktCells_length vs P h.len
  refine ⟨fun j u hj => ?_, fun j u hj => ?_, fun u hu => h.one u (List.mem_of_mem_take hu), fun u hu => h.one u (List.mem_of_mem_drop hu), by rw [List.length_take, hl]; omega, by rw [List.length_drop, hl]; omega⟩
  · have hjl := (List.getElem?_eq_some_iff.1 hj).1
    rw [List.length_take] at hjl
    rw [List.getElem?_take_of_lt (by omega)] at hj
    have e : (⟨g, 0, none⟩ : Addr).add j = ⟨g, j, none⟩ := by unfold Addr.add; split <;> simp_all
    rw [e]; exact hc _ _ hj
  · rw [List.getElem?_drop] at hj
    have e : (⟨g, (i + 1) * 6, none⟩ : Addr).add j = ⟨g, (i + 1) * 6 + j, none⟩ := by unfold Addr.add; split <;> simp_all
    rw [e]; exact hc _ _ hj
end Go.Proofs.YtahpkknbejgnkaaDoor
