/- Beside Open: an array of fourteen cells; the bulk of two parts. -/
import Derived.Test.YthadfebboagabaaDoorOpenL
namespace Go.Proofs.YthadfebboagabaaDoor
open Go.RowKit
theorem len14 {α : Type} {l : Array α} (h : l.toList.length = 14) : ∃ a b c d e f g i j k m n o p, l = #[a, b, c, d, e, f, g, i, j, k, m, n, o, p] := by
  obtain ⟨l⟩ := l
  match l, h with
  | [a, b, c, d, e, f, g, i, j, k, m, n, o, p], _ => exact ⟨a, b, c, d, e, f, g, i, j, k, m, n, o, p, rfl⟩
theorem bulk_at {H : Type} {l : List (DataW H)} {j : Nat} {b : DataW H} (hb : l[j]? = some b) : Rows.uptoBulk b ≤ Rows.uptoBulkAll l := by
  induction l generalizing j with
  | nil => simp at hb
  | cons x r ih =>
    cases j with
    | zero => simp at hb; subst hb; simp only [Rows.uptoBulkAll]; omega
    | succ j => have := ih (j := j) (by simpa using hb); simp only [Rows.uptoBulkAll]; omega
theorem bulk_two {H : Type} {l : List (DataW H)} {i j : Nat} {a b : DataW H} (h : i < j) (ha : l[i]? = some a) (hb : l[j]? = some b) : Rows.uptoBulk a + Rows.uptoBulk b ≤ Rows.uptoBulkAll l := by
  induction l generalizing i j with
  | nil => simp at ha
  | cons x r ih =>
    obtain ⟨j', rfl⟩ : ∃ j', j = j' + 1 := ⟨j - 1, by omega⟩
    have hb' : r[j']? = some b := by simpa using hb
    cases i with
    | zero => simp at ha; subst ha; have := bulk_at hb'; simp only [Rows.uptoBulkAll]; omega
    | succ i => have := ih (i := i) (j := j') (by omega) (by simpa using ha) hb'; simp only [Rows.uptoBulkAll]; omega
end Go.Proofs.YthadfebboagabaaDoor
