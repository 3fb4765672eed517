/- More words on slices of bytes that a call owns. -/
import Derived.Test.YtahpkknbejgnkaaDoorByt
namespace Go.Proofs.YtahpkknbejgnkaaDoor
open Go.RowKit
theorem OwnB.pre_ {w : World} {base g n cap : Nat} {l : List UInt8} (h : OwnB w base (.slice (some ⟨g, 0, none⟩) n cap) l) (k : Nat) (hk : k ≤ l.length) : OwnB w base (.slice (some ⟨g, 0, none⟩) k cap) (l.take k) := by
  obtain ⟨h1, ⟨h2, _⟩ | ⟨g', cap', cur, e, hb, hg, hn, hm, hs, hc⟩⟩ := h
  · cases h2
  · injection e with e1 e2 e3
    injection e1 with e1
    injection e1 with e1
    subst e1 e3
    have hl : (l.take k).length = k := by rw [List.length_take]; omega
    refine ⟨by rw [hl]; simp; omega, .inr ⟨g, cap, cur, by rw [hl], hb, hg, by rw [hl]; omega, hm, hs, ?_⟩⟩
    rw [hl]
    have := congrArg (List.take k) hc
    rw [List.take_take, ← List.map_take] at this
    rw [show min k (l.length * 1) = k * 1 by omega] at this
    exact this
end Go.Proofs.YtahpkknbejgnkaaDoor
