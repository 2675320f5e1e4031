/- Rows that are read, cell by cell. -/
import Derived.Test.YtilkkfpfcegncaaOwn
set_option linter.unusedVariables false
namespace Go.Proofs.Ytilkkfpfcegncaa
open Go.RowKit

theorem Rd.cells_at {w : World} {T : TypeId} {a : Option Addr} {xs : List Value} (h : Rd w T a xs) (hne : xs ≠ []) : ∃ b off, a = some ⟨b, off, none⟩ ∧ ∀ j v, xs[j]? = some v → w.cell? ⟨b, off + j, none⟩ = some v := by
  rcases h with h | ⟨b, off, cs, fr, ha, hb, hc⟩
  · exact absurd h hne
  · refine ⟨b, off, ha, fun j v hj => ?_⟩
    have hlt : j < xs.length := by
      rcases Nat.lt_or_ge j xs.length with h' | h'
      · exact h'
      · rw [List.getElem?_eq_none h'] at hj; cases hj
    have e := hc j hlt
    rw [hj] at e
    simp [World.cell?, hb, e]
end Go.Proofs.Ytilkkfpfcegncaa
