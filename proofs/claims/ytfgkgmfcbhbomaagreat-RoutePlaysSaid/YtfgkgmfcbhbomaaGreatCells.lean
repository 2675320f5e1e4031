/- mem.Cells. -/
import Derived.Test.YtfgkgmfcbhbomaaGreatWords
set_option linter.unusedVariables false
namespace Go.Proofs.YtfgkgmfcbhbomaaGreat
open Go.RowKit
open R (MS)

theorem cells_any (w : World) (b : Nat) (v : Value) (M : MS) (H : MemAt w b v M) (hl : M.c.length ≤ 17592186044416) :
    Calls Tryz.prog 10 #[.pointer (some ⟨b, 0, none⟩)] w fun e w' => ∃ v', e = .returned v' ∧ w'.ownsRow 0 2 1 v' M.c.length (ints .i64 M.c) ∧ (∀ g, v'.ownBlock = some g → w.heap.size ≤ g) ∧ Fr [] w w' := by
  obtain ⟨hb, ho, hk⟩ := H
  obtain ⟨sa, cap, rfl, hr⟩ := own_Rd ho
  have hc := hb.cell
  have hf := hb.free
  go_enter Tryz.func10, Tryz.ntmps10
  go_wp2_with fail
  refine (clone_any _ _ _ _ hr hl).mono ?_
  rintro e w1 ⟨v', rfl, h1, h2, h3⟩
  go_wp2
  go_ret
  exact ⟨_, rfl, h1, h2, h3⟩
end Go.Proofs.YtfgkgmfcbhbomaaGreat
