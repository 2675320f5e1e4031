/- Of an Inner over any keys, and any key, the program's route goes access by access as the document's, for every input: the whole proof of RoutePlays, without conditions. -/
import Derived.Test.YtfgkgmfcbhbomaaGreatRow
import Derived.Test.YtfgkgmfcbhbomaaGreatPlays
namespace Go.Proofs.YtfgkgmfcbhbomaaGreat
open Go.ChangeShapes Go.WideShapes Go.ChangeAt Go.RowKit

set_option maxRecDepth 100000 in
theorem routePlays_lifted (os : Os) (started : os.Started) (H : Type) (enc : TypeId × Value → H) :
    ReturnsInHanded {} Tryz.checked os 3 .any (Rows.routePlaysSpec.pre6 enc Tryz.prog Tryz.f3 Rows.routePlaysRow.domain false) (Rows.routePlaysSpec.post enc Tryz.prog Tryz.f3 false true false false) := by
  refine returnsInHanded_of_change (C := Tryz.checked) row_own started (by kernel_rfl) Tryz.func3
    (ChangeSpec.witness6 (enc := enc) (C := Tryz.checked) false ⟨#[], #[.slice none 0 0, .int .i64 0, .int .i64 0], []⟩ 8 (by kernel_rfl) (by kernel_rfl) (by kernel_rfl) (by kernel_rfl)) ?_
  intro W base args ds gs before hval0 hW _ _
  have hval : ∀ (j : Nat) t v, Tryz.f3.params[j]? = some t → args[j]? = some v → Value.okWide Tryz.prog W .any base t v := hval0
  have hW' := hW
  obtain ⟨p, q, hA0, hV, rfl, _, _⟩ := hW
  have hA : DataW.TrodAll enc Tryz.prog W 0 (fun _ => true) true Tryz.f3.params.toList args.toList ds p := hA0
  rw [Tryz.params3] at hA hval
  obtain ⟨v0, v1, v2, d0, d1, d2, p0, p1, p2, rfl, rfl, rfl, h0, h1, h2⟩ := trodAll_three hA
  obtain ⟨rfl, rfl⟩ := trodVars_none hV
  obtain ⟨a, cap, xs, T, rfl, hR, hx, hl⟩ := open_row Tryz.underlying22 Tryz.underlying2 (by kernel_rfl) (hval 0 _ v0 rfl rfl) h0
  obtain ⟨n1, rfl, rfl, rfl, w1⟩ := open_int Tryz.underlying2 (hval 1 _ v1 rfl rfl) h1
  obtain ⟨n2, rfl, rfl, rfl, w2⟩ := open_int Tryz.underlying3 (hval 2 _ v2 rfl rfl) h2
  unfold maxLen at hl
  refine (plays_any T W a cap xs n1 n2 hR (by omega) hx (wf_i64 w1) (wf_i64 w2)).mono fun e W' ⟨he, hF⟩ => ?_
  subst he
  exact ⟨_, rfl, law_post row_laidOut rfl (by decide +kernel) hW' rfl rfl Tryz.underlying4 hF⟩

theorem routePlays_holds : Rows.RoutePlaysSaid :=
  OpenClaim.holds_of_wide 3 Tryz.f3 rfl rfl rfl rfl rfl rfl rfl ⟨rfl, rfl, rfl, rfl, rfl⟩ rfl rfl rfl rfl rfl (by kernel_rfl) Tryz.func3 (by kernel_rfl)
    (of_decide_eq_true (by kernel_rfl)) (by unfold Func.isWrapper; first | (rw [if_pos (by decide +kernel)]; kernel_rfl) | (rw [if_neg (by decide +kernel)]; exact ⟨rfl, rfl⟩))
    (fun os started H enc _ => routePlays_lifted os started H enc)
#print axioms routePlays_holds
end Go.Proofs.YtfgkgmfcbhbomaaGreat
