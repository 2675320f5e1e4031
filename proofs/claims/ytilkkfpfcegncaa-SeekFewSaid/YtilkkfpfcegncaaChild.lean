/- node.ChildAt of the program. -/
import Derived.Test.YtilkkfpfcegncaaNear
set_option linter.unusedVariables false
namespace Go.Proofs.Ytilkkfpfcegncaa
open Go.RowKit

theorem ichildAt_any (w : World) (n d i : Int) :
    Calls Try.prog 28 #[.int .i64 n, .int .i64 d, .int .i64 i] w fun e w' => e = .returned (.int .i64 (R.childAt n d i)) ∧ Fr [] w w' := by
  cases hx : [n, d, i].all R.within
  all_goals
    have HX := Lib.hid hx
    clear hx
    go_enter Try.func28, Try.ntmps28
    go_wp2_with fail
    refine (nearL_any _ w.heap.size 3 [n, d, i] rfl (by omega) (fun j hj => by rcases (by omega : j = 0 ∨ j = 1 ∨ j = 2) with rfl | rfl | rfl <;> exact (Blk.new w _ _).cell _)).mono ?_
    rintro e w' ⟨rfl, rfl⟩
    rw [HX.out]
  · go_wp2
    go_ret
    refine ⟨ret_int ?_, (Fr.refl [] w).alloc _⟩
    unfold R.childAt
    rw [if_neg (fun h => by have := HX.out; simp [h.1, h.2.1, h.2.2] at this)]
  · have hw : R.within n = true ∧ R.within d = true ∧ R.within i = true := by have := HX.out; simpa using this
    have HW := Lib.hid hw
    obtain ⟨a1, a2⟩ := (R.within_eq n).1 hw.1
    obtain ⟨d1, d2⟩ := (R.within_eq d).1 hw.2.1
    obtain ⟨b1, b2⟩ := (R.within_eq i).1 hw.2.2
    clear hw
    go_wp2
    go_ret
    refine ⟨ret_int ?_, (Fr.refl [] w).alloc _⟩
    unfold R.childAt
    rw [if_pos HW.out]
end Go.Proofs.Ytilkkfpfcegncaa
