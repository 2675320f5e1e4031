/- plant. -/
import Derived.Test.YtilkkfpfcegncaaCellsOf
import Derived.Test.YtilkkfpfcegncaaSep0
import Derived.Test.YtilkkfpfcegncaaCut0
import Derived.Test.YtilkkfpfcegncaaNode
set_option linter.unusedVariables false
namespace Go.Proofs.Ytilkkfpfcegncaa
open Go.RowKit
open R (MS)

def madePost (w : World) (mb : Nat) (mv : Value) (x : Int) (M' : MS) (e : Ending) (w' : World) : Prop :=
  e = .returned (.int .i64 x) ∧ ∃ mv', MemAt w' mb mv' M' ∧ Same w mv mv' ∧ Fr (mb :: ownOf mv) w w'
theorem imade_any (w : World) (mb : Nat) (mv : Value) (M : MS) (k : Int) (W : List Int) (wa : Option Addr) (wc : Nat) (H : MemAt w mb mv M) (HW : Rd w 2 wa (ints .i64 W)) (hW : ∀ x ∈ W, R.I64 x) :
    Calls Try.prog 42 #[.pointer (some ⟨mb, 0, none⟩), .int .i64 k, .slice wa W.length wc] w (madePost w mb mv (R.of k (M.made W)) (M.make W)) := by
  obtain ⟨X, hX⟩ : ∃ X, M.made W = X := ⟨_, rfl⟩
  rw [hX]
  have HX := Lib.hid hX
  clear hX
  go_enter Try.func42, Try.ntmps42
  go_wp2_with fail
  refine (imake_any w mb mv M W wa wc H HW hW).mono ?_
  rintro e w1 ⟨rfl, mv', H1, hmv, F1⟩
  rw [HX.out]
  go_wp2_with fail
  refine (iof_any _ _ _).mono ?_
  rintro e w' ⟨rfl, rfl⟩
  go_wp2
  go_ret
  refine ⟨rfl, mv', H1, ?_, F1⟩
  rcases hmv with h | h
  · exact .inl h
  · exact .inr ⟨_, h, Nat.le_refl _⟩

theorem leafWords_any (w : World) (k v : Int) :
    Calls Try.prog 43 #[.int .i64 k, .int .i64 v] w fun e w' => e = .returned (.slice (some ⟨w.heap.size, 0, none⟩) 2 2) ∧ Rd w' 2 (some ⟨w.heap.size, 0, none⟩) (ints .i64 [k, v]) ∧ Fr [] w w' := by
  go_enter Try.func43, Try.ntmps43
  go_wp2
  go_ret
  refine ⟨rfl, .inr ⟨w.heap.size, 0, _, (0, 0), rfl, Blk.new w _ _, fun j hj => ?_⟩, (Fr.refl [] w).alloc _⟩
  have hj' : j < 2 := by simpa [ints] using hj
  rcases (by omega : j = 0 ∨ j = 1) with rfl | rfl <;> rfl
end Go.Proofs.Ytilkkfpfcegncaa
