/- hand.Cut. -/
import Derived.Test.YtilkkfpfcegncaaCut0
set_option linter.unusedVariables false
namespace Go.Proofs.Ytilkkfpfcegncaa
open Go.RowKit

theorem cut_any (w : World) (n k : Int) (hk : 0 < k) (hk2 : k ≤ 9223372036854775807) :
    Calls Try.prog 4 #[.int .i64 n, .int .i64 k] w fun e w' => e = .returned (.int .i64 (R.cut n k)) ∧ w = w' := by
  have hk0 : (k == 0) = false := by rw [beq_eq_false_iff_ne]; omega
  have h1 := Int.tmod_lt_of_pos n hk
  have h2 : -k < n.tmod k := by have := Int.lt_tmod_of_pos n hk; omega
  have h3 : R.cut n k = if n.tmod k < 0 then n.tmod k + k else n.tmod k := by
    have e := Int.tmod_add_mul_tdiv n k
    generalize n.tmod k = t at *
    unfold R.cut
    rw [← e]
    split
    · rw [show t + k * n.tdiv k = (t + k) + k * (n.tdiv k - 1) from by rw [Int.mul_sub]; omega, Int.add_mul_emod_self_left]
      exact Int.emod_eq_of_lt (by omega) (by omega)
    · rw [Int.add_mul_emod_self_left]
      exact Int.emod_eq_of_lt (by omega) (by omega)
  obtain ⟨O, hO⟩ : ∃ O, R.cut n k = O := ⟨_, rfl⟩
  rw [hO]
  rw [hO] at h3
  have E := Lib.hid h3
  clear h3 hO
  go_enter Try.func4, Try.ntmps4
  go_wp2
  all_goals
    go_ret
    have e := E.out
    first
      | (rw [if_pos (by assumption)] at e; subst e; exact ⟨rfl, rfl⟩)
      | (rw [if_neg (by omega)] at e; subst e; exact ⟨rfl, rfl⟩)
end Go.Proofs.Ytilkkfpfcegncaa
