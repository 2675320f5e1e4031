/- Bounds of shares and guesses. -/
import Derived.Test.YtilkkfpfcegncaaPure
namespace Go.Proofs.Ytilkkfpfcegncaa.R
theorem share_bd (p q n : Int) (hp : 0 ≤ p) (hq : 0 ≤ q) (hn : n ≤ 65536) : 0 ≤ share p q n ∧ share p q n ≤ 65536 ∧ (1 ≤ n → share p q n ≤ n) := by
  unfold share
  split
  · omega
  · rename_i h
    have h1 : 0 ≤ (if p ≤ q then p else q) * n := Int.mul_nonneg (by split <;> omega) (by omega)
    have h2 : (if p ≤ q then p else q) * n ≤ q * n := Int.mul_le_mul_of_nonneg_right (by split <;> omega) (by omega)
    have h3 : 0 ≤ (if p ≤ q then p else q) * n / q := Int.ediv_nonneg h1 hq
    have h4 : (if p ≤ q then p else q) * n / q ≤ q * n / q := Int.ediv_le_ediv (by omega) h2
    rw [Int.mul_ediv_cancel_left _ (by omega)] at h4
    omega
theorem gap_bd (a b : Int) (a1 : -9223372036854775808 ≤ a) (b2 : b ≤ 9223372036854775807) : 0 ≤ gap a b ∧ gap a b ≤ 18446744073709551615 := by
  unfold gap; split <;> omega
theorem guess_bd (a b k n : Int) : 0 ≤ guess a b k n ∧ guess a b k n ≤ 65537 ∧ (2 ≤ n → guess a b k n ≤ n) := by
  unfold guess
  split
  · omega
  · rename_i h
    have h1 := share_bd (gap a k) (gap a b) (n - 1) (by unfold gap; split <;> omega) (by unfold gap; split <;> omega) (by omega)
    omega
end Go.Proofs.Ytilkkfpfcegncaa.R
