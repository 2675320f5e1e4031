/- The references' Share, Guess. -/
import Derived.Test.YtfgkgmfcbhbomaaGreatLeaf
namespace Go.Proofs.YtfgkgmfcbhbomaaGreat
open Go.RowKit

theorem and_one_i64 (E : Int) (h0 : 0 ≤ E) (h1 : E ≤ 9223372036854775807) : bits BinOp.and IntKind.i64 E 1 = E % 2 := by
  obtain ⟨a, rfl⟩ := Int.eq_ofNat_of_zero_le h0
  have h2 : (BitVec.ofInt 64 (a : Int)).toNat = a := by
    rw [BitVec.ofInt_natCast, BitVec.toNat_ofNat]; exact Nat.mod_eq_of_lt (by omega)
  show IntKind.i64.wrap ((BitVec.ofInt 64 (a : Int) &&& BitVec.ofInt 64 (1 : Int)).toNat : Int) = _
  have h3 : (BitVec.ofInt 64 (1 : Int)).toNat = 1 := by decide
  rw [BitVec.toNat_and, h2, h3, Nat.and_one_is_mod, IntKind.wrap_i64]
  omega

namespace R
theorem share1 (Q q r p m : Int) (h : Q * q + r = p * (m / 2)) (hm : m % 2 = 0) : (2 * Q + 1) * q + (r - (q - r)) = p * m := by
  have : m = 2 * (m / 2) := by omega
  grind
theorem share2 (Q q r p m : Int) (h : Q * q + r = p * (m / 2)) (hm : ¬ m % 2 = 0) : (2 * Q + 1 + 1) * q + (r - (q - r) - (q - p)) = p * m := by
  have : m = 2 * (m / 2) + 1 := by omega
  grind
theorem share2' (Q q r m : Int) (h : Q * q + r = q * (m / 2)) (hm : ¬ m % 2 = 0) : (2 * Q + 1 + 1) * q + (r - (q - r)) = q * m := by
  have : m = 2 * (m / 2) + 1 := by omega
  grind
theorem share5' (Q q r m : Int) (h : Q * q + r = q * (m / 2)) (hm : ¬ m % 2 = 0) : (2 * Q + 1) * q + (r + r) = q * m := by
  have : m = 2 * (m / 2) + 1 := by omega
  grind
theorem share3 (Q q r p m : Int) (h : Q * q + r = p * (m / 2)) (hm : ¬ m % 2 = 0) : (2 * Q + 1) * q + (r - (q - r) + p) = p * m := by
  have : m = 2 * (m / 2) + 1 := by omega
  grind
theorem share4 (Q q r p m : Int) (h : Q * q + r = p * (m / 2)) (hm : m % 2 = 0) : 2 * Q * q + (r + r) = p * m := by
  have : m = 2 * (m / 2) := by omega
  grind
theorem share5 (Q q r p m : Int) (h : Q * q + r = p * (m / 2)) (hm : ¬ m % 2 = 0) : (2 * Q + 1) * q + (r + r - (q - p)) = p * m := by
  have : m = 2 * (m / 2) + 1 := by omega
  grind
theorem share6 (Q q r p m : Int) (h : Q * q + r = p * (m / 2)) (hm : ¬ m % 2 = 0) : 2 * Q * q + (r + r + p) = p * m := by
  have : m = 2 * (m / 2) + 1 := by omega
  grind
theorem share_end (Q q p r n : Int) (h : Q * q + r = p * n) (hr : 0 ≤ r) (hr' : r < q) : Q = p * n / q := by
  rw [← h, Int.add_comm, Int.add_mul_ediv_right _ _ (by omega)]
  rw [Int.ediv_eq_zero_of_lt hr hr']; omega
theorem share_le (Q q p r n : Int) (h : Q * q + r = p * n) (hr : 0 ≤ r) (hq : 0 < q) (hp : p ≤ q) (hn : 0 ≤ n) : Q ≤ n := by
  have h1 : p * n ≤ q * n := Int.mul_le_mul_of_nonneg_right hp hn
  have h2 : Q * q ≤ n * q := by grind
  exact Int.le_of_mul_le_mul_right h2 hq
theorem share_bd (p q n : Int) (hp : 0 ≤ p) (hq : 0 ≤ q) (hn : n ≤ 65536) : 0 ≤ share p q n ∧ share p q n ≤ 65536 ∧ (1 ≤ n → share p q n ≤ n) := by
  unfold share
  split
  · omega
  · rename_i h
    have h1 : 0 ≤ (if p ≤ q then p else q) * n := Int.mul_nonneg (by split <;> omega) (by omega)
    have h2 : (if p ≤ q then p else q) * n ≤ q * n := Int.mul_le_mul_of_nonneg_right (by split <;> omega) (by omega)
    have h3 : 0 ≤ (if p ≤ q then p else q) * n / q := Int.ediv_nonneg h1 hq
    have h4 : (if p ≤ q then p else q) * n / q ≤ q * n / q := Int.ediv_le_ediv (by omega) h2
    rw [Int.mul_ediv_cancel_left _ (by omega)] at h4
    omega
theorem gap_bd (a b : Int) (a1 : -9223372036854775808 ≤ a) (b2 : b ≤ 9223372036854775807) : 0 ≤ gap a b ∧ gap a b ≤ 18446744073709551615 := by
  unfold gap; split <;> omega
theorem guess_bd (a b k n : Int) : 0 ≤ guess a b k n ∧ guess a b k n ≤ 65537 ∧ (2 ≤ n → guess a b k n ≤ n) := by
  unfold guess
  split
  · omega
  · rename_i h
    have h1 := share_bd (gap a k) (gap a b) (n - 1) (by unfold gap; split <;> omega) (by unfold gap; split <;> omega) (by omega)
    omega
end R

namespace R
theorem bit_of (n b : Int) (n0 : 0 ≤ n) (n1 : n ≤ 65536) : bits BinOp.and IntKind.i64 (n / 2 ^ b.toNat) 1 = (n / 2 ^ b.toNat) % 2 := by
  have h1 : 0 ≤ n / 2 ^ b.toNat := Int.ediv_nonneg n0 (Int.pow_nonneg (by omega))
  have h2 : n / 2 ^ b.toNat ≤ n := Int.ediv_le_self _ n0
  exact and_one_i64 _ h1 (by omega)
theorem next_bit (n b : Int) (h : 0 ≤ b) : n / 2 ^ (b + 1).toNat = n / 2 ^ b.toNat / 2 := by
  rw [show (b + 1).toNat = b.toNat + 1 from by omega, Int.pow_succ, Int.ediv_ediv_of_nonneg (by exact Int.pow_nonneg (by omega))]
theorem top_bit (n : Int) (n0 : 0 ≤ n) (n1 : n ≤ 65536) : n / 2 ^ (16 + 1 : Int).toNat = 0 := by
  show n / 131072 = 0
  omega

end R
set_option maxHeartbeats 1000000 in
theorem share_lo (w : World) (p q n : Int) (p1 : 0 ≤ p) (hle : p ≤ q) (q1 : 1 ≤ q) (q2 : q ≤ 18446744073709551615) (n1 : 1 ≤ n) (n2 : n ≤ 65536) :
    Calls Tryz.prog 111 #[.int .u64 p, .int .u64 q, .int .i64 n] w fun e w' => e = .returned (.int .i64 (p * n / q)) ∧ w = w' := by
  have hq0 : (q == 0) = false := by rw [beq_eq_false_iff_ne]; omega
  have hn0 : decide (n < 1) = false := by simp; omega
  have hn1 : decide (65536 < n) = false := by simp; omega
  go_enter Tryz.func111, Tryz.ntmps111
  go_wp2
  go_loop [7, 8, 9] (fun Q r b => ∃ Q' r' b' : Int, Q = .int .i64 Q' ∧ r = .int .u64 r' ∧ b = .int .i64 b' ∧ -1 ≤ b' ∧ b' ≤ 16 ∧ 0 ≤ Q' ∧ 0 ≤ r' ∧ r' < q ∧ Q' * q + r' = p * (n / 2 ^ (b' + 1).toNat)) (fun _ _ b => (intOf b + 1).toNat)
  case atStart => exact ⟨0, 0, 16, rfl, rfl, rfl, by omega, by omega, by omega, by omega, by omega, by rw [R.top_bit n (by omega) n2]; simp⟩
  case round =>
    obtain ⟨Q, r, b, rfl, rfl, rfl, hb1, hb2, hQ1, hr1, hr2, HI⟩ := hrel
    by_cases hb : 0 ≤ b
    · have HB := Lib.hid (R.bit_of n b (by omega) n2)
      have hd1 : 0 ≤ n / 2 ^ b.toNat / 2 := by have : 0 ≤ n / 2 ^ b.toNat := Int.ediv_nonneg (by omega) (Int.pow_nonneg (by omega)); omega
      have hd2 : n / 2 ^ b.toNat / 2 ≤ 65536 := by have : n / 2 ^ b.toNat ≤ n := Int.ediv_le_self _ (by omega); omega
      rw [R.next_bit n b hb] at HI
      have hQ2 : Q ≤ 65536 := Int.le_trans (R.share_le Q q p r _ HI hr1 (by omega) (by omega) hd1) hd2
      have H2 := Lib.hid HI
      clear HI hd1 hd2
      go_wp2
      · rename_i h1 h2; rw [HB.out] at h2; have h2 := of_decide_eq_true h2
        exact ⟨⟨_, _, _, rfl, rfl, rfl, by omega, by omega, by omega, by omega, by omega, by rw [show b - 1 + 1 = b from by omega]; exact R.share1 _ _ _ _ _ H2.out h2⟩, by simp [intOf]; omega⟩
      · rename_i h1 h2 h3; rw [HB.out] at h2; have h2 := of_decide_eq_false h2
        exact ⟨⟨_, _, _, rfl, rfl, rfl, by omega, by omega, by omega, by omega, by omega, by rw [show b - 1 + 1 = b from by omega]; exact R.share2 _ _ _ _ _ H2.out h2⟩, by simp [intOf]; omega⟩
      · rename_i h1 h2 h3; rw [HB.out] at h2; have h2 := of_decide_eq_false h2
        exact ⟨⟨_, _, _, rfl, rfl, rfl, by omega, by omega, by omega, by omega, by omega, by rw [show b - 1 + 1 = b from by omega]; exact R.share3 _ _ _ _ _ H2.out h2⟩, by simp [intOf]; omega⟩
      · rename_i h1 h2; rw [HB.out] at h2; have h2 := of_decide_eq_true h2
        exact ⟨⟨_, _, _, rfl, rfl, rfl, by omega, by omega, by omega, by omega, by omega, by rw [show b - 1 + 1 = b from by omega]; exact R.share4 _ _ _ _ _ H2.out h2⟩, by simp [intOf]; omega⟩
      · rename_i h1 h2 h3; rw [HB.out] at h2; have h2 := of_decide_eq_false h2
        exact ⟨⟨_, _, _, rfl, rfl, rfl, by omega, by omega, by omega, by omega, by omega, by rw [show b - 1 + 1 = b from by omega]; exact R.share5 _ _ _ _ _ H2.out h2⟩, by simp [intOf]; omega⟩
      · rename_i h1 h2 h3; rw [HB.out] at h2; have h2 := of_decide_eq_false h2
        exact ⟨⟨_, _, _, rfl, rfl, rfl, by omega, by omega, by omega, by omega, by omega, by rw [show b - 1 + 1 = b from by omega]; exact R.share6 _ _ _ _ _ H2.out h2⟩, by simp [intOf]; omega⟩
    · have H2 := Lib.hid HI
      clear HI
      go_wp2
      go_ret
      have hb0 : b = -1 := by omega
      refine ⟨ret_int ?_, rfl⟩
      have H3 := H2.out
      rw [hb0] at H3
      simp only [Int.reduceAdd, Int.reduceNeg, Int.toNat_zero, Int.pow_zero, Int.ediv_one] at H3
      exact R.share_end _ _ _ _ _ H3 hr1 hr2
set_option maxHeartbeats 1000000 in
theorem share_hi (w : World) (p q n : Int) (p2 : p ≤ 18446744073709551615) (hle : q < p) (q1 : 1 ≤ q) (q2 : q ≤ 18446744073709551615) (n1 : 1 ≤ n) (n2 : n ≤ 65536) :
    Calls Tryz.prog 111 #[.int .u64 p, .int .u64 q, .int .i64 n] w fun e w' => e = .returned (.int .i64 (q * n / q)) ∧ w = w' := by
  have hq0 : (q == 0) = false := by rw [beq_eq_false_iff_ne]; omega
  have hn0 : decide (n < 1) = false := by simp; omega
  have hn1 : decide (65536 < n) = false := by simp; omega
  go_enter Tryz.func111, Tryz.ntmps111
  go_wp2
  go_loop [7, 8, 9] (fun Q r b => ∃ Q' r' b' : Int, Q = .int .i64 Q' ∧ r = .int .u64 r' ∧ b = .int .i64 b' ∧ -1 ≤ b' ∧ b' ≤ 16 ∧ 0 ≤ Q' ∧ 0 ≤ r' ∧ r' < q ∧ Q' * q + r' = q * (n / 2 ^ (b' + 1).toNat)) (fun _ _ b => (intOf b + 1).toNat)
  case atStart => exact ⟨0, 0, 16, rfl, rfl, rfl, by omega, by omega, by omega, by omega, by omega, by rw [R.top_bit n (by omega) n2]; simp⟩
  case round =>
    obtain ⟨Q, r, b, rfl, rfl, rfl, hb1, hb2, hQ1, hr1, hr2, HI⟩ := hrel
    by_cases hb : 0 ≤ b
    · have HB := Lib.hid (R.bit_of n b (by omega) n2)
      have hd1 : 0 ≤ n / 2 ^ b.toNat / 2 := by have : 0 ≤ n / 2 ^ b.toNat := Int.ediv_nonneg (by omega) (Int.pow_nonneg (by omega)); omega
      have hd2 : n / 2 ^ b.toNat / 2 ≤ 65536 := by have : n / 2 ^ b.toNat ≤ n := Int.ediv_le_self _ (by omega); omega
      rw [R.next_bit n b hb] at HI
      have hQ2 : Q ≤ 65536 := Int.le_trans (R.share_le Q q q r _ HI hr1 (by omega) (by omega) hd1) hd2
      have H2 := Lib.hid HI
      clear HI hd1 hd2
      go_wp2
      · rename_i h1 h2; rw [HB.out] at h2; have h2 := of_decide_eq_true h2
        exact ⟨⟨_, _, _, rfl, rfl, rfl, by omega, by omega, by omega, by omega, by omega, by rw [show b - 1 + 1 = b from by omega]; exact R.share1 _ _ _ _ _ H2.out h2⟩, by simp [intOf]; omega⟩
      · rename_i h1 h2 h3; rw [HB.out] at h2; have h2 := of_decide_eq_false h2
        exact ⟨⟨_, _, _, rfl, rfl, rfl, by omega, by omega, by omega, by omega, by omega, by rw [show b - 1 + 1 = b from by omega]; exact R.share2' _ _ _ _ H2.out h2⟩, by simp [intOf]; omega⟩
      · rename_i h1 h2; rw [HB.out] at h2; have h2 := of_decide_eq_true h2
        exact ⟨⟨_, _, _, rfl, rfl, rfl, by omega, by omega, by omega, by omega, by omega, by rw [show b - 1 + 1 = b from by omega]; exact R.share4 _ _ _ _ _ H2.out h2⟩, by simp [intOf]; omega⟩
      · rename_i h1 h2 h3; rw [HB.out] at h2; have h2 := of_decide_eq_false h2
        exact ⟨⟨_, _, _, rfl, rfl, rfl, by omega, by omega, by omega, by omega, by omega, by rw [show b - 1 + 1 = b from by omega]; exact R.share5' _ _ _ _ H2.out h2⟩, by simp [intOf]; omega⟩
    · have H2 := Lib.hid HI
      clear HI
      go_wp2
      go_ret
      have hb0 : b = -1 := by omega
      refine ⟨ret_int ?_, rfl⟩
      have H3 := H2.out
      rw [hb0] at H3
      simp only [Int.reduceAdd, Int.reduceNeg, Int.toNat_zero, Int.pow_zero, Int.ediv_one] at H3
      exact R.share_end _ _ _ _ _ H3 hr1 hr2

theorem share_any (w : World) (p q n : Int) (p1 : 0 ≤ p) (p2 : p ≤ 18446744073709551615) (q1 : 0 ≤ q) (q2 : q ≤ 18446744073709551615) :
    Calls Tryz.prog 111 #[.int .u64 p, .int .u64 q, .int .i64 n] w fun e w' => e = .returned (.int .i64 (R.share p q n)) ∧ w = w' := by
  by_cases h : q = 0 ∨ n < 1 ∨ 65536 < n
  · have hr : R.share p q n = 0 := by unfold R.share; rw [if_pos h]
    rw [hr]
    by_cases hq : q = 0
    · have hq0 : (q == 0) = true := by rw [beq_iff_eq]; exact hq
      clear h hq hr
      go_enter Tryz.func111, Tryz.ntmps111
      go_wp2
      go_ret
      exact ⟨rfl, rfl⟩
    · have hq0 : (q == 0) = false := by rw [beq_eq_false_iff_ne]; exact hq
      rcases Int.lt_or_le n 1 with hn | hn
      · clear h hq hr
        go_enter Tryz.func111, Tryz.ntmps111
        go_wp2
        go_ret
        exact ⟨rfl, rfl⟩
      · have hn2 : 65536 < n := by omega
        clear h hq hr
        go_enter Tryz.func111, Tryz.ntmps111
        go_wp2
        go_ret
        exact ⟨rfl, rfl⟩
  · have hr : R.share p q n = (if p ≤ q then p else q) * n / q := by unfold R.share; rw [if_neg h]
    rw [hr]
    by_cases hle : p ≤ q
    · rw [if_pos hle]; exact share_lo w p q n p1 hle (by omega) q2 (by omega) (by omega)
    · rw [if_neg hle]; exact share_hi w p q n p2 (by omega) (by omega) q2 (by omega) (by omega)

theorem guess_any (w : World) (a b k n : Int) (a1 : -9223372036854775808 ≤ a) (a2 : a ≤ 9223372036854775807) (b1 : -9223372036854775808 ≤ b) (b2 : b ≤ 9223372036854775807) (k1 : -9223372036854775808 ≤ k) (k2 : k ≤ 9223372036854775807)
    (n1 : -9223372036854775808 ≤ n) (n2 : n ≤ 9223372036854775807) :
    Calls Tryz.prog 86 #[.int .i64 a, .int .i64 b, .int .i64 k, .int .i64 n] w fun e w' => e = .returned (.int .i64 (R.guess a b k n)) ∧ w = w' := by
  by_cases h : n < 2 ∨ 65536 < n ∨ k < a ∨ b ≤ k
  · have hr : R.guess a b k n = 0 := by unfold R.guess; rw [if_pos h]
    rw [hr]
    have H := Lib.hid h
    clear h hr
    go_enter Tryz.func86, Tryz.ntmps86
    go_wp2_with fail
    all_goals first | (go_ret; exact ⟨rfl, rfl⟩) | (exfalso; have := H.out; omega)
  · have hr : R.guess a b k n = 1 + R.share (R.gap a k) (R.gap a b) (n - 1) := by unfold R.guess; rw [if_neg h]
    rw [hr]
    clear hr
    have h1 : 2 ≤ n := by omega
    have h2 : n ≤ 65536 := by omega
    have h3 : a ≤ k := by omega
    have h4 : k < b := by omega
    clear h
    obtain ⟨X, hX⟩ : ∃ X, X = R.share (R.gap a k) (R.gap a b) (n - 1) := ⟨_, rfl⟩
    have hb := R.share_bd (R.gap a k) (R.gap a b) (n - 1) (R.gap_bd a k a1 k2).1 (R.gap_bd a b a1 b2).1 (by omega)
    rw [← hX] at hb ⊢
    obtain ⟨hb1, hb2, hb3⟩ := hb
    have HX := Lib.hid hX
    clear hX hb3
    go_enter Tryz.func86, Tryz.ntmps86
    go_wp2_with fail
    refine (gap_any _ _ _ a1 a2 k1 k2).mono ?_
    rintro e w' ⟨rfl, rfl⟩
    go_wp2_with fail
    refine (gap_any _ _ _ a1 a2 b1 b2).mono ?_
    rintro e w' ⟨rfl, rfl⟩
    go_wp2_with fail
    refine (share_any _ _ _ _ (R.gap_bd a k a1 k2).1 (R.gap_bd a k a1 k2).2 (R.gap_bd a b a1 b2).1 (R.gap_bd a b a1 b2).2).mono ?_
    rintro e w' ⟨rfl, rfl⟩
    rw [← HX.out]
    go_wp2
    go_ret
    exact ⟨rfl, rfl⟩
end Go.Proofs.YtfgkgmfcbhbomaaGreat
