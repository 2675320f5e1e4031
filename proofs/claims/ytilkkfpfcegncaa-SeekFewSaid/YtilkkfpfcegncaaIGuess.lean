/- span.Gap, probe.Guess of the program. -/
import Derived.Test.YtilkkfpfcegncaaNear
import Derived.Test.YtilkkfpfcegncaaDiv
set_option linter.unusedVariables false
namespace Go.Proofs.Ytilkkfpfcegncaa
open Go.RowKit

theorem igap_any (w : World) (a b : Int) (a1 : -9223372036854775808 ≤ a) (a2 : a ≤ 9223372036854775807) (b1 : -9223372036854775808 ≤ b) (b2 : b ≤ 9223372036854775807) :
    Calls Try.prog 70 #[.int .i64 a, .int .i64 b] w fun e w' => e = .returned (.int .u64 (R.gap a b)) ∧ w = w' := by
  go_enter Try.func70, Try.ntmps70
  go_wp2
  all_goals
    go_ret
    refine ⟨ret_int ?_, rfl⟩
    unfold R.gap
    first | (rw [if_pos (by omega)]; done) | (rw [if_neg (by omega), IntKind.wrap_u64, IntKind.wrap_u64, IntKind.wrap_u64]; omega)

theorem div_lo (w : World) (lo y : Int) (y0 : 1 ≤ y) (y1 : y ≤ 18446744073709551615) (l0 : 0 ≤ lo) (l1 : lo ≤ 18446744073709551615) :
    Calls Try.prog 72 #[.int .u64 0, .int .u64 lo, .int .u64 y] w fun e w' => e = .returned (.tuple #[.int .u64 (lo / y), .int .u64 (lo % y)]) ∧ ∃ n, w' = w.drewN n := by
  have t0 : (y == 0) = false := by rw [beq_eq_false_iff_ne]; omega
  have t2 : y ≠ 0 := by omega
  have d1 : 0 ≤ lo / y := Int.ediv_nonneg l0 (by omega)
  have d2 : lo / y ≤ lo := Int.ediv_le_self _ l0
  have d3 : lo.tdiv y = lo / y := Int.tdiv_eq_ediv_of_nonneg l0
  have d4 : lo.tmod y = lo % y := Int.tmod_eq_emod_of_nonneg l0
  have d5 : 0 ≤ lo % y := Int.emod_nonneg _ t2
  have d6 : lo % y ≤ 18446744073709551615 := by have := Int.emod_lt_of_pos lo (by omega : 0 < y); omega
  have d7 : IntKind.u64.wrap (lo / y) = lo / y := by rw [IntKind.wrap_u64]; exact Int.emod_eq_of_lt d1 (by omega)
  have d8 : IntKind.u64.wrap (lo % y) = lo % y := by rw [IntKind.wrap_u64]; exact Int.emod_eq_of_lt d5 (by omega)
  go_enter Try.func72, Try.ntmps72
  go_wp2_with fail
  go_quiet (fail)
  go_wp2_with fail
  go_ret2
  exact ⟨rfl, _, rfl⟩

set_option maxHeartbeats 1000000 in
theorem ishare_any (w : World) (p q n : Int) (p1 : 0 ≤ p) (p2 : p ≤ 18446744073709551615) (q1 : 0 ≤ q) (q2 : q ≤ 18446744073709551615) (n1 : -9223372036854775808 ≤ n) (n2 : n ≤ 9223372036854775807) :
    Calls Try.prog 69 #[.int .u64 p, .int .u64 q, .int .i64 n] w fun e w' => e = .returned (.int .i64 (R.share p q n)) ∧ ∃ m, w' = w.drewN m := by
  by_cases h : q = 0 ∨ n < 1 ∨ 65536 < n
  · have hr : R.share p q n = 0 := by unfold R.share; rw [if_pos h]
    rw [hr]
    have H := Lib.hid h
    clear h hr
    by_cases hq : q = 0
    · have t : (q == 0) = true := by simpa using hq
      clear hq H
      go_enter Try.func69, Try.ntmps69
      go_wp2_with fail
      go_ret
      exact ⟨rfl, 0, rfl⟩
    · have t : (q == 0) = false := by simpa using hq
      have hq' : 0 < q := by omega
      clear hq
      go_enter Try.func69, Try.ntmps69
      go_wp2_with fail
      all_goals first | (go_ret; exact ⟨rfl, 0, rfl⟩) | (exfalso; have := H.out; omega)
  · have h1 : 1 ≤ q := by omega
    have h2 : 1 ≤ n := by omega
    have h3 : n ≤ 65536 := by omega
    have t : (q == 0) = false := by simp; omega
    have hr : R.share p q n = (if p ≤ q then p else q) * n / q := by unfold R.share; rw [if_neg h]
    have hb := (R.share_bd p q n p1 q1 h3).1
    have hb2 := (R.share_bd p q n p1 q1 h3).2.1
    obtain ⟨X, hX⟩ : ∃ X, R.share p q n = X := ⟨_, rfl⟩
    rw [hX] at hr hb hb2
    rw [hX]
    obtain ⟨m, hm⟩ : ∃ m, (if p ≤ q then p else q) = m := ⟨_, rfl⟩
    rw [hm] at hr
    have hmq : m ≤ q := by rw [← hm]; split <;> omega
    have hm0 : 0 ≤ m := by rw [← hm]; split <;> omega
    have hmin : min p q = m := by rw [← hm]; split <;> omega
    obtain ⟨mn, rfl⟩ := Int.eq_ofNat_of_zero_le hm0
    obtain ⟨nn, rfl⟩ := Int.eq_ofNat_of_zero_le (by omega : 0 ≤ n)
    have hprod : mn * nn ≤ q.toNat * 65536 := Nat.mul_le_mul (by omega) (by omega)
    have hH : mn * nn / 18446744073709551616 < q.toNat := by rw [Nat.div_lt_iff_lt_mul (by decide)]; omega
    have hL : mn * nn % 18446744073709551616 < 18446744073709551616 := Nat.mod_lt _ (by decide)
    have hD : mn * nn = mn * nn / 18446744073709551616 * 18446744073709551616 + mn * nn % 18446744073709551616 := by omega
    have hr2 : X = (((mn * nn / 18446744073709551616 : Nat) : Int) * 18446744073709551616 + ((mn * nn % 18446744073709551616 : Nat) : Int)) / q := by
      rw [hr]; congr 1
      have : ((mn * nn : Nat) : Int) = (mn : Int) * (nn : Int) := by simp
      omega
    obtain ⟨hi, hhi⟩ : ∃ z, mn * nn / 18446744073709551616 = z := ⟨_, rfl⟩
    obtain ⟨lo, hlo⟩ : ∃ z, mn * nn % 18446744073709551616 = z := ⟨_, rfl⟩
    rw [hhi] at hH hr2
    rw [hlo] at hL hr2
    have H1 := Lib.hid hhi
    have H2 := Lib.hid hlo
    have H3 := Lib.hid hr2
    have e1 : ((nn : Int) % 18446744073709551616) = (nn : Int) := by omega
    clear h hr hm hD hr2 hprod hhi hlo hX
    go_enter Try.func69, Try.ntmps69
    go_wp2_with fail
    refine (Try.bits_Mul64 mn nn (by omega) (by omega) _).mono ?_
    rintro e w' ⟨rfl, hw⟩
    subst w'
    rw [H1.out, H2.out]
    rcases Nat.eq_zero_or_pos hi with h0 | h0
    · subst h0
      go_wp2_with fail
      refine (div_lo _ (lo : Int) q (by omega) q2 (by omega) (by omega)).mono ?_
      rintro e w' ⟨rfl, k, rfl⟩
      rw [show ((0 : Nat) : Int) * 18446744073709551616 + (lo : Int) = (lo : Int) from by omega] at H3
      rw [← H3.out]
      go_wp2
      go_ret
      exact ⟨rfl, _, rfl⟩
    · go_wp2_with fail
      refine (div_any _ (hi : Int) (lo : Int) q (by omega) (by omega) q2 (by omega) (by omega)).mono ?_
      rintro e w' ⟨r, rfl, hw⟩
      subst w'
      rw [← H3.out]
      go_wp2
      go_ret
      exact ⟨rfl, 0, rfl⟩

theorem iguess_any (w : World) (a b k n : Int) (a1 : -9223372036854775808 ≤ a) (a2 : a ≤ 9223372036854775807) (b1 : -9223372036854775808 ≤ b) (b2 : b ≤ 9223372036854775807) (k1 : -9223372036854775808 ≤ k) (k2 : k ≤ 9223372036854775807)
    (n1 : -9223372036854775808 ≤ n) (n2 : n ≤ 9223372036854775807) :
    Calls Try.prog 65 #[.int .i64 a, .int .i64 b, .int .i64 k, .int .i64 n] w fun e w' => e = .returned (.int .i64 (R.guess a b k n)) ∧ ∃ m, w' = w.drewN m := by
  by_cases h : n < 2 ∨ 65536 < n ∨ k < a ∨ b ≤ k
  · have hr : R.guess a b k n = 0 := by unfold R.guess; rw [if_pos h]
    rw [hr]
    have H := Lib.hid h
    clear h hr
    go_enter Try.func65, Try.ntmps65
    go_wp2_with fail
    all_goals first | (go_ret; exact ⟨rfl, 0, rfl⟩) | (exfalso; have := H.out; omega)
  · have hr : R.guess a b k n = 1 + R.share (R.gap a k) (R.gap a b) (n - 1) := by unfold R.guess; rw [if_neg h]
    rw [hr]
    clear hr
    have h1 : 2 ≤ n := by omega
    have h2 : n ≤ 65536 := by omega
    have h3 : a ≤ k := by omega
    have h4 : k < b := by omega
    clear h
    obtain ⟨X, hX⟩ : ∃ X, X = R.share (R.gap a k) (R.gap a b) (n - 1) := ⟨_, rfl⟩
    have hb := R.share_bd (R.gap a k) (R.gap a b) (n - 1) (R.gap_bd a k a1 k2).1 (R.gap_bd a b a1 b2).1 (by omega)
    rw [← hX] at hb ⊢
    obtain ⟨hb1, hb2, hb3⟩ := hb
    have HX := Lib.hid hX
    clear hX hb3
    go_enter Try.func65, Try.ntmps65
    go_wp2_with fail
    refine (igap_any _ _ _ a1 a2 k1 k2).mono ?_
    rintro e w' ⟨rfl, rfl⟩
    go_wp2_with fail
    refine (igap_any _ _ _ a1 a2 b1 b2).mono ?_
    rintro e w' ⟨rfl, rfl⟩
    go_wp2_with fail
    refine (ishare_any _ _ _ _ (R.gap_bd a k a1 k2).1 (R.gap_bd a k a1 k2).2 (R.gap_bd a b a1 b2).1 (R.gap_bd a b a1 b2).2 (by omega) (by omega)).mono ?_
    rintro e w' ⟨rfl, m, rfl⟩
    rw [← HX.out]
    go_wp2
    go_ret
    exact ⟨rfl, _, rfl⟩
end Go.Proofs.Ytilkkfpfcegncaa
