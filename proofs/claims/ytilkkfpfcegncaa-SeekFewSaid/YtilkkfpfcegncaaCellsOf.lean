/- part.sizes, part.Cells. -/
import Derived.Test.YtilkkfpfcegncaaPart
import Derived.BigQuiet
set_option linter.unusedVariables false
namespace Go.Proofs.Ytilkkfpfcegncaa
open Go.RowKit

theorem isizes_any (w : World) (n : Int) (h0 : 2 ≤ n) (h1 : n ≤ 16384) :
    Calls Try.prog 37 #[.int .i64 n] w fun e w' => e = .returned (.tuple #[.int .i64 (n % R.degree n), .int .i64 (n / R.degree n + 1), .int .i64 (R.degree n - n % R.degree n), .int .i64 (n / R.degree n)]) ∧ ∃ m, w' = w.drewN m := by
  obtain ⟨d, Q, r, hd, hQ, hr, hQ', hr', d1, d2, d3, q1, q2, r1, r2, _, _⟩ := R.parted n h0 h1
  rw [hd, hQ, hr]
  have HD := Lib.hid hd
  have hne : d ≠ 0 := by omega
  have e4 : IntKind.i64.wrap (Q + 1) = Q + 1 := by rw [IntKind.wrap_i64]; omega
  have e5 : IntKind.i64.wrap Q = Q := by rw [IntKind.wrap_i64]; omega
  have e6 : IntKind.i64.wrap r = r := by rw [IntKind.wrap_i64]; omega
  have e7 : IntKind.i64.wrap (d - r) = d - r := by rw [IntKind.wrap_i64]; omega
  clear hd hQ hr
  go_enter Try.func37, Try.ntmps37
  go_wp2_with fail
  refine (idegree_any _ _ (by omega) h1).mono ?_
  rintro e w' ⟨rfl, rfl⟩
  rw [HD.out]
  go_wp2_with fail
  go_quiet (fail)
  go_wp2
  refine bodyPost_ret (v := .tuple #[.int .i64 r, .int .i64 (Q + 1), .int .i64 (d - r), .int .i64 Q]) (by simp [results, Try.results37, go_sem]) rfl ⟨rfl, _, rfl⟩

theorem wrap_oth (x y : Int) : wrap64 (x * y) = R.w64 (x * y) := w64_eq _
set_option maxHeartbeats 1000000 in
theorem icells_any (f : Nat) : ∀ (n : Int) (w : World), n.toNat < f → 0 ≤ n → n ≤ 16384 →
    Calls Try.prog 22 #[.int .i64 n] w fun e w' => e = .returned (.int .i64 (R.cellsF f n)) ∧ ∃ m, w' = w.drewN m := by
  induction f with
  | zero => intro n w h; omega
  | succ f ih =>
    intro n w hf h0 h1
    have hn : ¬ (n < 0 ∨ 16384 < n) := by omega
    by_cases e0 : n = 0
    · subst e0
      rw [show R.cellsF (f + 1) 0 = 1 from rfl]
      go_enter Try.func22, Try.ntmps22
      go_wp2_with fail
      refine (imay_any _ _ (by omega) (by omega)).mono ?_
      rintro e w' ⟨rfl, rfl⟩
      go_wp2
      go_ret
      exact ⟨rfl, 0, rfl⟩
    by_cases e1 : n = 1
    · subst e1
      rw [show R.cellsF (f + 1) 1 = 2 from rfl]
      go_enter Try.func22, Try.ntmps22
      go_wp2_with fail
      refine (imay_any _ _ (by omega) (by omega)).mono ?_
      rintro e w' ⟨rfl, rfl⟩
      go_wp2
      go_ret
      exact ⟨rfl, 0, rfl⟩
    obtain ⟨d, Q, r, hd, hQ, hr, hQ', hr', d1, d2, d3, q1, q2, r1, r2, hqd, hq1⟩ := R.parted n (by omega) h1
    have t0 : (n == 0) = false := by simpa using e0
    have t1 : (n == 1) = false := by simpa using e1
    have hQn : Q < n := by
      have := Int.mul_le_mul_of_nonneg_left d1 q1
      omega
    have hQn1 : 0 < r → Q + 1 < n := by
      intro hr0
      have := Int.mul_le_mul_of_nonneg_left d1 q1
      omega
    have hO : R.cellsF (f + 1) n = (let all := R.w64 (R.w64 (4 + 2 * d) + R.w64 ((d - r) * R.cellsF f Q)); if 0 < r then R.w64 (all + R.w64 (r * R.cellsF f (Q + 1))) else all) := by
      conv => lhs; unfold R.cellsF
      rw [if_neg hn, if_neg e0, if_neg e1, hd, hQ, hr]
    obtain ⟨X, hX⟩ : ∃ X, R.cellsF f Q = X := ⟨_, rfl⟩
    obtain ⟨Y, hY⟩ : ∃ Y, R.cellsF f (Q + 1) = Y := ⟨_, rfl⟩
    rw [hX, hY] at hO
    simp only [] at hO
    rw [R.w64_id' (4 + 2 * d) (by omega) (by omega)] at hO
    have HO := Lib.hid hO
    have HX := Lib.hid hX
    have HY := Lib.hid hY
    have HD := Lib.hid hd
    have HQ := Lib.hid hQ
    have HR := Lib.hid hr
    clear hO hX hY hd hQ hr e0 e1 hn hQ' hr' hqd
    rw [HO.out]
    rcases (by omega : r = 0 ∨ 0 < r) with hr0 | hr0
    · rw [if_neg (by omega)]
      subst hr0
      go_enter Try.func22, Try.ntmps22
      go_wp2_with fail
      refine (imay_any _ _ (by omega) (by omega)).mono ?_
      rintro e w' ⟨rfl, rfl⟩
      go_wp2_with fail
      refine (isizes_any _ _ (by omega) (by omega)).mono ?_
      rintro e w' ⟨rfl, m1, rfl⟩
      rw [HD.out, HQ.out, HR.out]
      go_wp2_with fail
      refine (idegree_any _ _ (by omega) h1).mono ?_
      rintro e w' ⟨rfl, rfl⟩
      rw [HD.out]
      go_wp2_with fail
      refine (ih Q _ (by omega) q1 (by omega)).mono ?_
      rintro e w' ⟨rfl, m2, rfl⟩
      rw [HX.out]
      go_wp2
      go_ret
      refine ⟨ret_int ?_, _, rfl⟩
      simp only [w64_eq]
      first | rfl | (congr 1; done) | (simp; done)
    · rw [if_pos hr0]
      have hr0' := hQn1 hr0
      go_enter Try.func22, Try.ntmps22
      go_wp2_with fail
      refine (imay_any _ _ (by omega) (by omega)).mono ?_
      rintro e w' ⟨rfl, rfl⟩
      go_wp2_with fail
      refine (isizes_any _ _ (by omega) (by omega)).mono ?_
      rintro e w' ⟨rfl, m1, rfl⟩
      rw [HD.out, HQ.out, HR.out]
      go_wp2_with fail
      refine (idegree_any _ _ (by omega) h1).mono ?_
      rintro e w' ⟨rfl, rfl⟩
      rw [HD.out]
      go_wp2_with fail
      refine (ih Q _ (by omega) q1 (by omega)).mono ?_
      rintro e w' ⟨rfl, m2, rfl⟩
      rw [HX.out]
      go_wp2_with fail
      refine (ih (Q + 1) _ (by omega) (by omega) (by omega)).mono ?_
      rintro e w' ⟨rfl, m3, rfl⟩
      rw [HY.out]
      go_wp2
      go_ret
      refine ⟨ret_int ?_, _, rfl⟩
      simp only [w64_eq]
end Go.Proofs.Ytilkkfpfcegncaa
