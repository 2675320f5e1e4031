/- part.Depth. -/
import Derived.Test.YtilkkfpfcegncaaCellsOf
set_option linter.unusedVariables false
namespace Go.Proofs.Ytilkkfpfcegncaa
open Go.RowKit

theorem depth_bd (f : Nat) : ∀ n, R.I64 (R.depthF f n) := by
  intro n
  cases f with
  | zero => exact R.i64_0
  | succ f => unfold R.depthF; split
              · exact R.i64_0
              · exact w64_bd _
set_option maxHeartbeats 1000000 in
theorem idepth_any (f : Nat) : ∀ (n : Int) (w : World), n.toNat < f → 0 ≤ n → n ≤ 16384 →
    Calls Try.prog 13 #[.int .i64 n] w fun e w' => e = .returned (.int .i64 (R.depthF f n)) ∧ ∃ m, w' = w.drewN m := by
  induction f with
  | zero => intro n w h; omega
  | succ f ih =>
    intro n w hf h0 h1
    rcases Int.lt_or_le n 2 with hn | hn
    · have e : R.depthF (f + 1) n = 0 := by unfold R.depthF; rw [if_pos (by unfold R.degree; rw [if_pos (.inl hn)])]
      have hd : R.degree n = 0 := by unfold R.degree; rw [if_pos (.inl hn)]
      rw [e]
      have HD := Lib.hid hd
      clear e hd
      go_enter Try.func13, Try.ntmps13
      go_wp2_with fail
      refine (idegree_any _ _ h0 h1).mono ?_
      rintro e w' ⟨rfl, rfl⟩
      rw [HD.out]
      go_wp2
      go_ret
      exact ⟨rfl, 0, rfl⟩
    obtain ⟨d, Q, r, hd, hQ, hr, hQ', hr', d1, d2, d3, q1, q2, r1, r2, hqd, hq1⟩ := R.parted n hn h1
    have hQn : Q < n := by
      have := Int.mul_le_mul_of_nonneg_left d1 q1
      omega
    have hQn1 : 0 < r → Q + 1 < n := by
      intro hr0
      have := Int.mul_le_mul_of_nonneg_left d1 q1
      omega
    have hd0 : (d == 0) = false := by rw [beq_eq_false_iff_ne]; omega
    obtain ⟨X, hX⟩ : ∃ X, R.depthF f Q = X := ⟨_, rfl⟩
    obtain ⟨Y, hY⟩ : ∃ Y, R.depthF f (Q + 1) = Y := ⟨_, rfl⟩
    have hO : R.depthF (f + 1) n = R.w64 (1 + if 0 < r then max X Y else X) := by
      conv => lhs; unfold R.depthF
      rw [hd, if_neg (by omega), hQ, hr, hX, hY]
    have hXb := depth_bd f Q
    have hYb := depth_bd f (Q + 1)
    rw [hX] at hXb
    rw [hY] at hYb
    obtain ⟨x1, x2⟩ := hXb
    obtain ⟨y1, y2⟩ := hYb
    have HO := Lib.hid hO
    have HX := Lib.hid hX
    have HY := Lib.hid hY
    have HD := Lib.hid hd
    have HQ := Lib.hid hQ
    have HR := Lib.hid hr
    clear hO hX hY hd hQ hr hQ' hr' hqd
    rw [HO.out]
    rcases (by omega : r = 0 ∨ 0 < r) with hr0 | hr0
    · rw [if_neg (by omega)]
      subst hr0
      go_enter Try.func13, Try.ntmps13
      go_wp2_with fail
      refine (idegree_any _ _ h0 h1).mono ?_
      rintro e w' ⟨rfl, rfl⟩
      rw [HD.out]
      go_wp2_with fail
      refine (isizes_any _ _ (by omega) (by omega)).mono ?_
      rintro e w' ⟨rfl, m1, rfl⟩
      rw [HD.out, HQ.out, HR.out]
      go_wp2_with fail
      refine (ih Q _ (by omega) q1 (by omega)).mono ?_
      rintro e w' ⟨rfl, m2, rfl⟩
      rw [HX.out]
      go_wp2
      go_ret
      exact ⟨ret_int (w64_eq _), _, rfl⟩
    · rw [if_pos hr0]
      have hr0' := hQn1 hr0
      obtain ⟨Z, hZ⟩ : ∃ Z, max X Y = Z := ⟨_, rfl⟩
      rw [hZ]
      have z1 : -9223372036854775808 ≤ Z := by omega
      have z2 : Z ≤ 9223372036854775807 := by omega
      go_enter Try.func13, Try.ntmps13
      go_wp2_with fail
      refine (idegree_any _ _ h0 h1).mono ?_
      rintro e w' ⟨rfl, rfl⟩
      rw [HD.out]
      go_wp2_with fail
      refine (isizes_any _ _ (by omega) (by omega)).mono ?_
      rintro e w' ⟨rfl, m1, rfl⟩
      rw [HD.out, HQ.out, HR.out]
      go_wp2_with fail
      refine (ih Q _ (by omega) q1 (by omega)).mono ?_
      rintro e w' ⟨rfl, m2, rfl⟩
      rw [HX.out]
      go_wp2_with fail
      refine (ih (Q + 1) _ (by omega) (by omega) (by omega)).mono ?_
      rintro e w' ⟨rfl, m3, rfl⟩
      rw [HY.out]
      go_wp2
      go_ret
      exact ⟨ret_int (w64_eq _), _, rfl⟩
end Go.Proofs.Ytilkkfpfcegncaa
