/- math/bits.Div64. -/
import Derived.Test.YtilkkfpfcegncaaDig
import Derived.Test.YtilkkfpfcegncaaShelf
import Derived.Deep.DeepCutAuto
import Derived.Deep.CutBlock
set_option linter.unusedVariables false
namespace Go.Proofs.Ytilkkfpfcegncaa
open Go.RowKit

def divPost (q : Int) (w : World) (e : Ending) (w' : World) : Prop := ∃ r : Int, e = .returned (.tuple #[.int .u64 q, .int .u64 r]) ∧ w = w'
theorem divPost_mk {q v r : Int} {w : World} (h : q = v) : divPost q w (.returned (.tuple #[.int .u64 v, .int .u64 r])) w := ⟨r, by rw [h], rfl⟩
set_option maxHeartbeats 4000000 in
theorem div_any (w : World) (hi lo y : Int) (h0 : 1 ≤ hi) (hy : hi < y) (y1 : y ≤ 18446744073709551615) (l0 : 0 ≤ lo) (l1 : lo ≤ 18446744073709551615) :
    Calls Try.prog 72 #[.int .u64 hi, .int .u64 lo, .int .u64 y] w (divPost ((hi * 18446744073709551616 + lo) / y) w) := by
  obtain ⟨s, hs, s1, y3, y4⟩ := R.bitLen_norm y (by omega) y1
  obtain ⟨Y, U, yn1, yn0, L, u1, u0, eY, eU, eN1, eN0, eL, eU1, eU0, L0, L1, N, u00, u01, eQ⟩ := R.norm_of hi lo y s (by omega) hy l0 l1 s1 y3 y4
  clear y3 y4
  have t0 : (y == 0) = false := by rw [beq_eq_false_iff_ne]; omega
  have t1 : (hi == 0) = false := by rw [beq_eq_false_iff_ne]; omega
  have e1 : ((s : Int) % 18446744073709551616) = (s : Int) := by omega
  have n1 := N.hn1
  have n2 := N.hn1'
  have n3 := N.hn0
  have n4 := N.hn0'
  have n5 := N.hu0
  have n6 := N.hu
  have n7 := N.hu1
  have n8 := N.hu1'
  have hY0 : 0 ≤ Y := by omega
  have hY1 : Y ≤ 18446744073709551615 := by have := N.hy; omega
  have hne : yn1 ≠ 0 := by omega
  obtain ⟨hD, d1, d2, d3⟩ := R.digit_start N
  obtain ⟨q0, hq0⟩ : ∃ q, U / yn1 = q := ⟨_, rfl⟩
  have hq0' : U.tdiv yn1 = q0 := by rw [Int.tdiv_eq_ediv_of_nonneg n5]; exact hq0
  rw [hq0] at hD d1 d2 d3
  have hq1 := hD.2.2.1
  have hq2 := hD.2.2.2.1
  obtain ⟨p0, hp0⟩ : ∃ q, q0 * yn1 = q := ⟨_, rfl⟩
  rw [hp0] at hD d1 d2 d3
  have HS := Lib.hid hs
  have HQ := Lib.hid eQ
  clear hs eQ
  go_enter Try.func72, Try.ntmps72
  go_wp2_with fail
  refine (Try.bits_LeadingZeros64 y _ (by omega) y1).mono ?_
  rintro e w' ⟨rfl, hw⟩
  subst w'
  rw [HS.out]
  go_upto_block 0 with (fail)
  clear eY eU eN1 eN0 eL eU1 eU0 hq0 hq0' hp0 HS
  go_cut [15] (fun s wx => ∃ x : Int, s = .int .u64 x ∧ x = (U * 4294967296 + u1) / Y ∧ wx = w)
  case first =>
    go_wp2_with fail
    go_loop [15, 16] (fun q r => ∃ q' r' : Int, q = .int .u64 q' ∧ r = .int .u64 r' ∧ R.Dig U u1 yn1 Y q' r' ∧ r' ≤ 4294967295) (fun q _ => (intOf q).toNat)
    case atStart => exact ⟨_, _, rfl, rfl, hD, by omega⟩
    case round =>
      obtain ⟨q, r, rfl, rfl, D, r2⟩ := hrel
      have q1 := D.2.2.1
      have q2 := D.2.2.2.1
      have r1 := D.2.2.2.2
      obtain ⟨m1, m2, m3⟩ := R.digit_mul N D
      obtain ⟨p, hp⟩ : ∃ p, q * yn0 = p := ⟨_, rfl⟩
      rw [hp] at m2 m3
      clear m1
      by_cases hc : 4294967296 ≤ q ∨ 4294967296 * r + u1 < p
      · obtain ⟨D', q3⟩ := R.digit_down N D (by rw [hp]; exact hc)
        have hm : (q - 1).toNat < q.toNat := by omega
        have hc' : 4294967296 ≤ q ∨ (q < 4294967296 ∧ 4294967296 * r + u1 < p) := by omega
        clear hc
        rcases Int.lt_or_le (r + yn1) 4294967296 with hr | hr
        · rcases hc' with hc | ⟨hc, hc2⟩
          all_goals
            go_wp2_with fail
            go_round
            case rel => exact ⟨_, _, rfl, rfl, D', by omega⟩
            case measure => simp [intOf]; omega
        · have hQ := R.digit_break N D' (by omega) hr
          have HX := Lib.hid hQ
          clear hQ
          rcases hc' with hc | ⟨hc, hc2⟩
          all_goals
            go_wp2_with fail
            go_meet
            exact ⟨_, rfl, HX.out, rfl⟩
      · have hQ := R.digit_stop N D (by rw [hp]; omega)
        have hc1 : q < 4294967296 := by omega
        have hc2 : p ≤ 4294967296 * r + u1 := by omega
        have HX := Lib.hid hQ
        clear hQ hc
        go_wp2_with fail
        go_meet
        exact ⟨_, rfl, HX.out, rfl⟩
  case rest =>
    obtain ⟨x, rfl, hQ, hw⟩ := hcut
    subst wc
    have xD := R.digit_lt N
    rw [← hQ] at xD
    have x1 := xD.1
    have x0 := xD.2
    have HX := Lib.hid hQ
    clear hQ xD
    obtain ⟨N2, hR⟩ := R.digit_rest N u0 u00 u01
    have HX1 := HX
    rw [← HX.out] at N2 hR
    have k5 := N2.hu0
    have k6 := N2.hu
    have k3 : 0 ≤ x * Y := Int.mul_nonneg (by omega) hY0
    obtain ⟨yp, hyp⟩ : ∃ z, x * Y = z := ⟨_, rfl⟩
    have hwrap : IntKind.u64.wrap (IntKind.u64.wrap (IntKind.u64.wrap (U * 4294967296) + u1) - IntKind.u64.wrap yp) = U * 4294967296 + u1 - x * Y := by
      rw [IntKind.wrap_u64, IntKind.wrap_u64, IntKind.wrap_u64, IntKind.wrap_u64]; omega
    rw [hyp] at hwrap N2 hR k5 k6
    obtain ⟨V, hV⟩ : ∃ V, U * 4294967296 + u1 - yp = V := ⟨_, rfl⟩
    rw [hV] at hwrap N2 hR k5 k6
    obtain ⟨hD2, e1, e2, e3⟩ := R.digit_start N2
    obtain ⟨g0, hg0⟩ : ∃ z, V / yn1 = z := ⟨_, rfl⟩
    have hg0' : V.tdiv yn1 = g0 := by rw [Int.tdiv_eq_ediv_of_nonneg k5]; exact hg0
    rw [hg0] at hD2 e1 e2 e3
    have g1 := hD2.2.2.1
    have g2 := hD2.2.2.2.1
    obtain ⟨p1, hp1⟩ : ∃ z, g0 * yn1 = z := ⟨_, rfl⟩
    rw [hp1] at hD2 e1 e2 e3
    have HR := Lib.hid hR
    clear hR hV k3 HX
    go_upto_block 2 with (fail)
    clear hwrap hyp hg0 hg0' hp1
    go_cut [18] (fun s wx => ∃ x : Int, s = .int .u64 x ∧ x = (V * 4294967296 + u0) / Y ∧ wx = w)
    case first =>
      go_wp2_with fail
      go_loop [18, 16] (fun q r => ∃ q' r' : Int, q = .int .u64 q' ∧ r = .int .u64 r' ∧ R.Dig V u0 yn1 Y q' r' ∧ r' ≤ 4294967295) (fun q _ => (intOf q).toNat)
      case atStart => exact ⟨_, _, rfl, rfl, hD2, e1⟩
      case round =>
        obtain ⟨q, r, rfl, rfl, D, r2⟩ := hrel
        have q1 := D.2.2.1
        have q2 := D.2.2.2.1
        have r1 := D.2.2.2.2
        obtain ⟨m1, m2, m3⟩ := R.digit_mul N2 D
        obtain ⟨p, hp⟩ : ∃ p, q * yn0 = p := ⟨_, rfl⟩
        rw [hp] at m2 m3
        clear m1
        by_cases hc : 4294967296 ≤ q ∨ 4294967296 * r + u0 < p
        · obtain ⟨D', q3⟩ := R.digit_down N2 D (by rw [hp]; exact hc)
          have hm : (q - 1).toNat < q.toNat := by omega
          have hc' : 4294967296 ≤ q ∨ (q < 4294967296 ∧ 4294967296 * r + u0 < p) := by omega
          clear hc
          rcases Int.lt_or_le (r + yn1) 4294967296 with hr | hr
          · rcases hc' with hc | ⟨hc, hc2⟩
            all_goals
              go_wp2_with fail
              go_round
              case rel => exact ⟨_, _, rfl, rfl, D', by omega⟩
              case measure => simp [intOf]; omega
          · have hQ := R.digit_break N2 D' (by omega) hr
            have HX := Lib.hid hQ
            clear hQ
            rcases hc' with hc | ⟨hc, hc2⟩
            all_goals
              go_wp2_with fail
              go_meet
              exact ⟨_, rfl, HX.out, rfl⟩
        · have hQ := R.digit_stop N2 D (by rw [hp]; omega)
          have hc1 : q < 4294967296 := by omega
          have hc2 : p ≤ 4294967296 * r + u0 := by omega
          have HX := Lib.hid hQ
          clear hQ hc
          go_wp2_with fail
          go_meet
          exact ⟨_, rfl, HX.out, rfl⟩
    case rest =>
      obtain ⟨x, rfl, hQ, hw⟩ := hcut
      subst wc
      have xD := R.digit_lt N2
      rw [← hQ] at xD
      have x1 := xD.1
      have x0 := xD.2
      have HX := Lib.hid hQ
      clear hQ xD
      go_wp2_with fail
      go_ret2
      refine divPost_mk ?_
      rw [HQ.out, ← HR.out, ← HX.out]
end Go.Proofs.Ytilkkfpfcegncaa
