/- The references' small functions on numbers. -/
import Derived.Test.YtfgkgmfcbhbomaaGreatBase
import Derived.Test.YtfgkgmfcbhbomaaGreatPure
namespace Go.Proofs.YtfgkgmfcbhbomaaGreat
open Go.RowKit

theorem right_any (w : World) (x : Int) (h1 : -9223372036854775808 ≤ x) (h2 : x ≤ 9223372036854775807) :
    Calls Tryz.prog 109 #[.int .i64 x] w fun e w' => e = .returned (.bool (R.right x)) ∧ w = w' := by
  by_cases h8 : 8 < x
  all_goals
    go_enter Tryz.func109, Tryz.ntmps109
    go_wp2
    all_goals
      go_ret
      refine ⟨ret_bool ?_, rfl⟩
      first | (symm; rw [R.right_eq]; omega) | (symm; rw [R.right_ne]; omega) | (rw [Bool.eq_iff_iff, R.right_eq]; simp; omega)

theorem kind_any (w : World) (x : Int) (h1 : -9223372036854775808 ≤ x) (h2 : x ≤ 9223372036854775807) :
    Calls Tryz.prog 79 #[.int .i64 x] w fun e w' => e = .returned (.int .i64 (R.kind x)) ∧ w = w' := by
  go_enter Tryz.func79, Tryz.ntmps79
  by_cases h : R.right x = true
  all_goals
    go_wp2_with (go_at_call 109; refine (right_any _ _ h1 h2).mono ?_; rintro e w' ⟨rfl, rfl⟩)
    go_ret
    refine ⟨ret_int ?_, rfl⟩
    unfold R.kind
  · rw [if_pos h]; rw [R.right_eq] at h; exact Int.tmod_eq_emod_of_nonneg (by omega)
  · rw [if_neg h]

theorem addr_any (w : World) (x : Int) (h1 : -9223372036854775808 ≤ x) (h2 : x ≤ 9223372036854775807) :
    Calls Tryz.prog 80 #[.int .i64 x] w fun e w' => e = .returned (.int .i64 (R.addr x)) ∧ w = w' := by
  go_enter Tryz.func80, Tryz.ntmps80
  by_cases h : R.right x = true
  all_goals
    go_wp2_with (go_at_call 109; refine (right_any _ _ h1 h2).mono ?_; rintro e w' ⟨rfl, rfl⟩)
    go_ret
    refine ⟨ret_int ?_, rfl⟩
    unfold R.addr
  · rw [if_pos h]; rw [R.right_eq] at h
    first | exact Int.tdiv_eq_ediv_of_nonneg (by omega) | (rw [Int.tdiv_eq_ediv_of_nonneg (by omega)]; unfold wrap64; omega)
  · rw [if_neg h]

theorem within_any (w : World) (x : Int) :
    Calls Tryz.prog 110 #[.int .i64 x] w fun e w' => e = .returned (.bool (R.within x)) ∧ w = w' := by
  go_enter Tryz.func110, Tryz.ntmps110
  go_wp2
  all_goals
    go_ret
    refine ⟨ret_bool ?_, rfl⟩
    first | (symm; rw [R.within_eq]; omega) | (symm; rw [R.within_ne]; omega) | (rw [Bool.eq_iff_iff, R.within_eq]; simp; try omega)

theorem keyAt_any (w : World) (n i : Int) :
    Calls Tryz.prog 85 #[.int .i64 n, .int .i64 i] w fun e w' => e = .returned (.int .i64 (R.keyAt n i)) ∧ w = w' := by
  by_cases hn : R.within n = true
  all_goals by_cases hi : R.within i = true
  all_goals
    have HN := Lib.hid hn
    have HI := Lib.hid hi
    go_enter Tryz.func85, Tryz.ntmps85
    go_wp2_with (go_at_call 110; refine (within_any _ _).mono ?_; rintro e w' ⟨rfl, rfl⟩)
    all_goals
      go_ret
      refine ⟨ret_int ?_, rfl⟩
      unfold R.keyAt
      first
        | (rw [if_pos ⟨HN.out, HI.out⟩]; have a := (R.within_eq n).1 HN.out; have b := (R.within_eq i).1 HI.out; simp only [wrap64]; omega)
        | (rw [if_neg (fun h => HN.out h.1)])
        | (rw [if_neg (fun h => HI.out h.2)])

theorem of_any (w : World) (k a : Int) :
    Calls Tryz.prog 82 #[.int .i64 k, .int .i64 a] w fun e w' => e = .returned (.int .i64 (R.of k a)) ∧ w = w' := by
  by_cases h : (1 ≤ k ∧ k ≤ 5) ∧ (1 ≤ a ∧ a ≤ 65536)
  · obtain ⟨⟨h1, h2⟩, h3, h4⟩ := h
    go_enter Tryz.func82, Tryz.ntmps82
    go_wp2
    all_goals
      go_ret
      refine ⟨ret_int ?_, rfl⟩
      unfold R.of
      rw [if_pos ⟨⟨h1, h2⟩, h3, h4⟩]
  · go_enter Tryz.func82, Tryz.ntmps82
    have H := Lib.hid h
    clear h
    go_wp2
    all_goals
      go_ret
      refine ⟨ret_int ?_, rfl⟩
      unfold R.of
      first | (rw [if_neg H.out]; done) | (exact absurd (by refine ⟨⟨?_, ?_⟩, ?_, ?_⟩ <;> omega) H.out)

theorem gap_any (w : World) (a b : Int) (a1 : -9223372036854775808 ≤ a) (a2 : a ≤ 9223372036854775807) (b1 : -9223372036854775808 ≤ b) (b2 : b ≤ 9223372036854775807) :
    Calls Tryz.prog 112 #[.int .i64 a, .int .i64 b] w fun e w' => e = .returned (.int .u64 (R.gap a b)) ∧ w = w' := by
  go_enter Tryz.func112, Tryz.ntmps112
  go_wp2
  all_goals
    go_ret
    refine ⟨ret_int ?_, rfl⟩
    unfold R.gap
    first | (rw [if_pos (by omega)]; done) | (rw [if_neg (by omega), IntKind.wrap_u64, IntKind.wrap_u64, IntKind.wrap_u64]; omega)
end Go.Proofs.YtfgkgmfcbhbomaaGreat
