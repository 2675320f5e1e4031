/- ordinateref1.Words; mem.Cells; hand.Like. -/
import Derived.Test.YtfgkgmfcbhbomaaGreatPut
set_option linter.unusedVariables false
namespace Go.Proofs.YtfgkgmfcbhbomaaGreat
open Go.RowKit
open R (MS)

theorem words_any (w : World) (a b : Option Addr) (ca cb : Nat) (xs ys : List Int) (Ra : Rd w 2 a (ints .i64 xs)) (Rb : Rd w 2 b (ints .i64 ys)) (hl : xs.length ≤ 140737488351232) :
    Calls Tryz.prog 32 #[.slice a xs.length ca, .slice b ys.length cb] w fun e w' => e = .returned (.bool (decide (xs = ys))) ∧ ∃ n, w' = w.drewN n := by
  by_cases hlen : xs.length = ys.length
  · have t0 : ((xs.length : Int) != (ys.length : Int)) = false := by rw [hlen]; simp
    have HL := Lib.hid hlen
    clear hlen
    go_enter Tryz.func32, Tryz.ntmps32
    go_wp2
    go_loopw [5] (fun i wr => ∃ k : Nat, k ≤ xs.length ∧ i = .int .i64 (k : Int) ∧ Hid (xs.take k = ys.take k) ∧ ∃ n, wr = w.drewN n) (fun i _ => xs.length - (intOf i).toNat)
    case atStart => exact ⟨0, by omega, rfl, rfl, 0, rfl⟩
    case round =>
      obtain ⟨k, hk, rfl, I, n, rfl⟩ := hrel
      rcases Nat.lt_or_ge k xs.length with h | h
      · have hy : k < ys.length := by have := HL.out; omega
        obtain ⟨x, hx⟩ : ∃ x, xs.getD k 0 = x := ⟨_, rfl⟩
        obtain ⟨y, hyy⟩ : ∃ y, ys.getD k 0 = y := ⟨_, rfl⟩
        obtain ⟨ab, ao, rfl, hca⟩ := Ra.cells_at (by intro e; have := congrArg List.length e; simp only [ints, List.length_map, List.length_nil] at this; omega)
        obtain ⟨bb, bo, rfl, hcb⟩ := Rb.cells_at (by intro e; have := congrArg List.length e; simp only [ints, List.length_map, List.length_nil] at this; omega)
        have c0 := hca _ _ (ints_at .i64 xs k h)
        have c1 := hcb _ _ (ints_at .i64 ys k hy)
        rw [hx] at c0
        rw [hyy] at c1
        have HX := Lib.hid hx
        have HY := Lib.hid hyy
        have h0 : (0 : Int) ≤ (k : Int) := by omega
        have h1 : (k : Int) < (xs.length : Int) := by omega
        have h2 : (k : Int) < (ys.length : Int) := by omega
        clear hca hcb hx hyy
        by_cases hxy : x = y
        · have t1 : (x != y) = false := by simpa using hxy
          have HXY := Lib.hid hxy
          clear hxy
          go_wp2
          go_quiet (fail)
          go_wp2
          go_roundw
          case rel =>
            refine ⟨k + 1, by omega, by go_num, ?_, _, rfl⟩
            have e := I.out
            show xs.take (k + 1) = ys.take (k + 1)
            rw [List.take_succ_eq_append_getElem h, List.take_succ_eq_append_getElem hy, e]
            have e1 := HX.out
            have e2 := HY.out
            rw [List.getD_eq_getElem?_getD, List.getElem?_eq_getElem h] at e1
            rw [List.getD_eq_getElem?_getD, List.getElem?_eq_getElem hy] at e2
            have e3 : xs[k] = ys[k] := e1.trans (HXY.out.trans e2.symm)
            rw [e3]
          case measure => simp [intOf]; omega
        · have t1 : (x != y) = true := by simpa using hxy
          have HXY := Lib.hid hxy
          clear hxy
          go_wp2
          go_quiet (fail)
          go_wp2
          go_ret
          refine ⟨ret_bool ?_, _, World.drewN_drewN ..⟩
          symm
          rw [decide_eq_false_iff_not]
          intro e
          exact HXY.out (HX.out.symm.trans ((by rw [e] : xs.getD k 0 = ys.getD k 0).trans HY.out))
      · have h' : (xs.length : Int) ≤ (k : Int) := by omega
        go_wp2
        go_ret
        refine ⟨ret_bool ?_, _, rfl⟩
        symm
        rw [decide_eq_true_iff]
        have e := I.out
        rw [List.take_of_length_le (by omega), List.take_of_length_le (by have := HL.out; omega)] at e
        exact e
  · have t0 : ((xs.length : Int) != (ys.length : Int)) = true := by simp; omega
    have HL := Lib.hid hlen
    clear hlen
    go_enter Tryz.func32, Tryz.ntmps32
    go_wp2
    go_ret
    refine ⟨ret_bool ?_, 0, rfl⟩
    symm
    rw [decide_eq_false_iff_not]
    intro e
    exact HL.out (by rw [e])
end Go.Proofs.YtfgkgmfcbhbomaaGreat
