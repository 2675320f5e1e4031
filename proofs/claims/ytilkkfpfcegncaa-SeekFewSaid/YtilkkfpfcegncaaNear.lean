/- node.KeyAt, node.ChildAt of the program. -/
import Derived.Test.YtilkkfpfcegncaaNode
set_option linter.unusedVariables false
namespace Go.Proofs.Ytilkkfpfcegncaa
open Go.RowKit
open R (MS)

theorem far_any (w : World) (x : Int) :
    Calls Try.prog 63 #[.int .i64 x] w fun e w' => e = .returned (.bool (!R.within x)) ∧ w = w' := by
  go_enter Try.func63, Try.ntmps63
  go_wp2
  all_goals
    go_ret
    refine ⟨ret_bool ?_, rfl⟩
    first | (symm; rw [Bool.not_eq_true', R.within_ne]; omega) | (symm; rw [Bool.not_eq_false', R.within_eq]; omega) | (rw [Bool.eq_iff_iff]; simp [R.within] <;> omega)

/-- The place of the first number that is far; -1: there is none. -/
def farAt : Nat → List Int → Int
  | _, [] => -1
  | j, x :: l => if R.within x = true then farAt (j + 1) l else (j : Int)
theorem farAt_all : ∀ (l : List Int) (j : Nat), (0 ≤ farAt j l ∧ l.all R.within = false) ∨ (farAt j l = -1 ∧ l.all R.within = true)
  | [], _ => .inr ⟨rfl, rfl⟩
  | x :: l, j => by
    unfold farAt
    by_cases hx : R.within x = true
    · rw [if_pos hx]
      rcases farAt_all l (j + 1) with ⟨h1, h2⟩ | ⟨h1, h2⟩
      · exact .inl ⟨h1, by rw [List.all_cons, hx, h2]; rfl⟩
      · exact .inr ⟨h1, by rw [List.all_cons, hx, h2]; rfl⟩
    · rw [if_neg hx]
      refine .inl ⟨by omega, ?_⟩
      rw [List.all_cons]
      simp at hx
      rw [hx]; rfl
theorem farAt_le : ∀ (l : List Int) (j : Nat), farAt j l ≤ j + l.length
  | [], _ => by show (-1 : Int) ≤ _; simp
  | x :: l, j => by
    unfold farAt
    split
    · have := farAt_le l (j + 1); simp; omega
    · simp; omega

set_option maxRecDepth 100000 in
theorem indexL_any (w : World) (b n : Nat) (xs : List Int) (hn : n = xs.length) (hl : n ≤ 10) (hc : ∀ j, j < n → w.cell? ⟨b, j, none⟩ = some (.int .i64 (xs.getD j 0))) :
    Calls Try.prog 66 #[.slice (some ⟨b, 0, none⟩) n n, .func (.func 63) #[] #[]] w fun e w' => e = .returned (.int .i64 (farAt 0 xs)) ∧ w = w' := by
  obtain ⟨O, hO⟩ : ∃ O, farAt 0 xs = O := ⟨_, rfl⟩
  rw [hO]
  have E := Lib.hid hO
  have HN := Lib.hid hn
  have HC := Lib.hid hc
  clear hO hn hc
  go_enter Try.func66, Try.ntmps66
  go_wp2_with fail
  go_loop [8] (fun i => ∃ k : Nat, k ≤ n ∧ i = .int .i64 (k : Int) ∧ Hid (farAt k (xs.drop k) = O)) (fun i => n - (intOf i).toNat)
  case atStart => exact ⟨0, by omega, rfl, E⟩
  case round =>
    obtain ⟨k, hk, rfl, I⟩ := hrel
    rcases Nat.lt_or_ge k n with h | h
    · obtain ⟨x, hx⟩ : ∃ x, xs.getD k 0 = x := ⟨_, rfl⟩
      have c0 := HC.out k h
      rw [hx] at c0
      have hd : xs.drop k = x :: xs.drop (k + 1) := by
        rw [List.drop_eq_getElem_cons (by have := HN.out; omega)]
        congr 1
        rw [← hx, List.getD_eq_getElem?_getD, List.getElem?_eq_getElem (by have := HN.out; omega)]; rfl
      have I2 := I.out
      rw [hd] at I2
      unfold farAt at I2
      have h' : (k : Int) < (n : Int) := by omega
      clear hx hd I
      cases hw : R.within x
      · rw [if_neg (by rw [hw]; decide)] at I2
        have J := Lib.hid I2
        have HW := Lib.hid hw
        clear hw I2
        go_wp2_with fail
        refine (far_any _ _).mono ?_
        rintro e w' ⟨rfl, rfl⟩
        rw [HW.out]
        go_wp2
        go_ret
        have e := J.out; subst e
        exact ⟨rfl, rfl⟩
      · rw [if_pos hw] at I2
        have J := Lib.hid I2
        have HW := Lib.hid hw
        clear hw I2
        go_wp2_with fail
        refine (far_any _ _).mono ?_
        rintro e w' ⟨rfl, rfl⟩
        rw [HW.out]
        go_wp2
        go_round
        case rel => exact ⟨k + 1, by omega, by go_num, J⟩
        case measure => simp [intOf]; omega
    · have h' : (n : Int) ≤ (k : Int) := by omega
      have I2 := I.out
      rw [List.drop_eq_nil_of_le (by have := HN.out; omega)] at I2
      unfold farAt at I2
      have J := Lib.hid I2
      clear I I2
      go_wp2
      go_ret
      have e := J.out; subst e
      exact ⟨rfl, rfl⟩

theorem containsL_any (w : World) (b n : Nat) (xs : List Int) (hn : n = xs.length) (hl : n ≤ 10) (hc : ∀ j, j < n → w.cell? ⟨b, j, none⟩ = some (.int .i64 (xs.getD j 0))) :
    Calls Try.prog 62 #[.slice (some ⟨b, 0, none⟩) n n, .func (.func 63) #[] #[]] w fun e w' => e = .returned (.bool (!xs.all R.within)) ∧ w = w' := by
  obtain ⟨D, hD⟩ : ∃ D, xs.all R.within = D := ⟨_, rfl⟩
  rw [hD]
  obtain ⟨O, hO⟩ : ∃ O, farAt 0 xs = O := ⟨_, rfl⟩
  have hf := farAt_all xs 0
  have hf2 := farAt_le xs 0
  rw [hD, hO] at hf
  rw [hO] at hf2
  have HN := Lib.hid hn
  have HC := Lib.hid hc
  have HO := Lib.hid hO
  have HF := Lib.hid hf
  clear hO hn hc hD hf
  cases D
  · have h0 : 0 ≤ O := by
      rcases HF.out with ⟨h, _⟩ | ⟨_, h⟩
      · exact h
      · cases h
    go_enter Try.func62, Try.ntmps62
    go_wp2_with fail
    refine (indexL_any w b n xs HN.out hl HC.out).mono ?_
    rintro e w' ⟨rfl, rfl⟩
    rw [HO.out]
    go_wp2
    go_ret
    exact ⟨rfl, rfl⟩
  · have h0 : O = -1 := by
      rcases HF.out with ⟨_, h⟩ | ⟨h, _⟩
      · cases h
      · exact h
    have H0 := Lib.hid h0
    clear h0
    go_enter Try.func62, Try.ntmps62
    go_wp2_with fail
    refine (indexL_any w b n xs HN.out hl HC.out).mono ?_
    rintro e w' ⟨rfl, rfl⟩
    rw [HO.out, H0.out]
    go_wp2
    go_ret
    exact ⟨rfl, rfl⟩

theorem nearL_any (w : World) (b n : Nat) (xs : List Int) (hn : n = xs.length) (hl : n ≤ 10) (hc : ∀ j, j < n → w.cell? ⟨b, j, none⟩ = some (.int .i64 (xs.getD j 0))) :
    Calls Try.prog 51 #[.slice (some ⟨b, 0, none⟩) n n] w fun e w' => e = .returned (.bool (xs.all R.within)) ∧ w = w' := by
  have HN := Lib.hid hn
  have HC := Lib.hid hc
  clear hn hc
  cases hx : xs.all R.within
  all_goals
    have HX := Lib.hid hx
    clear hx
    go_enter Try.func51, Try.ntmps51
    go_wp2_with fail
    refine (containsL_any w b n xs HN.out hl HC.out).mono ?_
    rintro e w' ⟨rfl, rfl⟩
    rw [HX.out]
    go_wp2
    go_ret
    exact ⟨rfl, rfl⟩

theorem ikeyAt_any (w : World) (n i : Int) :
    Calls Try.prog 49 #[.int .i64 n, .int .i64 i] w fun e w' => e = .returned (.int .i64 (R.keyAt n i)) ∧ Fr [] w w' := by
  cases hx : [n, i].all R.within
  all_goals
    have HX := Lib.hid hx
    clear hx
    go_enter Try.func49, Try.ntmps49
    go_wp2_with fail
    refine (nearL_any _ w.heap.size 2 [n, i] rfl (by omega) (fun j hj => by rcases (by omega : j = 0 ∨ j = 1) with rfl | rfl <;> exact (Blk.new w _ _).cell _)).mono ?_
    rintro e w' ⟨rfl, rfl⟩
    rw [HX.out]
  · go_wp2
    go_ret
    refine ⟨ret_int ?_, (Fr.refl [] w).alloc _⟩
    unfold R.keyAt
    rw [if_neg (fun h => by have := HX.out; simp [h.1, h.2] at this)]
  · have hw : R.within n = true ∧ R.within i = true := by have := HX.out; simpa using this
    have HW := Lib.hid hw
    obtain ⟨a1, a2⟩ := (R.within_eq n).1 hw.1
    obtain ⟨b1, b2⟩ := (R.within_eq i).1 hw.2
    clear hw
    go_wp2
    go_ret
    refine ⟨ret_int ?_, (Fr.refl [] w).alloc _⟩
    unfold R.keyAt
    rw [if_pos HW.out]

end Go.Proofs.Ytilkkfpfcegncaa
