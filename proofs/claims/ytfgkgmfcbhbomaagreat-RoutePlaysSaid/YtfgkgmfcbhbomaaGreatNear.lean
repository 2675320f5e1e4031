/- node.KeyAt, probe.Guess of the program. -/
import Derived.Test.YtfgkgmfcbhbomaaGreatNode
set_option linter.unusedVariables false
namespace Go.Proofs.YtfgkgmfcbhbomaaGreat
open Go.RowKit
open R (MS)

theorem far_any (w : World) (x : Int) :
    Calls Tryz.prog 56 #[.int .i64 x] w fun e w' => e = .returned (.bool (!R.within x)) ∧ w = w' := by
  go_enter Tryz.func56, Tryz.ntmps56
  go_wp2
  all_goals
    go_ret
    refine ⟨ret_bool ?_, rfl⟩
    first | (symm; rw [Bool.not_eq_true', R.within_ne]; omega) | (symm; rw [Bool.not_eq_false', R.within_eq]; omega) | (rw [Bool.eq_iff_iff]; simp [R.within] <;> omega)

def firstFar (x y : Int) : Int := if R.within x = true then (if R.within y = true then -1 else 1) else 0

set_option maxRecDepth 100000 in
theorem index2_any (w : World) (b : Nat) (x y : Int) (cs : Array Value) (T : TypeId) (hb : Blk w b cs T) (h0 : cs[0]? = some (.int .i64 x)) (h1 : cs[1]? = some (.int .i64 y)) :
    Calls Tryz.prog 77 #[.slice (some ⟨b, 0, none⟩) 2 2, .func (.func 56) #[] #[]] w fun e w' => e = .returned (.int .i64 (firstFar x y)) ∧ w = w' := by
  have e0 : w.cell? ⟨b, 0, none⟩ = some (.int .i64 x) := (hb.cell _).trans h0
  have e1 : w.cell? ⟨b, 1, none⟩ = some (.int .i64 y) := (hb.cell _).trans h1
  obtain ⟨O, hO⟩ : ∃ O, firstFar x y = O := ⟨_, rfl⟩
  rw [hO]
  have E := Lib.hid hO
  clear hO
  unfold firstFar at E
  go_enter Tryz.func77, Tryz.ntmps77
  have ret : ∀ {a b : Bool}, a = b → Value.bool a = Value.bool b := fun h => by rw [h]
  clear ret
  go_wp2_with fail
  go_loop [8] (fun i => ∃ k : Nat, k ≤ 2 ∧ i = .int .i64 (k : Int) ∧ (0 < k → R.within x = true) ∧ (1 < k → R.within y = true)) (fun i => 2 - (intOf i).toNat)
  case atStart => exact ⟨0, by omega, rfl, by omega, by omega⟩
  case round =>
    obtain ⟨k, hk, rfl, hx, hy⟩ := hrel
    rcases (by omega : k = 0 ∨ k = 1 ∨ k = 2) with rfl | rfl | rfl
    · clear hx hy
      cases hw : R.within x
      all_goals have HW := Lib.hid hw; clear hw
      · go_wp2_with fail
        refine (far_any _ _).mono ?_
        rintro e w' ⟨rfl, rfl⟩
        rw [HW.out]
        go_wp2
        go_ret
        have e := E.out; rw [if_neg (by rw [HW.out]; simp)] at e; subst e
        exact ⟨rfl, rfl⟩
      · go_wp2_with fail
        refine (far_any _ _).mono ?_
        rintro e w' ⟨rfl, rfl⟩
        rw [HW.out]
        go_wp2
        go_round
        case rel => exact ⟨1, by omega, rfl, (by first | exact fun _ => HW.out | exact fun _ => trivial | simp), by omega⟩
        case measure => simp [intOf]
    · have HX := Lib.hid (hx (by omega))
      clear hx hy
      cases hw : R.within y
      all_goals have HW := Lib.hid hw; clear hw
      · go_wp2_with fail
        refine (far_any _ _).mono ?_
        rintro e w' ⟨rfl, rfl⟩
        rw [HW.out]
        go_wp2
        go_ret
        have e := E.out; rw [if_pos HX.out, if_neg (by rw [HW.out]; simp)] at e; subst e
        exact ⟨rfl, rfl⟩
      · go_wp2_with fail
        refine (far_any _ _).mono ?_
        rintro e w' ⟨rfl, rfl⟩
        rw [HW.out]
        go_wp2
        go_round
        case rel => exact ⟨2, by omega, rfl, (by first | exact fun _ => HX.out | exact fun _ => trivial | simp), (by first | exact fun _ => HW.out | exact fun _ => trivial | simp)⟩
        case measure => simp [intOf]
    · have HX := Lib.hid (hx (by omega))
      have HY := Lib.hid (hy (by omega))
      clear hx hy
      go_wp2
      go_ret
      have e := E.out; rw [if_pos HX.out, if_pos HY.out] at e; subst e
      exact ⟨rfl, rfl⟩

theorem contains2_any (w : World) (b : Nat) (x y : Int) (cs : Array Value) (T : TypeId) (hb : Blk w b cs T) (h0 : cs[0]? = some (.int .i64 x)) (h1 : cs[1]? = some (.int .i64 y)) :
    Calls Tryz.prog 55 #[.slice (some ⟨b, 0, none⟩) 2 2, .func (.func 56) #[] #[]] w fun e w' => e = .returned (.bool (!(R.within x && R.within y))) ∧ w = w' := by
  cases hx : R.within x
  all_goals cases hy : R.within y
  all_goals
    have HX := Lib.hid hx
    have HY := Lib.hid hy
    clear hx hy
    go_enter Tryz.func55, Tryz.ntmps55
    go_wp2_with fail
    refine (index2_any w b x y cs T hb h0 h1).mono ?_
    rintro e w' ⟨rfl, rfl⟩
    unfold firstFar
    rw [HX.out]
    first | rw [if_pos rfl, HY.out] | rw [if_neg (by simp)]
    first | rw [if_pos rfl] | rw [if_neg (by simp)] | skip
    go_wp2
    go_ret
    exact ⟨rfl, rfl⟩

theorem near2_any (w : World) (b : Nat) (x y : Int) (cs : Array Value) (T : TypeId) (hb : Blk w b cs T) (h0 : cs[0]? = some (.int .i64 x)) (h1 : cs[1]? = some (.int .i64 y)) :
    Calls Tryz.prog 44 #[.slice (some ⟨b, 0, none⟩) 2 2] w fun e w' => e = .returned (.bool (R.within x && R.within y)) ∧ w = w' := by
  cases hx : (R.within x && R.within y)
  all_goals
    have HX := Lib.hid hx
    clear hx
    go_enter Tryz.func44, Tryz.ntmps44
    go_wp2_with fail
    refine (contains2_any w b x y cs T hb h0 h1).mono ?_
    rintro e w' ⟨rfl, rfl⟩
    rw [HX.out]
    go_wp2
    go_ret
    exact ⟨rfl, rfl⟩

theorem ikeyAt_any (w : World) (n i : Int) :
    Calls Tryz.prog 29 #[.int .i64 n, .int .i64 i] w fun e w' => e = .returned (.int .i64 (R.keyAt n i)) ∧ Fr [] w w' := by
  cases hx : (R.within n && R.within i)
  all_goals
    have HX := Lib.hid hx
    clear hx
    go_enter Tryz.func29, Tryz.ntmps29
    go_wp2_with fail
    refine (near2_any _ w.heap.size n i _ _ (Blk.new w _ _) rfl rfl).mono ?_
    rintro e w' ⟨rfl, rfl⟩
    rw [HX.out]
  · go_wp2
    go_ret
    refine ⟨ret_int ?_, (Fr.refl [] w).alloc _⟩
    unfold R.keyAt
    rw [if_neg (fun h => by have := HX.out; rw [h.1, h.2] at this; cases this)]
  · have a := (R.within_eq n).1 (by have := HX.out; rw [Bool.and_eq_true] at this; exact this.1)
    have b := (R.within_eq i).1 (by have := HX.out; rw [Bool.and_eq_true] at this; exact this.2)
    obtain ⟨a1, a2⟩ := a
    obtain ⟨b1, b2⟩ := b
    go_wp2
    go_ret
    refine ⟨ret_int ?_, (Fr.refl [] w).alloc _⟩
    unfold R.keyAt
    rw [if_pos (by have := HX.out; rw [Bool.and_eq_true] at this; exact this)]
end Go.Proofs.YtfgkgmfcbhbomaaGreat
