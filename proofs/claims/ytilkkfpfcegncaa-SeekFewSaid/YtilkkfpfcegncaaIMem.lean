/- The program's memory. -/
import Derived.Test.YtilkkfpfcegncaaOwn
set_option linter.unusedVariables false
namespace Go.Proofs.Ytilkkfpfcegncaa
open Go.RowKit
open R (MS)

set_option maxHeartbeats 1000000 in
theorem imake_fits (w : World) (b : Nat) (v : Value) (M : MS) (W : List Int) (wa : Option Addr) (wc : Nat) (H : MemAt w b v M) (HW : Rd w 2 wa (ints .i64 W)) (hko : (M.make W).Ok) (hfit : M.fits W) :
    Calls Try.prog 17 #[.pointer (some ⟨b, 0, none⟩), .slice wa W.length wc] w fun e w' => e = .returned (.tuple #[.int .i64 (M.c.length + 1), .bool true]) ∧ ∃ v', MemAt w' b v' (M.make W) ∧ (v'.ownBlock = v.ownBlock ∨ v'.ownBlock = some w.heap.size) ∧ Fr (b :: ownOf v) w w' := by
  obtain ⟨hb, ho, hk⟩ := H
  obtain ⟨sa, cap, rfl, hr⟩ := own_Rd ho
  have hc := hb.cell
  have hf := hb.free
  have h1 := hk.max1
  have h2 := hk.len
  have hbl := hb.lt
  have g1 : ((W.length : Int) == 0) = false := by have := List.length_pos_iff.2 hfit.1; rw [beq_eq_false_iff_ne]; omega
  have g2 : (W.length : Int) ≤ M.max - M.c.length := hfit.2
  have F1 : Fr [b] w (w.setCell ⟨b, 2, none⟩ (.int .i64 (wrap64 (M.count + 1)))) := (Fr.refl _ _).setCell (.inl (by simp)) _
  have hb1 := hb.set 2 (.int .i64 (wrap64 (M.count + 1)))
  have ho1 := own_keep ho F1 (own_out ho hb (by decide))
  have HW1 := HW.keep F1 (hb.out (by decide))
  have hob := own_out ho hb (by decide)
  have g4 : decide (M.max - (M.c.length : Int) < (W.length : Int)) = false := by simp; omega
  have hbn : b ∉ ownOf (.slice sa M.c.length cap) := by
    intro hm
    exact hob b (by simpa [ownOf] using hm) (by simp)
  go_enter Try.func17, Try.ntmps17
  go_wp2
  go_quiet (fail)
  go_wp2_with (at_builtin; refine append_i64 _ rfl _ _ rfl (.slice sa M.c.length cap) M.c W rfl ho1 wa _ wc rfl rfl HW1 hfit.1 (by omega) ?_; intro v' w1 hown' F2 hat'; obtain ⟨sa', cap', rfl, hR'⟩ := own_Rd hown'; have hb2 := (hb1.drewN _).keep F2 hbn; have hc2 := hb2.cell; have hf2 := hb2.free; clear hc hf)
  go_ret2
  have F3 := (((F1.drewN _).mono (S' := b :: ownOf (.slice sa M.c.length cap)) (by simp)).trans (F2.mono (fun x hx => List.mem_cons_of_mem _ hx))).setCell (p := ⟨b, 0, none⟩) (.inl (by simp)) (.slice sa' (M.c.length + W.length) cap')
  unfold R.MS.make at hko ⊢
  rw [if_pos hfit] at hko ⊢
  refine ⟨rfl, _, ⟨?_, by rw [List.length_append]; exact own_keep hown' ((Fr.refl [b] _).setCell (.inl (by simp)) _) (own_out hown' hb2 (by decide)), hko⟩, by simpa [World.setCell] using hat', F3⟩
  have e := hb2.set 0 (.slice sa' (M.c.length + W.length) cap')
  rw [w64_eq] at e
  exact e

set_option maxHeartbeats 1000000 in
theorem imake_not (w : World) (b : Nat) (v : Value) (M : MS) (W : List Int) (wa : Option Addr) (wc : Nat) (H : MemAt w b v M) (hko : (M.make W).Ok) (hfit : ¬ M.fits W) :
    Calls Try.prog 17 #[.pointer (some ⟨b, 0, none⟩), .slice wa W.length wc] w fun e w' => e = .returned (.tuple #[.int .i64 0, .bool false]) ∧ ∃ v', MemAt w' b v' (M.make W) ∧ (v'.ownBlock = v.ownBlock ∨ v'.ownBlock = some w.heap.size) ∧ Fr (b :: ownOf v) w w' := by
  obtain ⟨hb, ho, hk⟩ := H
  obtain ⟨sa, cap, rfl, hr⟩ := own_Rd ho
  have hc := hb.cell
  have hf := hb.free
  have h1 := hk.max1
  have h2 := hk.len
  have hbl := hb.lt
  have hob := own_out ho hb (by decide)
  have hfit' : W = [] ∨ (¬ W = [] ∧ M.max - (M.c.length : Int) < (W.length : Int)) := by
    by_cases h : W = []
    · exact .inl h
    · exact .inr ⟨h, Int.not_le.1 fun x => hfit ⟨h, x⟩⟩
  unfold R.MS.make at hko ⊢
  rw [if_neg hfit] at hko ⊢
  have F5 : ∀ n, Fr [b] w (((w.setCell ⟨b, 2, none⟩ (.int .i64 (wrap64 (M.count + 1)))).drewN n).setCell ⟨b, 4, none⟩ (.int .i64 (wrap64 (M.refused + 1)))) := fun n => (((Fr.refl _ _).setCell (.inl (by simp)) _).drewN n).setCell (.inl (by simp)) _
  rcases hfit' with h | ⟨h, h'⟩
  · have g1 : ((W.length : Int) == 0) = true := by rw [h]; rfl
    clear h
    go_enter Try.func17, Try.ntmps17
    go_wp2
    go_quiet (fail)
    go_wp2
    go_ret2
    refine ⟨rfl, _, ⟨?_, own_keep ho (F5 _) hob, hko⟩, .inl rfl, (F5 _).mono (by simp)⟩
    have e := ((hb.set 2 (.int .i64 (wrap64 (M.count + 1)))).drewN nq).set 4 (.int .i64 (wrap64 (M.refused + 1)))
    simp only [← w64_eq]
    exact e
  · have g4 : decide (M.max - (M.c.length : Int) < (W.length : Int)) = true := by simpa using h'
    have g1 : ((W.length : Int) == 0) = false := by have := List.length_pos_iff.2 h; rw [beq_eq_false_iff_ne]; omega
    clear h h'
    go_enter Try.func17, Try.ntmps17
    go_wp2
    go_quiet (fail)
    go_wp2
    go_ret2
    refine ⟨rfl, _, ⟨?_, own_keep ho (F5 _) hob, hko⟩, .inl rfl, (F5 _).mono (by simp)⟩
    have e := ((hb.set 2 (.int .i64 (wrap64 (M.count + 1)))).drewN nq).set 4 (.int .i64 (wrap64 (M.refused + 1)))
    simp only [← w64_eq]
    exact e

theorem imake_any (w : World) (b : Nat) (v : Value) (M : MS) (W : List Int) (wa : Option Addr) (wc : Nat) (H : MemAt w b v M) (HW : Rd w 2 wa (ints .i64 W)) (hW : ∀ x ∈ W, -9223372036854775808 ≤ x ∧ x ≤ 9223372036854775807) :
    Calls Try.prog 17 #[.pointer (some ⟨b, 0, none⟩), .slice wa W.length wc] w fun e w' => e = .returned (.tuple #[.int .i64 (M.made W), .bool (decide (M.fits W))]) ∧ ∃ v', MemAt w' b v' (M.make W) ∧ (v'.ownBlock = v.ownBlock ∨ v'.ownBlock = some w.heap.size) ∧ Fr (b :: ownOf v) w w' := by
  have hko := make_ok H.2.2 W hW
  by_cases hfit : M.fits W
  · rw [show M.made W = (M.c.length : Int) + 1 from by unfold R.MS.made; rw [if_pos hfit], decide_eq_true hfit]
    exact imake_fits w b v M W wa wc H HW hko hfit
  · rw [show M.made W = 0 from by unfold R.MS.made; rw [if_neg hfit], decide_eq_false hfit]
    exact imake_not w b v M W wa wc H hko hfit

theorem cell_has (w : World) (b : Nat) (v : Value) (M : MS) (a : Int) (H : MemAt w b v M) (hh : M.has a) :
    Calls Try.prog 24 #[.pointer (some ⟨b, 0, none⟩), .int .i64 a] w fun e w' => ∃ g, e = .returned (.pointer (some ⟨g, a.toNat - 1, none⟩)) ∧ v.ownBlock = some g ∧ MemAt w' b v (M.met a) ∧ Fr [b] w w' := by
  obtain ⟨hb, ho, hk⟩ := H
  have hko := met_ok hk a
  have h1 := hh.1
  have h2 := hh.2
  have h3 := hk.max1
  have h4 := hk.len
  obtain ⟨g, cap, cur, rfl, hg, hcell⟩ := own_cell ho (a - 1).toNat (by omega)
  have hob := own_out ho hb (by decide)
  have hne : b ≠ g := hb.ne hg (by decide)
  have hc := hb.cell
  have hf := hb.free
  have g2 : decide ((M.c.length : Int) < a) = false := by simp; omega
  clear hcell
  go_enter Try.func24, Try.ntmps24
  go_wp2
  go_ret
  have F : Fr [b] w (w.setCell ⟨b, 2, none⟩ (.int .i64 (wrap64 (M.count + 1)))) := (Fr.refl _ _).setCell (.inl (by simp)) _
  refine ⟨g, rfl, rfl, ?_, F⟩
  unfold R.MS.met at hko ⊢
  rw [if_pos hh] at hko ⊢
  refine ⟨?_, own_keep ho F hob, hko⟩
  have e := hb.set 2 (.int .i64 (wrap64 (M.count + 1)))
  simp only [← w64_eq]
  exact e

theorem cell_not (w : World) (b : Nat) (v : Value) (M : MS) (a : Int) (H : MemAt w b v M) (hh : ¬ M.has a) :
    Calls Try.prog 24 #[.pointer (some ⟨b, 0, none⟩), .int .i64 a] w fun e w' => e = .returned (.pointer none) ∧ MemAt w' b v (M.met a) ∧ Fr [b] w w' := by
  obtain ⟨hb, ho, hk⟩ := H
  have hko := met_ok hk a
  obtain ⟨sa, cap, rfl, hr⟩ := own_Rd ho
  have h3 := hk.max1
  have h4 := hk.len
  have hob := own_out ho hb (by decide)
  have hc := hb.cell
  have hf := hb.free
  have F : Fr [b] w ((w.setCell ⟨b, 2, none⟩ (.int .i64 (wrap64 (M.count + 1)))).setCell ⟨b, 3, none⟩ (.int .i64 (wrap64 (M.odd + 1)))) := ((Fr.refl _ _).setCell (.inl (by simp)) _).setCell (.inl (by simp)) _
  have e := (hb.set 2 (.int .i64 (wrap64 (M.count + 1)))).set 3 (.int .i64 (wrap64 (M.odd + 1)))
  have E := Lib.hid e
  clear e
  unfold R.MS.met at hko ⊢
  rw [if_neg hh] at hko ⊢
  simp only [← w64_eq] at hko ⊢
  rcases Int.lt_or_le a 1 with h1 | h1
  · go_enter Try.func24, Try.ntmps24
    go_wp2
    go_ret
    exact ⟨rfl, ⟨E.out, own_keep ho F hob, hko⟩, F⟩
  · have h2 : (M.c.length : Int) < a := Int.not_le.1 fun h => hh ⟨h1, h⟩
    go_enter Try.func24, Try.ntmps24
    go_wp2
    go_ret
    exact ⟨rfl, ⟨E.out, own_keep ho F hob, hko⟩, F⟩

theorem iread_any (w : World) (b : Nat) (v : Value) (M : MS) (a : Int) (H : MemAt w b v M) :
    Calls Try.prog 34 #[.pointer (some ⟨b, 0, none⟩), .int .i64 a] w fun e w' => e = .returned (.int .i64 (M.at_ a)) ∧ MemAt w' b v (M.met a) ∧ Fr [b] w w' := by
  by_cases hh : M.has a
  · obtain ⟨X, hX⟩ : ∃ X, M.c.getD (a - 1).toNat 0 = X := ⟨_, rfl⟩
    have hv := at_has M a hh
    rw [hv, hX]
    have HX := Lib.hid hX
    clear hX hv
    go_enter Try.func34, Try.ntmps34
    go_wp2_with fail
    refine (cell_has w b v M a H hh).mono ?_
    rintro e w1 ⟨g, rfl, hg, H1, F⟩
    have ho := H1.2.1
    have h1 := hh.1
    have h2 := hh.2
    rw [met_c] at ho
    obtain ⟨g', cap, cur, rfl, hg', hcell⟩ := own_cell ho (a - 1).toNat (by omega)
    injection hg with hg
    subst hg
    rw [HX.out] at hcell
    have hc2 : w1.cell? ⟨g', a.toNat - 1, none⟩ = some (.int .i64 X) := by rw [show a.toNat - 1 = (a - 1).toNat from by omega]; exact (hg'.cell _).trans hcell
    clear hcell
    go_wp2_with fail
    go_ret
    exact ⟨rfl, H1, F⟩
  · rw [at_not M a hh]
    go_enter Try.func34, Try.ntmps34
    go_wp2_with fail
    refine (cell_not w b v M a H hh).mono ?_
    rintro e w1 ⟨rfl, H1, F⟩
    go_wp2_with fail
    go_ret
    exact ⟨rfl, H1, F⟩

theorem used_any (w : World) (b : Nat) (v : Value) (M : MS) (H : MemAt w b v M) :
    Calls Try.prog 15 #[.pointer (some ⟨b, 0, none⟩)] w fun e w' => e = .returned (.int .i64 (M.c.length : Int)) ∧ w = w' := by
  obtain ⟨hb, ho, hk⟩ := H
  obtain ⟨sa, cap, rfl, hr⟩ := own_Rd ho
  have hc := hb.cell
  go_enter Try.func15, Try.ntmps15
  go_wp2
  go_ret
  exact ⟨rfl, rfl⟩

theorem size_any (w : World) (b : Nat) (v : Value) (M : MS) (H : MemAt w b v M) :
    Calls Try.prog 16 #[.pointer (some ⟨b, 0, none⟩)] w fun e w' => e = .returned (.int .i64 M.max) ∧ w = w' := by
  have hc := H.1.cell
  go_enter Try.func16, Try.ntmps16
  go_wp2
  go_ret
  exact ⟨rfl, rfl⟩

theorem inew_any (w : World) (n : Int) (h1 : 1 ≤ n) (h2 : n ≤ 65536) :
    Calls Try.prog 5 #[.int .i64 n] w fun e w' => ∃ b, e = .returned (.tuple #[.pointer (some ⟨b, 0, none⟩), .int .i64 0]) ∧ w.heap.size ≤ b ∧ MemAt w' b (.slice none 0 0) ⟨[], n, 0, 0, 0⟩ ∧ Fr [] w w' := by
  go_enter Try.func5, Try.ntmps5
  go_wp2
  go_ret2
  exact ⟨w.heap.size, rfl, Nat.le_refl _, ⟨Blk.new _ _ _, ⟨rfl, .inl ⟨rfl, rfl⟩⟩, ⟨h1, h2, by simp; omega, by simp⟩⟩, (Fr.refl _ _).alloc _⟩

end Go.Proofs.Ytilkkfpfcegncaa
