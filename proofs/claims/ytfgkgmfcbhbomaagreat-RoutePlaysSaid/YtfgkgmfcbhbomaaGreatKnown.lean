/- The program's route, one step; law15.known. -/
import Derived.Test.YtfgkgmfcbhbomaaGreatAt
set_option linter.unusedVariables false
namespace Go.Proofs.YtfgkgmfcbhbomaaGreat
open Go.RowKit
open R (MS IR)

/-- One step, with the memory: nothing once it is done. -/
def stepM (f : IR) (M : MS) : IR × MS := if f.next = 6 then (f, M) else (f.step (M.at_ f.addr), M.met f.addr)
def stepPostM (w : World) (b mb : Nat) (f : IR) (mv : Value) (M : MS) (e : Ending) (w' : World) : Prop :=
  e = .returned (.bool ((stepM f M).1.next == 6)) ∧ IRAt w' b (stepM f M).1 ∧ MemAt w' mb mv (stepM f M).2 ∧ Fr [b, mb] w w'
theorem irstep_any (w : World) (b mb : Nat) (f : IR) (mv : Value) (M : MS) (H : IRAt w b f) (HM : MemAt w mb mv M) (hn : R.I64 f.n) :
    Calls Tryz.prog 13 #[.pointer (some ⟨b, 0, none⟩), .pointer (some ⟨mb, 0, none⟩)] w (stepPostM w b mb f mv M) := by
  by_cases h6 : f.next = 6
  · refine (irstep_done w b f _ H h6).mono ?_
    rintro e w' ⟨rfl, rfl⟩
    unfold stepPostM stepM
    rw [if_pos h6]
    exact ⟨by rw [h6]; rfl, H, HM, Fr.refl _ _⟩
  · by_cases h0 : f.next = 0
    · refine (irstep_degree w b mb f mv M H HM h0 hn).mono ?_
      intro e w' h
      unfold stepPostM stepM
      rw [if_neg h6]
      exact h
    · refine (irstep_key w b mb f mv M H HM h0 h6).mono ?_
      intro e w' h
      unfold stepPostM stepM
      rw [if_neg h6]
      exact h

/-- The example's steps. -/
def kn : Nat → IR × MS
  | 0 => (⟨0, 8, 25, 0, 0, 0, 0⟩, ⟨laid [10, 20, 30, 40], 2000, 4, 0, 0⟩)
  | k + 1 => stepM (kn k).1 (kn k).2
theorem step_n (f : IR) (q : Int) : (f.step q).n = f.n := by
  unfold R.IR.step R.IR.key R.IR.guess R.IR.up R.IR.down R.IR.fin
  repeat' split
  all_goals rfl
theorem stepM_n (f : IR) (M : MS) : (stepM f M).1.n = f.n := by
  unfold stepM; split
  · rfl
  · exact step_n _ _
theorem kn_n : ∀ k, (kn k).1.n = 8 := by
  intro k
  induction k with
  | zero => rfl
  | succ k ih => exact (stepM_n _ _).trans ih
theorem kn_next : ∀ k, k < 5 → ((stepM (kn k).1 (kn k).2).1.next == 6) = ((k : Int) == 4) := by decide
theorem kn_end : (kn 5).1.next = 6 ∧ (kn 5).1.degree = 5 ∧ (kn 5).1.child = 2 := by decide
theorem kn_first : (stepM ⟨0, 1, 5, 0, 0, 0, 0⟩ ⟨laid [10, 20, 30, 40], 2000, 3, 0, 0⟩).1.next = 6 ∧ (stepM ⟨0, 1, 5, 0, 0, 0, 0⟩ ⟨laid [10, 20, 30, 40], 2000, 3, 0, 0⟩).1.degree = 1 ∧ (stepM ⟨0, 1, 5, 0, 0, 0, 0⟩ ⟨laid [10, 20, 30, 40], 2000, 3, 0, 0⟩).1.child = 0 := by decide
theorem kn_first2 : (stepM ⟨0, 1, 5, 0, 0, 0, 0⟩ ⟨laid [10, 20, 30, 40], 2000, 3, 0, 0⟩).2 = ⟨laid [10, 20, 30, 40], 2000, 4, 0, 0⟩ := by rfl

set_option maxHeartbeats 2000000 in
theorem known_any (w : World) :
    Calls Tryz.prog 7 #[] w fun e w' => e = .returned (.bool true) ∧ Fr [] w w' := by
  go_enter Tryz.func7, Tryz.ntmps7
  go_wp2_with fail
  have R0 : Rd (w.alloc (.cells #[.int .i64 10, .int .i64 20, .int .i64 30, .int .i64 40] 2)) 2 (some ⟨w.heap.size, 0, none⟩) (ints .i64 [10, 20, 30, 40]) :=
    .inr ⟨w.heap.size, 0, _, (0, 0), rfl, Blk.new w _ _, fun j hj => by
      have hj' : j < 4 := by simpa [ints] using hj
      rcases (by omega : j = 0 ∨ j = 1 ∨ j = 2 ∨ j = 3) with rfl | rfl | rfl | rfl <;> rfl⟩
  refine (at_any _ _ 4 [10, 20, 30, 40] R0 (by decide) (by decide)).mono ?_
  rintro e w1 ⟨m, mv, rfl, hm, H1, hmv, F1⟩
  have hmw : w.heap.size ≤ m := by have h := hm; simp at h; omega
  clear hm
  have F01 : Fr [] w w1 := ((Fr.refl [] w).alloc _).trans F1
  go_wp2_with fail
  refine (irnew_any _ 1 5 (by decide)).mono ?_
  rintro e w2 ⟨rfl, H2, F2⟩
  have F02 := F01.trans F2
  have HM2 := H1.grow F2
  obtain ⟨f1, f2, f3⟩ := kn_first
  have f4 := kn_first2
  obtain ⟨G, hG⟩ : ∃ G, stepM ⟨0, 1, 5, 0, 0, 0, 0⟩ ⟨laid [10, 20, 30, 40], 2000, 3, 0, 0⟩ = G := ⟨_, rfl⟩
  rw [hG] at f1 f2 f3 f4
  have HG := Lib.hid hG
  obtain ⟨fr, hfr⟩ : ∃ fr, w1.heap.size = fr := ⟨_, rfl⟩
  have hfrw : w.heap.size ≤ fr := by have := F01.size; omega
  rw [hfr] at H2
  rw [hfr]
  clear hG hfr
  go_wp2_with fail
  refine (irstep_any _ fr m _ mv _ H2 HM2 (by decide)).mono ?_
  rintro e w3 ⟨rfl, H3, HM3, F3⟩
  rw [HG.out] at H3 HM3 ⊢
  rw [f1]
  rw [f4] at HM3
  have t1 : ((6 : Int) == 6) = true := rfl
  have F03 : Fr [] w w3 := F02.trans' F3 (fun x hx => by simp at hx; rcases hx with rfl | rfl <;> (right; omega))
  go_wp2_with fail
  refine (irdegree_any _ fr _ H3).mono ?_
  rintro e w' ⟨rfl, rfl⟩
  rw [if_pos f1, f2]
  go_wp2_with fail
  refine (irchild_any _ fr _ H3).mono ?_
  rintro e w' ⟨rfl, rfl⟩
  rw [f3]
  clear f1 f2 f3 f4
  go_wp2_with fail
  refine (irnew_any _ 8 25 (by decide)).mono ?_
  rintro e w4 ⟨rfl, H4, F4⟩
  have HM4 := HM3.grow F4
  have F04 := F03.trans F4
  obtain ⟨fg, hfg⟩ : ∃ fg, w3.heap.size = fg := ⟨_, rfl⟩
  have hfgw : w.heap.size ≤ fg := by have := F03.size; omega
  rw [hfg] at H4
  rw [hfg]
  clear hfg
  go_wp2_with fail
  go_loopw [4] (fun i wr => ∃ k : Nat, k ≤ 5 ∧ i = .int .i64 (k : Int) ∧ IRAt wr fg (kn k).1 ∧ MemAt wr m mv (kn k).2 ∧ Fr [] w wr) (fun i _ => 5 - (intOf i).toNat)
  case atStart => exact ⟨0, by omega, rfl, H4, HM4, F04⟩
  case round =>
    obtain ⟨k, hk, rfl, H5, HM5, F05⟩ := hrel
    rcases Nat.lt_or_ge k 5 with hlt | hge
    · have hn := kn_next k hlt
      obtain ⟨D, hD⟩ : ∃ D, ((k : Int) == 4) = D := ⟨_, rfl⟩
      rw [hD] at hn
      have HD := Lib.hid hn
      have h0 : (k : Int) < 5 := by omega
      clear hn
      go_wp2_with fail
      refine (irstep_any _ fg m _ mv _ H5 HM5 (by rw [kn_n]; decide)).mono ?_
      rintro e w6 ⟨rfl, H6, HM6, F6⟩
      rw [HD.out]
      cases D
      all_goals
        go_wp2_with fail
        go_roundw
        case rel => exact ⟨k + 1, by omega, by go_num, H6, HM6, F05.trans' F6 (fun x hx => by simp at hx; rcases hx with rfl | rfl <;> (right; omega))⟩
        case measure => simp [intOf]; omega
    · obtain rfl : k = 5 := by omega
      obtain ⟨e1, e2, e3⟩ := kn_end
      have t5 : ((5 : Int) == 5) = true := rfl
      have t2 : ((2 : Int) == 2) = true := rfl
      have E1 := Lib.hid e1
      have E2 := Lib.hid e2
      have E3 := Lib.hid e3
      clear e1 e2 e3
      go_wp2_with fail
      refine (irdegree_any _ fg _ H5).mono ?_
      rintro e w' ⟨rfl, rfl⟩
      rw [if_pos E1.out, E2.out]
      go_wp2_with fail
      refine (irchild_any _ fg _ H5).mono ?_
      rintro e w' ⟨rfl, rfl⟩
      rw [E3.out]
      go_wp2_with fail
      refine (irdone_any _ fg _ H5).mono ?_
      rintro e w' ⟨rfl, rfl⟩
      rw [E1.out]
      go_wp2
      go_ret
      exact ⟨rfl, F05⟩
end Go.Proofs.YtfgkgmfcbhbomaaGreat
