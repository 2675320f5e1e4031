/- hand.Like. -/
import Derived.Test.YtfgkgmfcbhbomaaGreatWide
import Derived.Test.YtfgkgmfcbhbomaaGreatIRStep
import Derived.Deep.RegionHeld3
set_option linter.unusedVariables false
namespace Go.Proofs.YtfgkgmfcbhbomaaGreat
open Go.RowKit
open R (MS)

theorem MemAt.drewN {w : World} {b : Nat} {v : Value} {M : MS} (H : MemAt w b v M) (n : Nat) : MemAt (w.drewN n) b v M := H
theorem Fr.of_drew {S : List Nat} {a b : World} (h : Fr S a.drew b) : Fr S a b := ⟨h.os, h.tape, h.output, h.size, h.keep⟩
theorem Fr.of_drewN {S : List Nat} {a b : World} {n : Nat} (h : Fr S (a.drewN n) b) : Fr S a b := ⟨h.os, h.tape, h.output, h.size, h.keep⟩

set_option maxHeartbeats 2000000 in
theorem like_any (w : World) (b x : Nat) (v xv : Value) (M X : MS) (H : MemAt w b v M) (HX : RMemAt w x xv X) (hcc : M.c = X.c) (hmm : M.max = X.max) :
    Calls Tryz.prog 18 #[.pointer (some ⟨b, 0, none⟩), .pointer (some ⟨x, 0, none⟩)] w fun e w' => e = .returned (.bool true) ∧ Fr [] w w' := by
  have hm1 := H.2.2.len
  have hm2 := H.2.2.max1
  have hx1 := HX.2.2.len
  have hx2 := HX.2.2.max1
  obtain ⟨xa, xc, rfl, hxr⟩ := own_Rd HX.2.1
  have c0 : w.cell? ⟨x, 0, none⟩ = some (.int .i64 X.max) := HX.1.cell 0
  have c1 : w.cell? ⟨x, 1, none⟩ = some (.slice xa X.c.length xc) := HX.1.cell 1
  have t1 : ((M.c.length : Int) == (X.c.length : Int)) = true := by simp [hcc]
  have t2 : (M.max == X.max) = true := by simp [hmm]
  have hB : decide (M.c = X.c) = true := by simp [hcc]
  have HB := Lib.hid hB
  clear hB hcc hmm
  go_enter Tryz.func18, Tryz.ntmps18
  go_wp2_with fail
  go_region_held3 (fun w' => w'.cell? ⟨x, 0, none⟩ = some (.int .i64 X.max) ∧ w'.cell? ⟨x, 1, none⟩ = some (.slice xa X.c.length xc)) (first | exact ⟨c0, c1⟩ | exact ⟨k0, k1⟩)
    (first
      | (go_at_call 10
         refine (cells_any _ b v M (by exact H) (by omega)).mono ?_
         rintro e w1 ⟨v1, rfl, o1, g1, F1⟩
         replace F1 := F1.of_drew
         have k0 : w1.cell? ⟨x, 0, none⟩ = some (.int .i64 X.max) := (HX.1.keep F1 (by simp)).cell 0
         have k1 : w1.cell? ⟨x, 1, none⟩ = some (.slice xa X.c.length xc) := (HX.1.keep F1 (by simp)).cell 1
         obtain ⟨ra, rc, rfl, R1⟩ := own_Rd o1
         have RX := hxr.grow F1
         have H1 := H.grow F1)
      | (go_at_call 32
         refine (words_any _ _ _ _ _ _ _ R1 RX (by omega)).mono ?_
         rintro e w2 ⟨rfl, n, rfl⟩
         rw [HB.out])
      | (go_at_call 33
         refine (used_any _ b v M (by exact H1)).mono ?_
         rintro e w2 ⟨rfl, rfl⟩)
      | (go_at_call 34
         refine (size_any _ b v M (by exact H1)).mono ?_
         rintro e w2 ⟨rfl, rfl⟩))
  all_goals
    go_wp2
    go_ret
    exact ⟨rfl, F1.drewN _⟩
end Go.Proofs.YtfgkgmfcbhbomaaGreat
