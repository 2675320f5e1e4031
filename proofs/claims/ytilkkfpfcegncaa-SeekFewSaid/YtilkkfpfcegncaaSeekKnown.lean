/- law16.known. -/
import Derived.Test.YtilkkfpfcegncaaISeek4
import Derived.Test.YtilkkfpfcegncaaNode
set_option linter.unusedVariables false
namespace Go.Proofs.Ytilkkfpfcegncaa
open Go.RowKit
open R (MS IR IP IK)

theorem IKS.grow {w w' : World} {b : Nat} {S : List Nat} {f : IK} (h : IKS w b S f) (hf : Fr [] w w') : IKS w' b S f := by
  obtain ⟨rb, pp, H⟩ := h
  exact ⟨rb, pp, H.keep hf (by simp)⟩
/-- The example's steps. -/
def sk : Nat → IK × MS
  | 0 => (R.IK.start 5, ⟨begun, 9, 2, 0, 0⟩)
  | t + 1 => ikStep (sk t).1 (sk t).2
theorem sk_all : (((sk 1).1.next == 5) = false ∧ ((sk 2).1.next == 5) = true) ∧ (sk 2).1.value = 0 ∧ (sk 2).1.there = false := by decide

set_option maxHeartbeats 2000000 in
theorem known16_any (w : World) :
    Calls Try.prog 12 #[] w fun e w' => e = .returned (.bool true) ∧ Fr [] w w' := by
  obtain ⟨⟨d1, d2⟩, d3, d4⟩ := sk_all
  have D1 := Lib.hid d1
  have D2 := Lib.hid d2
  have D3 := Lib.hid d3
  have D4 := Lib.hid d4
  clear d1 d2 d3 d4
  go_enter Try.func12, Try.ntmps12
  go_wp2_with fail
  refine (inew_any _ 9 (by omega) (by omega)).mono ?_
  rintro e w1 ⟨m, rfl, hm, HM1, F1⟩
  go_wp2_with fail
  refine (begin_any _ m 9 (by omega) (by omega) HM1).mono ?_
  rintro e w2 ⟨rfl, mv, HM2, hmv, F2⟩
  have F02 : Fr [] w w2 := F1.trans' F2 (fun x hx => by simp at hx; right; omega)
  go_wp2_with fail
  refine (isnew_any _ 5 (by decide)).mono ?_
  rintro e w3 ⟨rfl, S, HS3, hS, F3⟩
  have HM3 := HM2.grow F3
  have F03 := F02.trans F3
  have hSw : ∀ x ∈ S, w.heap.size ≤ x := fun x hx => by
    rcases hS x hx with h | h
    · simp at h
    · have := F02.size; omega
  obtain ⟨fb, hfb⟩ : ∃ fb, w2.heap.size = fb := ⟨_, rfl⟩
  rw [hfb] at HS3
  rw [hfb]
  clear hfb hS
  go_wp2_with fail
  refine (isstep_any _ fb m S _ mv _ HS3 HM3).mono ?_
  rintro e w4 ⟨rfl, ⟨S4, HS4, hS4⟩, HM4, F4⟩
  have F04 : Fr [] w w4 := F03.trans' F4 (fun x hx => by
    rcases List.mem_cons.1 hx with rfl | hx
    · right; omega
    · exact .inr (hSw x hx))
  have hSw4 : ∀ x ∈ S4, w.heap.size ≤ x := fun x hx => by
    rcases hS4 x hx with h | h
    · exact hSw x h
    · have := F03.size; omega
  rw [show ((ikStep (R.IK.start 5) ⟨begun, 9, 2, 0, 0⟩).1.next == 5) = false from D1.out]
  go_wp2_with fail
  refine (isstep_any _ fb m S4 _ mv _ HS4 HM4).mono ?_
  rintro e w5 ⟨rfl, ⟨S5, HS5, hS5⟩, HM5, F5⟩
  have F05 : Fr [] w w5 := F04.trans' F5 (fun x hx => by
    rcases List.mem_cons.1 hx with rfl | hx
    · right; omega
    · exact .inr (hSw4 x hx))
  rw [show ((ikStep (ikStep (R.IK.start 5) ⟨begun, 9, 2, 0, 0⟩).1 (ikStep (R.IK.start 5) ⟨begun, 9, 2, 0, 0⟩).2).1.next == 5) = true from D2.out]
  obtain ⟨G, hG⟩ : ∃ G, (ikStep (ikStep (R.IK.start 5) ⟨begun, 9, 2, 0, 0⟩).1 (ikStep (R.IK.start 5) ⟨begun, 9, 2, 0, 0⟩).2).1 = G := ⟨_, rfl⟩
  rw [hG] at HS5
  have g2 : (G.next == 5) = true := by rw [← hG]; exact D2.out
  have g3 : G.value = 0 := by rw [← hG]; exact D3.out
  have g4 : G.there = false := by rw [← hG]; exact D4.out
  obtain ⟨rb, pp, HK⟩ := HS5
  have hb5 := HK.blk
  have G2 := Lib.hid g2
  clear hG g2 D1 D2 D3 D4
  go_wp2_with fail
  refine (isvalue_any _ fb rb pp G hb5).mono ?_
  rintro e w6 ⟨rfl, n6, rfl⟩
  rw [g3, g4]
  clear g3 g4
  have hb6 : Blk (w5.drewN n6) fb (ikCells G rb pp) 56 := hb5
  go_wp2_with fail
  refine (isdone_any _ fb rb pp G hb6).mono ?_
  rintro e w' ⟨rfl, rfl⟩
  rw [G2.out]
  go_wp2
  go_ret
  exact ⟨rfl, F05.drewN _⟩
end Go.Proofs.Ytilkkfpfcegncaa
