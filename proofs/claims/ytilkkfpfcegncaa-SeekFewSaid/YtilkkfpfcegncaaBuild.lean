/- plant.Right, plant.Build. -/
import Derived.Test.YtilkkfpfcegncaaLay
set_option linter.unusedVariables false
namespace Go.Proofs.Ytilkkfpfcegncaa
open Go.RowKit
open R (MS)

def Asc (l : List (Int × Int)) : Prop := ∀ j, j + 1 < l.length → (l.getD j (0, 0)).1 < (l.getD (j + 1) (0, 0)).1
theorem iright_any (w : World) (a : Option Addr) (cap : Nat) (l : List (Int × Int)) (HR : Rd w 25 a (pcells l)) (hA : Asc l) (hpi : PI l) (hl : l.length ≤ 16384) :
    Calls Try.prog 21 #[.slice a l.length cap] w fun e w' => e = .returned (.bool true) ∧ ∃ n, w' = w.drewN n := by
  go_enter Try.func21, Try.ntmps21
  go_wp2
  go_loopw [3] (fun i wr => ∃ k : Nat, i = .int .i64 (k : Int) ∧ 1 ≤ k ∧ (k ≤ l.length ∨ k = 1) ∧ ∃ n, wr = w.drewN n) (fun i _ => l.length + 1 - (intOf i).toNat)
  case atStart => exact ⟨1, rfl, by omega, .inr rfl, 0, rfl⟩
  case round =>
    obtain ⟨k, rfl, hk, hk2, n, rfl⟩ := hrel
    rcases Nat.lt_or_ge k l.length with h | h
    · obtain ⟨pb, po, rfl, hca⟩ := HR.cells_at (by intro e; have := congrArg List.length e; rw [pcells_length, List.length_nil] at this; omega)
      obtain ⟨j, rfl⟩ : ∃ j, k = j + 1 := ⟨k - 1, by omega⟩
      have c0 := (rd_pair HR j (by omega)).1
      have c1 := (rd_pair HR (j + 1) h).1
      have hlt := hA j h
      have hb0 := (hpi.getD j).1
      have hb1 := (hpi.getD (j + 1)).1
      obtain ⟨x, hx⟩ : ∃ x, (l.getD j (0, 0)).1 = x := ⟨_, rfl⟩
      obtain ⟨y, hy⟩ : ∃ y, (l.getD (j + 1) (0, 0)).1 = y := ⟨_, rfl⟩
      rw [hx] at c0 hlt hb0
      rw [hy] at c1 hlt hb1
      have e1 : ((j + 1 : Nat) : Int) - 1 = (j : Int) := by omega
      have e2 : IntKind.i64.wrap (j : Int) = (j : Int) := by rw [IntKind.wrap_i64]; omega
      have j0 : (0 : Int) ≤ (j : Int) := by omega
      have j1 : (j : Int) < (l.length : Int) := by omega
      have j2 : ((j + 1 : Nat) : Int) < (l.length : Int) := by omega
      have j3 : (0 : Int) ≤ ((j + 1 : Nat) : Int) := by omega
      clear hca hx hy
      go_wp2
      go_quiet (fail)
      go_wp2
      go_roundw
      case rel => exact ⟨j + 1 + 1, by go_num, by omega, .inl (by omega), _, rfl⟩
      case measure => simp [intOf]; omega
    · have h' : (l.length : Int) ≤ (k : Int) := by omega
      go_wp2
      go_ret
      exact ⟨ret_bool (by simp; omega), _, rfl⟩

def buildPost (w : World) (mb : Nat) (mv : Value) (x : Int) (M' : MS) (e : Ending) (w' : World) : Prop :=
  e = .returned (.tuple #[.int .i64 x, .bool true]) ∧ ∃ mv', MemAt w' mb mv' M' ∧ Same w mv mv' ∧ Fr (mb :: ownOf mv) w w'
theorem ibuild_any (w : World) (mb : Nat) (mv : Value) (M : MS) (a : Option Addr) (cap : Nat) (l : List (Int × Int)) (H : MemAt w mb mv M) (HR : Rd w 25 a (pcells l)) (hA : Asc l) (hpi : PI l) (hl : l.length ≤ 16384) (hcap : l.length ≤ cap) (hcap2 : cap ≤ 9223372036854775807)
    (hc : R.cells l.length ≤ M.max - M.c.length) :
    Calls Try.prog 7 #[.pointer (some ⟨mb, 0, none⟩), .slice a l.length cap] w (buildPost w mb mv (R.layF (l.length + 1) l M).1 (R.layF (l.length + 1) l M).2) := by
  have hm1 := H.2.2.len
  have hm2 := H.2.2.max1
  have hm0 := H.2.2.max0
  obtain ⟨P, hP⟩ : ∃ P, R.layF (l.length + 1) l M = P := ⟨_, rfl⟩
  obtain ⟨X, M'⟩ := P
  have IH := fun W mv0 (hM : MemAt W mb mv0 M) (hR : Rd W 25 a (pcells l)) => ilay_any (l.length + 1) l W mb mv0 M a cap (by omega) hl hcap hcap2 hR hpi hM
  rw [hP] at IH ⊢
  obtain ⟨Y, hY⟩ : ∃ Y, R.cells l.length = Y := ⟨_, rfl⟩
  rw [hY] at hc
  have HY := Lib.hid hY
  have HP := Lib.hid hP
  have HIH := Lib.hid IH
  clear hP hY IH
  go_enter Try.func7, Try.ntmps7
  go_wp2_with fail
  refine (iright_any w a cap l HR hA hpi hl).mono ?_
  rintro e w' ⟨rfl, n1, rfl⟩
  go_wp2_with fail
  refine (icells_any (l.length + 1) (l.length : Int) _ (by omega) (by omega) (by omega)).mono ?_
  rintro e w' ⟨rfl, n2, rfl⟩
  have hcc : R.cellsF (l.length + 1) (l.length : Int) = Y := by have := HY.out; unfold R.cells at this; rw [Int.toNat_natCast] at this; exact this
  rw [hcc]
  have HCC := Lib.hid hcc
  clear hcc
  go_wp2_with fail
  refine (size_any _ mb mv M (by exact H)).mono ?_
  rintro e w' ⟨rfl, rfl⟩
  go_wp2_with fail
  refine (used_any _ mb mv M (by exact H)).mono ?_
  rintro e w' ⟨rfl, rfl⟩
  go_wp2_with fail
  refine (HIH.out _ mv (by exact H) (by exact HR)).mono ?_
  rintro e w3 ⟨rfl, mv', H3, s3, F3⟩
  go_wp2
  go_ret2
  exact ⟨rfl, mv', H3, s3, F3.of_drewN⟩
end Go.Proofs.Ytilkkfpfcegncaa
