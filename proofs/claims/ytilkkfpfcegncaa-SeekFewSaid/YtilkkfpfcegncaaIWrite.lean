/- mem.Write. -/
import Derived.Test.YtilkkfpfcegncaaIMem
import Derived.Test.YtilkkfpfcegncaaSep0
set_option linter.unusedVariables false
namespace Go.Proofs.Ytilkkfpfcegncaa
open Go.RowKit
open R (MS)

theorem MemAt.put {w : World} {b g cap n : Nat} {M : MS} (H : MemAt w b (.slice (some ⟨g, 0, none⟩) n cap) M) (hn : n = M.c.length) (a x : Int) (ha : M.has a) (hx : R.I64 x) :
    MemAt (w.setCell ⟨g, a.toNat - 1, none⟩ (.int .i64 x)) b (.slice (some ⟨g, 0, none⟩) n cap) (M.put a x) ∧ Fr [b, g] w (w.setCell ⟨g, a.toNat - 1, none⟩ (.int .i64 x)) := by
  obtain ⟨hb, ho, hk⟩ := H
  have hne : b ≠ g := fun e => own_out ho hb (by decide) g rfl (by simp [e])
  have hko := put_ok hk a x hx.1 hx.2
  subst hn
  have h1 := ha.1
  have h2 := ha.2
  refine ⟨?_, (Fr.refl _ _).setCell (.inl (by simp)) _⟩
  unfold R.MS.put at hko ⊢
  rw [if_pos ha] at hko ⊢
  have e : (a - 1).toNat = a.toNat - 1 := by omega
  rw [e] at hko ⊢
  exact ⟨hb.set_ne hne _, by simpa using own_set ho (a.toNat - 1) (by omega) x, hko⟩

theorem iwrite_any (w : World) (b : Nat) (v : Value) (M : MS) (a x : Int) (H : MemAt w b v M) (hx : R.I64 x) :
    Calls Try.prog 8 #[.pointer (some ⟨b, 0, none⟩), .int .i64 a, .int .i64 x] w fun e w' => e = .returned (.tuple #[]) ∧ MemAt w' b v ((M.met a).put a x) ∧ Fr (b :: ownOf v) w w' := by
  by_cases hh : M.has a
  · go_enter Try.func8, Try.ntmps8
    go_wp2_with fail
    refine (cell_has w b v M a H hh).mono ?_
    rintro e w1 ⟨g, rfl, hg, H1, F⟩
    have HH := H1
    have ho := H1.2.1
    have h1 := hh.1
    have h2 := hh.2
    rw [met_c] at ho
    obtain ⟨g', cap, cur, rfl, hg', hcell⟩ := own_cell ho (a - 1).toNat (by omega)
    injection hg with hg
    subst hg
    generalize M.c.getD (a - 1).toNat 0 = X at *
    have hc2 : w1.cell? ⟨g', a.toNat - 1, none⟩ = some (.int .i64 X) := by rw [show a.toNat - 1 = (a - 1).toNat from by omega]; exact (hg'.cell _).trans hcell
    have hf2 : w1.frozen? ⟨g', a.toNat - 1, none⟩ = false := hg'.free _
    clear hcell
    go_wp2_with fail
    go_end0
    obtain ⟨P1, P2⟩ := HH.put (by rw [met_c]) a x ((met_has _ _ _).2 hh) hx
    exact ⟨rfl, P1, (F.mono (by simp)).trans' P2 (by simp [ownOf, Value.ownBlock])⟩
  · go_enter Try.func8, Try.ntmps8
    go_wp2_with fail
    refine (cell_not w b v M a H hh).mono ?_
    rintro e w1 ⟨rfl, H1, F⟩
    go_wp2_with fail
    go_end0
    refine ⟨rfl, ?_, F.mono (by simp)⟩
    unfold R.MS.put; rw [if_neg (fun h => hh ((met_has _ _ _).1 h))]
    exact H1
end Go.Proofs.Ytilkkfpfcegncaa
