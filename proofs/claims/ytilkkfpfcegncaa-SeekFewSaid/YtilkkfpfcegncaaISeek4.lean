/- The program's seek: its last steps. -/
import Derived.Test.YtilkkfpfcegncaaISeek3
set_option linter.unusedVariables false
namespace Go.Proofs.Ytilkkfpfcegncaa
open Go.RowKit
open R (MS IR IP IK)

set_option maxHeartbeats 1000000 in
theorem isstep_value (w : World) (b mb rb : Nat) (pp : Value) (S : List Nat) (f : IK) (mv : Value) (M : MS) (H : IKAt w b rb pp S f) (HM : MemAt w mb mv M) (h : f.next = 3) :
    Calls Try.prog 10 #[.pointer (some ⟨b, 0, none⟩), .pointer (some ⟨mb, 0, none⟩)] w (isPost w b mb S f mv M) := by
  have hb := H.blk
  have hmem := H.mem
  have htS := H.typed
  obtain ⟨a0, a1⟩ := H.at0
  have hbm := hb.nmem HM (by decide)
  have c0 : w.cell? ⟨b, 0, none⟩ = some (.int .i64 3) := by rw [← h]; exact hb.cell 0
  have c5 : w.cell? ⟨b, 5, none⟩ = some (.int .i64 f.at_) := hb.cell 5
  have ff := hb.free
  have hX : ∀ x ∈ S, x ≠ mb := fun x hx e => HM.out htS (by decide) (e ▸ hx)
  obtain ⟨q, hq⟩ : ∃ q, M.at_ (f.at_ + 1) = q := ⟨_, rfl⟩
  have hqb := at_ok HM.2.2 (f.at_ + 1)
  rw [hq] at hqb
  have hadd : f.addr = f.at_ + 1 := by unfold R.IK.addr; rw [if_neg (by omega), if_neg (by omega), if_pos h]
  have hst : ikStep f M = (f.step q, M.met (f.at_ + 1)) := by unfold ikStep; rw [if_neg (by omega), hadd, hq]
  unfold isPost
  rw [hst]
  obtain ⟨O, hO⟩ : ∃ O, f.step q = O := ⟨_, rfl⟩
  rw [hO]
  unfold R.IK.step at hO
  rw [if_neg (by omega), if_neg (by omega), if_neg (by omega), if_pos h] at hO
  have HQ := Lib.hid hq
  have HR := H
  have E := Lib.hid hO
  clear hst hadd hq h hO
  go_enter Try.func10, Try.ntmps10
  go_wp2_with fail
  refine (iread_any _ mb mv M _ HM).mono ?_
  rintro e w1 ⟨rfl, HM1, F1⟩
  rw [HQ.out]
  have b1 := hb.keep F1 (by simp; exact hbm)
  have l6 : w1.cell? ⟨b, 6, none⟩ = some (.int .i64 f.value) := b1.cell 6
  have l7 : w1.cell? ⟨b, 7, none⟩ = some (.bool f.there) := b1.cell 7
  have l0 : w1.cell? ⟨b, 0, none⟩ = some (.int .i64 f.next) := b1.cell 0
  have lf := b1.free
  have b4 := ((b1.set 6 (.int .i64 q)).set 7 (.bool true)).set 0 (.int .i64 5)
  have F4 : Fr [b] w1 (((w1.setCell ⟨b, 6, none⟩ (.int .i64 q)).setCell ⟨b, 7, none⟩ (.bool true)).setCell ⟨b, 0, none⟩ (.int .i64 5)) := (((Fr.refl _ _).setCell (.inl (by simp)) _).setCell (.inl (by simp)) _).setCell (.inl (by simp)) _
  clear c0 c5 ff
  have hO : IKAt (((w1.setCell ⟨b, 6, none⟩ (.int .i64 q)).setCell ⟨b, 7, none⟩ (.bool true)).setCell ⟨b, 0, none⟩ (.int .i64 5)) b rb pp S O := by
    have e := E.out; subst e
    refine ⟨b4, (HR.route.keep F1 (by simp; exact hX rb hmem.2)).keep F4 (by simp; exact fun h => HR.ne h.symm), ?_, HR.k, HR.n, HR.rn, HR.at0, hqb, ⟨by show (0 : Int) ≤ 5; decide, by show (5 : Int) ≤ 5; decide⟩, fun h => absurd (show (5 : Int) = 1 from h) (by decide), fun h => absurd (show (5 : Int) = 0 from h) (by decide), fun h => absurd (show (5 : Int) = 1 from h) (by decide)⟩
    rcases HR.peek with h | ⟨pb, h1, h2, h3, h4⟩
    · exact .inl h
    · have hp1 : pb ≠ b := h3.blk.ne hb (by decide)
      exact .inr ⟨pb, h1, h2, (h3.keep F1 (by simp; exact hX pb (by simp [h4]))).keep F4 (by simp; exact hp1), h4⟩
  go_wp2_with fail
  refine (isdone_any _ b rb _ O hO.blk).mono ?_
  rintro e w' ⟨rfl, rfl⟩
  go_wp2
  go_ret
  exact ⟨rfl, ⟨_, ⟨_, _, hO⟩, fun x hx => .inl hx⟩, HM1.keep1 b1 (by decide) (by decide) F4, (F1.mono (by intro x hx; simp at hx; subst hx; simp)).trans (F4.mono (by intro x hx; simp at hx; subst hx; simp [hmem.1]))⟩

set_option maxHeartbeats 1000000 in
theorem isstep_target (w : World) (b mb rb : Nat) (pp : Value) (S : List Nat) (f : IK) (mv : Value) (M : MS) (H : IKAt w b rb pp S f) (HM : MemAt w mb mv M) (h : f.next = 4) :
    Calls Try.prog 10 #[.pointer (some ⟨b, 0, none⟩), .pointer (some ⟨mb, 0, none⟩)] w (isPost w b mb S f mv M) := by
  have hb := H.blk
  have hmem := H.mem
  have htS := H.typed
  obtain ⟨a0, a1⟩ := H.at0
  have hbm := hb.nmem HM (by decide)
  have c0 : w.cell? ⟨b, 0, none⟩ = some (.int .i64 4) := by rw [← h]; exact hb.cell 0
  have c5 : w.cell? ⟨b, 5, none⟩ = some (.int .i64 f.at_) := hb.cell 5
  have ff := hb.free
  have hX : ∀ x ∈ S, x ≠ mb := fun x hx e => HM.out htS (by decide) (e ▸ hx)
  obtain ⟨q, hq⟩ : ∃ q, M.at_ (f.at_) = q := ⟨_, rfl⟩
  have hqb := at_ok HM.2.2 (f.at_)
  rw [hq] at hqb
  have hadd : f.addr = f.at_ := by unfold R.IK.addr; rw [if_neg (by omega), if_neg (by omega), if_neg (by omega)]
  have hst : ikStep f M = (f.step q, M.met (f.at_)) := by unfold ikStep; rw [if_neg (by omega), hadd, hq]
  unfold isPost
  rw [hst]
  obtain ⟨O, hO⟩ : ∃ O, f.step q = O := ⟨_, rfl⟩
  rw [hO]
  unfold R.IK.step at hO
  rw [if_neg (by omega), if_neg (by omega), if_neg (by omega), if_neg (by omega), if_pos h] at hO
  have HQ := Lib.hid hq
  have HR := H
  have E := Lib.hid hO
  clear hst hadd hq h hO
  obtain ⟨A, hA⟩ : ∃ A, R.addr q = A := ⟨_, rfl⟩
  have hAb := R.addr_bd q
  rw [hA] at hAb
  have HA := Lib.hid hA
  have hAI : R.I64 A := ⟨by omega, by omega⟩
  clear hA
  go_enter Try.func10, Try.ntmps10
  go_wp2_with fail
  refine (iread_any _ mb mv M _ HM).mono ?_
  rintro e w1 ⟨rfl, HM1, F1⟩
  rw [HQ.out]
  have b1 := hb.keep F1 (by simp; exact hbm)
  clear c0 c5 ff
  go_wp2_with fail
  refine (iaddr_any _ _).mono ?_
  rintro e w' ⟨rfl, rfl⟩
  rw [HA.out]
  go_wp2_with fail
  refine (isenter_any w1 b _ _ _ _ _ _ _ f.k A HR.k b1).mono ?_
  rintro e w2 ⟨rfl, b2, hr2, F2⟩
  have hO : IKAt w2 b w1.heap.size pp (b :: w1.heap.size :: S.drop 2) O := by
    have e := E.out; rw [HA.out] at e; subst e
    refine ⟨b2, hr2, ?_, HR.k, hAI, hAI, HR.at0, HR.val, ⟨Int.le_refl 0, by show (0 : Int) ≤ 5; decide⟩, fun h => absurd (show (0 : Int) = 1 from h) (by decide), fun _ => by show (0 : Int) ≠ 6; decide, fun h => absurd (show (0 : Int) = 1 from h) (by decide)⟩
    rcases HR.peek with ⟨h, h', rfl⟩ | ⟨pb, h1, h2, h3, rfl⟩
    · exact .inl ⟨h, h', rfl⟩
    · have hp1 : pb ≠ b := h3.blk.ne hb (by decide)
      exact .inr ⟨pb, h1, h2, (h3.keep F1 (by simp; exact hX pb (by simp))).keep F2 (by simp; exact hp1), rfl⟩
  go_wp2_with fail
  refine (isdone_any _ b _ _ O hO.blk).mono ?_
  rintro e w' ⟨rfl, rfl⟩
  go_wp2
  go_ret
  refine ⟨rfl, ⟨_, ⟨_, _, hO⟩, ?_⟩, HM1.keep1 b1 (by decide) (by decide) F2, (F1.mono (by intro x hx; simp at hx; subst hx; simp)).trans (F2.mono (by intro x hx; simp at hx; subst hx; simp [hmem.1]))⟩
  intro x hx
  have z1 := F1.size
  rcases List.mem_cons.1 hx with rfl | hx
  · exact .inl hmem.1
  rcases List.mem_cons.1 hx with rfl | hx
  · exact .inr z1
  · exact .inl (List.mem_of_mem_drop hx)

theorem isstep_done (w : World) (b mb rb : Nat) (pp : Value) (S : List Nat) (f : IK) (mv : Value) (M : MS) (H : IKAt w b rb pp S f) (HM : MemAt w mb mv M) (h : f.next = 5) :
    Calls Try.prog 10 #[.pointer (some ⟨b, 0, none⟩), .pointer (some ⟨mb, 0, none⟩)] w (isPost w b mb S f mv M) := by
  have c0 : w.cell? ⟨b, 0, none⟩ = some (.int .i64 5) := by rw [← h]; exact H.blk.cell 0
  have hs : ikStep f M = (f, M) := by unfold ikStep; rw [if_pos h]
  have ht : (f.next == 5) = true := by rw [h]; rfl
  unfold isPost
  rw [hs]
  have HT := Lib.hid ht
  clear h hs ht
  go_enter Try.func10, Try.ntmps10
  go_wp2_with fail
  refine (isdone_any _ b rb _ f H.blk).mono ?_
  rintro e w' ⟨rfl, rfl⟩
  go_wp2
  go_ret
  exact ⟨rfl, ⟨_, ⟨_, _, H⟩, fun x hx => .inl hx⟩, HM, Fr.refl _ _⟩

theorem isstep_any (w : World) (b mb : Nat) (S : List Nat) (f : IK) (mv : Value) (M : MS) (H : IKS w b S f) (HM : MemAt w mb mv M) :
    Calls Try.prog 10 #[.pointer (some ⟨b, 0, none⟩), .pointer (some ⟨mb, 0, none⟩)] w (isPost w b mb S f mv M) := by
  obtain ⟨rb, pp, H⟩ := H
  have hr := H.rng
  rcases (by omega : f.next = 0 ∨ f.next = 1 ∨ f.next = 2 ∨ f.next = 3 ∨ f.next = 4 ∨ f.next = 5) with h | h | h | h | h | h
  · exact isstep_route w b mb rb pp S f mv M H HM h
  · exact isstep_peek w b mb rb pp S f mv M H HM h
  · exact isstep_key w b mb rb pp S f mv M H HM h
  · exact isstep_value w b mb rb pp S f mv M H HM h
  · exact isstep_target w b mb rb pp S f mv M H HM h
  · exact isstep_done w b mb rb pp S f mv M H HM h
end Go.Proofs.Ytilkkfpfcegncaa
