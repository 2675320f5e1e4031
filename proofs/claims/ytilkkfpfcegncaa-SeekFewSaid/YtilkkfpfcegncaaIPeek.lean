/- ref.Kind, ref.At; the program's peek. -/
import Derived.Test.YtilkkfpfcegncaaIRStep
import Derived.Test.YtilkkfpfcegncaaSep0
import Derived.Test.YtilkkfpfcegncaaPureSeek
set_option linter.unusedVariables false
namespace Go.Proofs.Ytilkkfpfcegncaa
open Go.RowKit
open R (MS)

theorem and_seven (x : Int) (h0 : 0 ≤ x) (h1 : x ≤ 524296) : bits BinOp.and IntKind.i64 x 7 = x % 8 := by
  obtain ⟨a, rfl⟩ := Int.eq_ofNat_of_zero_le h0
  have h2 : (BitVec.ofInt 64 (a : Int)).toNat = a := by
    rw [BitVec.ofInt_natCast, BitVec.toNat_ofNat]; exact Nat.mod_eq_of_lt (by omega)
  show IntKind.i64.wrap ((BitVec.ofInt 64 (a : Int) &&& BitVec.ofInt 64 (7 : Int)).toNat : Int) = _
  have h3 : (BitVec.ofInt 64 (7 : Int)).toNat = 7 := by decide
  have h4 := Nat.and_two_pow_sub_one_eq_mod a 3
  rw [show (2 ^ 3 - 1 : Nat) = 7 from rfl, show (2 ^ 3 : Nat) = 8 from rfl] at h4
  rw [BitVec.toNat_and, h2, h3, h4, IntKind.wrap_i64]
  omega

theorem parts_any (w : World) (x : Int) :
    Calls Try.prog 55 #[.int .i64 x] w fun e w' => e = .returned (.tuple #[.int .i64 (R.kind x), .int .i64 (R.addr x), .bool (R.right x)]) ∧ w = w' := by
  by_cases hr : 0 ≤ x ∧ x ≤ 524296
  · obtain ⟨h0, h1⟩ := hr
    have ha := and_seven x h0 h1
    have hd : x / 8 ≤ 65537 := by omega
    have hd0 : 0 ≤ x / 8 := by omega
    have hm : x % 8 ≤ 7 := by omega
    have hm0 : 0 ≤ x % 8 := by omega
    obtain ⟨D, hD⟩ : ∃ D, decide ((1 ≤ x % 8 ∧ x % 8 ≤ 5) ∧ (1 ≤ x / 8 ∧ x / 8 ≤ 65536)) = D := ⟨_, rfl⟩
    have hR : R.right x = D := by
      rw [← hD, Bool.eq_iff_iff, R.right_eq]; simp; omega
    have hk : R.kind x = if D = true then x % 8 else 0 := by unfold R.kind; rw [hR]
    have hat : R.addr x = if D = true then x / 8 else 0 := by unfold R.addr; rw [hR]
    rw [hR, hk, hat]
    have HD := Lib.hid hD
    clear hD hR hk hat
    cases D
    all_goals
      go_enter Try.func55, Try.ntmps55
      go_wp2_with fail
      refine (may_any _ _ _).mono ?_
      rintro e w' ⟨rfl, rfl⟩
      rw [HD.out]
      go_wp2
      go_ret3
      exact ⟨rfl, rfl⟩
  · have hR : R.right x = false := by rw [R.right_ne]; omega
    have hk : R.kind x = 0 := by unfold R.kind; rw [hR]; rfl
    have hat : R.addr x = 0 := by unfold R.addr; rw [hR]; rfl
    rw [hR, hk, hat]
    have H := Lib.hid hr
    clear hr hR hk hat
    go_enter Try.func55, Try.ntmps55
    go_wp2_with fail
    all_goals first | (go_ret3; exact ⟨rfl, rfl⟩) | (exfalso; have := H.out; omega)

theorem ikind_any (w : World) (x : Int) :
    Calls Try.prog 52 #[.int .i64 x] w fun e w' => e = .returned (.int .i64 (R.kind x)) ∧ w = w' := by
  go_enter Try.func52, Try.ntmps52
  go_wp2_with fail
  refine (parts_any _ _).mono ?_
  rintro e w' ⟨rfl, rfl⟩
  go_wp2
  go_ret
  exact ⟨rfl, rfl⟩
theorem iaddr_any (w : World) (x : Int) :
    Calls Try.prog 35 #[.int .i64 x] w fun e w' => e = .returned (.int .i64 (R.addr x)) ∧ w = w' := by
  go_enter Try.func35, Try.ntmps35
  go_wp2_with fail
  refine (parts_any _ _).mono ?_
  rintro e w' ⟨rfl, rfl⟩
  go_wp2
  go_ret
  exact ⟨rfl, rfl⟩

open R (IP)
def ipCells (f : IP) : Array Value := #[.int .i64 f.next, .int .i64 f.cell, .int .i64 f.at_, .int .i64 f.word]
structure IPAt (w : World) (b : Nat) (f : IP) : Prop where
  blk : Blk w b (ipCells f) 76
  rng : 0 ≤ f.next ∧ f.next ≤ 3
  at0 : 0 ≤ f.at_ ∧ f.at_ ≤ 65536
theorem IPAt.keep {w w' : World} {b : Nat} {f : IP} {S : List Nat} (h : IPAt w b f) (hf : Fr S w w') (hn : b ∉ S) : IPAt w' b f := ⟨h.blk.keep hf hn, h.rng, h.at0⟩
theorem IPAt.drewN {w : World} {b : Nat} {f : IP} (h : IPAt w b f) (n : Nat) : IPAt (w.drewN n) b f := ⟨h.blk, h.rng, h.at0⟩

theorem ipnew_any (w : World) (c : Int) :
    Calls Try.prog 27 #[.int .i64 c] w fun e w' => e = .returned (.pointer (some ⟨w.heap.size, 0, none⟩)) ∧ IPAt w' w.heap.size ⟨0, c, 0, 0⟩ ∧ Fr [] w w' := by
  go_enter Try.func27, Try.ntmps27
  go_wp2
  go_ret
  exact ⟨rfl, ⟨Blk.new _ _ _, ⟨by show (0 : Int) ≤ 0; decide, by show (0 : Int) ≤ 3; decide⟩, ⟨by show (0 : Int) ≤ 0; decide, by show (0 : Int) ≤ 65536; decide⟩⟩, (Fr.refl [] w).alloc _⟩
theorem ipend_any (w : World) (b : Nat) (f : IP) (x : Int) (H : IPAt w b f) :
    Calls Try.prog 53 #[.pointer (some ⟨b, 0, none⟩), .int .i64 x] w fun e w' => e = .returned (.tuple #[]) ∧ IPAt w' b (f.fin x) ∧ Fr [b] w w' := by
  have c0 := H.blk.cell
  have ff := H.blk.free
  go_enter Try.func53, Try.ntmps53
  go_wp2
  go_end0
  exact ⟨rfl, ⟨(H.blk.set 3 _).set 0 _, by show (0 : Int) ≤ 3 ∧ (3 : Int) ≤ 3; decide, H.at0⟩, ((Fr.refl _ _).setCell (.inl (by simp)) _).setCell (.inl (by simp)) _⟩
theorem ipdone_any (w : World) (b : Nat) (f : IP) (H : IPAt w b f) :
    Calls Try.prog 54 #[.pointer (some ⟨b, 0, none⟩)] w fun e w' => e = .returned (.bool (f.next == 3)) ∧ w = w' := by
  have c0 : w.cell? ⟨b, 0, none⟩ = some (.int .i64 f.next) := H.blk.cell 0
  go_enter Try.func54, Try.ntmps54
  go_wp2
  go_ret
  exact ⟨rfl, rfl⟩
theorem ipword_any (w : World) (b : Nat) (f : IP) (H : IPAt w b f) :
    Calls Try.prog 33 #[.pointer (some ⟨b, 0, none⟩)] w fun e w' => e = .returned (.int .i64 f.word) ∧ w = w' := by
  have c3 : w.cell? ⟨b, 3, none⟩ = some (.int .i64 f.word) := H.blk.cell 3
  go_enter Try.func33, Try.ntmps33
  go_wp2
  go_ret
  exact ⟨rfl, rfl⟩

/-- One step, with the memory: nothing once it is done. -/
def ipStep (f : IP) (M : MS) : IP × MS := if f.next = 3 then (f, M) else (f.step (M.at_ f.cell), M.met f.cell)
def ipPost (w : World) (b mb : Nat) (f : IP) (mv : Value) (M : MS) (e : Ending) (w' : World) : Prop :=
  e = .returned (.bool ((ipStep f M).1.next == 3)) ∧ IPAt w' b (ipStep f M).1 ∧ MemAt w' mb mv (ipStep f M).2 ∧ Fr [b, mb] w w'
theorem ipstep_any (w : World) (b mb : Nat) (f : IP) (mv : Value) (M : MS) (H : IPAt w b f) (HM : MemAt w mb mv M) :
    Calls Try.prog 31 #[.pointer (some ⟨b, 0, none⟩), .pointer (some ⟨mb, 0, none⟩)] w (ipPost w b mb f mv M) := by
  obtain ⟨n0, n1⟩ := H.rng
  obtain ⟨a0, a1⟩ := H.at0
  have hb := H.blk
  have hbl := H.blk.lt
  have hnb := HM.nmem H.blk (by decide) (by decide)
  have c1 : w.cell? ⟨b, 1, none⟩ = some (.int .i64 f.cell) := hb.cell 1
  have c2 : w.cell? ⟨b, 2, none⟩ = some (.int .i64 f.at_) := hb.cell 2
  have ff := hb.free
  unfold ipPost ipStep
  by_cases h3 : f.next = 3
  · rw [if_pos h3]
    have c0 : w.cell? ⟨b, 0, none⟩ = some (.int .i64 3) := by rw [← h3]; exact hb.cell 0
    have H3 := Lib.hid h3
    clear h3
    go_enter Try.func31, Try.ntmps31
    go_wp2_with fail
    refine (ipdone_any _ b f H).mono ?_
    rintro e w' ⟨rfl, rfl⟩
    have t3 : (f.next == 3) = true := by rw [H3.out]; rfl
    rw [t3]
    have T3 := Lib.hid t3
    clear t3
    go_wp2
    go_ret
    refine ⟨?_, H, HM, Fr.refl _ _⟩
    show _ = Ending.returned (.bool (f.next == 3))
    rw [T3.out]
    rfl
  rw [if_neg h3]
  obtain ⟨q, hq⟩ : ∃ q, M.at_ f.cell = q := ⟨_, rfl⟩
  obtain ⟨O, hO⟩ : ∃ O, f.step (M.at_ f.cell) = O := ⟨_, rfl⟩
  rw [hO]
  unfold R.IP.step at hO
  rw [hq] at hO
  have HQ := Lib.hid hq
  clear hq
  have fin2 : ∀ {w2 w3 : World}, MemAt w2 mb mv (M.met f.cell) → Fr [mb] w w2 → IPAt w2 b f → Fr [b] w2 w3 → MemAt w3 mb mv (M.met f.cell) ∧ Fr [b, mb] w w3 := fun hM hF hI hF3 =>
    ⟨hM.keep1 hI.blk (by decide) (by decide) hF3, (hF.mono (by intro x hx; simp at hx; simp [hx])).trans (hF3.mono (by intro x hx; simp at hx; simp [hx]))⟩
  by_cases h0 : f.next = 0
  · rw [if_pos h0] at hO
    have c0 : w.cell? ⟨b, 0, none⟩ = some (.int .i64 0) := by rw [← h0]; exact hb.cell 0
    clear h0 h3
    by_cases hk : R.kind q = 5
    · rw [if_pos hk] at hO
      have hk' : (R.kind q != 5) = false := by rw [hk]; rfl
      have ha := R.addr_bd q
      obtain ⟨aa, haa⟩ : ∃ aa, R.addr q = aa := ⟨_, rfl⟩
      rw [haa] at ha hO
      obtain ⟨ha0, ha1⟩ := ha
      have HA := Lib.hid haa
      have E := Lib.hid hO
      clear hO hk haa
      go_enter Try.func31, Try.ntmps31
      go_wp2_with fail
      refine (iread_any _ mb mv M _ HM).mono ?_
      rintro e w2 ⟨rfl, HM2, F2⟩
      rw [HQ.out]
      have H2 : IPAt w2 b f := H.keep F2 (by simp at hnb ⊢; exact hnb.1)
      clear c0 c1 c2 ff
      have d0 := H2.blk.cell
      have gg := H2.blk.free
      go_wp2_with fail
      refine (ikind_any _ _).mono ?_
      rintro e w' ⟨rfl, rfl⟩
      go_wp2_with fail
      refine (iaddr_any _ _).mono ?_
      rintro e w' ⟨rfl, rfl⟩
      rw [HA.out]
      go_wp2_with fail
      have H3 : IPAt (((w2.setCell ⟨b, 2, none⟩ (.int .i64 aa)).setCell ⟨b, 0, none⟩ (.int .i64 1)).setCell ⟨b, 1, none⟩ (.int .i64 (aa + 4))) b { f with at_ := aa, next := 1, cell := aa + 4 } :=
        ⟨((H2.blk.set 2 _).set 0 _).set 1 _, by show (0 : Int) ≤ 1 ∧ (1 : Int) ≤ 3; decide, ⟨ha0, ha1⟩⟩
      refine (ipdone_any _ b _ H3).mono ?_
      rintro e w' ⟨rfl, rfl⟩
      go_wp2
      go_ret
      have e := E.out; subst e
      have F3 : Fr [b] w2 (((w2.setCell ⟨b, 2, none⟩ (.int .i64 aa)).setCell ⟨b, 0, none⟩ (.int .i64 1)).setCell ⟨b, 1, none⟩ (.int .i64 (aa + 4))) := (((Fr.refl _ _).setCell (.inl (by simp)) _).setCell (.inl (by simp)) _).setCell (.inl (by simp)) _
      obtain ⟨X1, X2⟩ := fin2 HM2 F2 H2 F3
      exact ⟨rfl, H3, X1, X2⟩
    · rw [if_neg hk] at hO
      have hk' : (R.kind q != 5) = true := by simpa using hk
      have E := Lib.hid hO
      clear hO hk
      go_enter Try.func31, Try.ntmps31
      go_wp2_with fail
      refine (iread_any _ mb mv M _ HM).mono ?_
      rintro e w2 ⟨rfl, HM2, F2⟩
      rw [HQ.out]
      have H2 : IPAt w2 b f := H.keep F2 (by simp at hnb ⊢; exact hnb.1)
      clear c0 c1 c2 ff
      go_wp2_with fail
      refine (ikind_any _ _).mono ?_
      rintro e w' ⟨rfl, rfl⟩
      go_wp2_with fail
      refine (ipend_any _ b f q H2).mono ?_
      rintro e w3 ⟨rfl, H3, F3⟩
      go_wp2_with fail
      refine (ipdone_any _ b _ H3).mono ?_
      rintro e w' ⟨rfl, rfl⟩
      go_wp2
      go_ret
      have e := E.out; subst e
      obtain ⟨X1, X2⟩ := fin2 HM2 F2 H2 F3
      exact ⟨rfl, H3, X1, X2⟩
  rw [if_neg h0] at hO
  by_cases h1 : f.next = 1
  · rw [if_pos h1] at hO
    have c0 : w.cell? ⟨b, 0, none⟩ = some (.int .i64 1) := by rw [← h1]; exact hb.cell 0
    clear h0 h1 h3
    by_cases hk : q = 1
    · have hk' : (q == 1) = true := by simpa using hk
      rw [if_pos hk] at hO
      have E := Lib.hid hO
      clear hO hk
      go_enter Try.func31, Try.ntmps31
      have b0 := H.blk.set 0 (.int .i64 2)
      have HB : Fr [b] w (w.setCell ⟨b, 0, none⟩ (.int .i64 2)) := (Fr.refl _ _).setCell (.inl (by simp)) _
      have HM1 := HM.keep1 H.blk (by decide) (by decide) HB
      go_wp2_with fail
      refine (iread_any _ mb mv M _ HM1).mono ?_
      rintro e w2 ⟨rfl, HM2, F2⟩
      rw [HQ.out]
      have b2 := b0.keep F2 (by simp at hnb ⊢; exact hnb.1)
      clear c0 c1 c2 ff
      have d2 : w2.cell? ⟨b, 2, none⟩ = some (.int .i64 f.at_) := b2.cell 2
      have d1 : w2.cell? ⟨b, 1, none⟩ = some (.int .i64 f.cell) := b2.cell 1
      have gg := b2.free
      go_wp2_with fail
      have H3 : IPAt (w2.setCell ⟨b, 1, none⟩ (.int .i64 (f.at_ + 3))) b { f with next := 2, cell := f.at_ + 3 } := ⟨b2.set 1 _, by show (0 : Int) ≤ 2 ∧ (2 : Int) ≤ 3; decide, ⟨a0, a1⟩⟩
      refine (ipdone_any _ b _ H3).mono ?_
      rintro e w' ⟨rfl, rfl⟩
      go_wp2
      go_ret
      have e := E.out; subst e
      have F3 : Fr [b] w2 (w2.setCell ⟨b, 1, none⟩ (.int .i64 (f.at_ + 3))) := (Fr.refl _ _).setCell (.inl (by simp)) _
      have hI : IPAt w2 b { f with next := 2 } := ⟨b2, by show (0 : Int) ≤ 2 ∧ (2 : Int) ≤ 3; decide, ⟨a0, a1⟩⟩
      exact ⟨rfl, H3, HM2.keep1 hI.blk (by decide) (by decide) F3, ((HB.mono (by intro x hx; simp at hx; simp [hx])).trans (F2.mono (by intro x hx; simp at hx; simp [hx]))).trans (F3.mono (by intro x hx; simp at hx; simp [hx]))⟩
    · have hk' : (q == 1) = false := by simpa using hk
      rw [if_neg hk] at hO
      have E := Lib.hid hO
      clear hO hk
      go_enter Try.func31, Try.ntmps31
      have b0 := H.blk.set 0 (.int .i64 2)
      have HB : Fr [b] w (w.setCell ⟨b, 0, none⟩ (.int .i64 2)) := (Fr.refl _ _).setCell (.inl (by simp)) _
      have HM1 := HM.keep1 H.blk (by decide) (by decide) HB
      go_wp2_with fail
      refine (iread_any _ mb mv M _ HM1).mono ?_
      rintro e w2 ⟨rfl, HM2, F2⟩
      rw [HQ.out]
      have b2 := b0.keep F2 (by simp at hnb ⊢; exact hnb.1)
      clear c0 c1 c2 ff
      have d2 : w2.cell? ⟨b, 2, none⟩ = some (.int .i64 f.at_) := b2.cell 2
      have d1 : w2.cell? ⟨b, 1, none⟩ = some (.int .i64 f.cell) := b2.cell 1
      have gg := b2.free
      go_wp2_with fail
      have H3 : IPAt (w2.setCell ⟨b, 1, none⟩ (.int .i64 (f.at_ + 2))) b { f with next := 2, cell := f.at_ + 2 } := ⟨b2.set 1 _, by show (0 : Int) ≤ 2 ∧ (2 : Int) ≤ 3; decide, ⟨a0, a1⟩⟩
      refine (ipdone_any _ b _ H3).mono ?_
      rintro e w' ⟨rfl, rfl⟩
      go_wp2
      go_ret
      have e := E.out; subst e
      have F3 : Fr [b] w2 (w2.setCell ⟨b, 1, none⟩ (.int .i64 (f.at_ + 2))) := (Fr.refl _ _).setCell (.inl (by simp)) _
      have hI : IPAt w2 b { f with next := 2 } := ⟨b2, by show (0 : Int) ≤ 2 ∧ (2 : Int) ≤ 3; decide, ⟨a0, a1⟩⟩
      exact ⟨rfl, H3, HM2.keep1 hI.blk (by decide) (by decide) F3, ((HB.mono (by intro x hx; simp at hx; simp [hx])).trans (F2.mono (by intro x hx; simp at hx; simp [hx]))).trans (F3.mono (by intro x hx; simp at hx; simp [hx]))⟩
  rw [if_neg h1] at hO
  have h2 : f.next = 2 := by omega
  rw [if_pos h2] at hO
  have c0 : w.cell? ⟨b, 0, none⟩ = some (.int .i64 2) := by rw [← h2]; exact hb.cell 0
  have E := Lib.hid hO
  clear hO h0 h1 h2 h3
  go_enter Try.func31, Try.ntmps31
  go_wp2_with fail
  refine (iread_any _ mb mv M _ HM).mono ?_
  rintro e w2 ⟨rfl, HM2, F2⟩
  rw [HQ.out]
  have H2 : IPAt w2 b f := H.keep F2 (by simp at hnb ⊢; exact hnb.1)
  clear c0 c1 c2 ff
  go_wp2_with fail
  refine (ipend_any _ b f q H2).mono ?_
  rintro e w3 ⟨rfl, H3, F3⟩
  go_wp2_with fail
  refine (ipdone_any _ b _ H3).mono ?_
  rintro e w' ⟨rfl, rfl⟩
  go_wp2
  go_ret
  have e := E.out; subst e
  obtain ⟨X1, X2⟩ := fin2 HM2 F2 H2 F3
  exact ⟨rfl, H3, X1, X2⟩
end Go.Proofs.Ytilkkfpfcegncaa
