/- The program's route, an access. -/
import Derived.Test.YtilkkfpfcegncaaIRoute
import Derived.Deep.RegionLaw
set_option linter.unusedVariables false
namespace Go.Proofs.Ytilkkfpfcegncaa
open Go.RowKit
open R (MS IR)

theorem IRAt.keep {w w' : World} {b : Nat} {f : IR} {S : List Nat} (h : IRAt w b f) (hf : Fr S w w') (hn : b ∉ S) : IRAt w' b f := ⟨h.blk.keep hf hn, h.k, h.first, h.degree⟩
theorem MemAt.nmem {w : World} {mb : Nat} {mv : Value} {M : MS} (H : MemAt w mb mv M) {b : Nat} {cs : Array Value} {T : TypeId} (hb : Blk w b cs T) (h1 : T ≠ 42) (h2 : T ≠ 2) : b ∉ mb :: ownOf mv := by
  intro hm
  rcases List.mem_cons.1 hm with hm | hm
  · exact hb.ne H.1 h1 hm
  · exact own_out H.2.1 hb h2 b (mem_own hm) (by simp)
theorem MemAt.keep1 {w w' : World} {mb : Nat} {mv : Value} {M : MS} (H : MemAt w mb mv M) {b : Nat} {cs : Array Value} {T : TypeId} (hb : Blk w b cs T) (h1 : T ≠ 42) (h2 : T ≠ 2) (hf : Fr [b] w w') : MemAt w' mb mv M :=
  ⟨H.1.keep hf (by have := hb.ne H.1 h1; simp; exact fun e => this e.symm), own_keep H.2.1 hf (own_out H.2.1 hb h2), H.2.2⟩

def irPost (w : World) (b mb : Nat) (f : IR) (mv : Value) (M : MS) (e : Ending) (w' : World) : Prop :=
  e = .returned (.bool ((f.step (M.at_ f.addr)).next == 6)) ∧ IRAt w' b (f.step (M.at_ f.addr)) ∧ MemAt w' mb mv (M.met f.addr) ∧ Fr [b, mb] w w'

set_option maxHeartbeats 1000000 in
theorem irstep_key (w : World) (b mb : Nat) (f : IR) (mv : Value) (M : MS) (H : IRAt w b f) (HM : MemAt w mb mv M) (h0 : f.next ≠ 0) (h6 : f.next ≠ 6) :
    Calls Try.prog 26 #[.pointer (some ⟨b, 0, none⟩), .pointer (some ⟨mb, 0, none⟩)] w (irPost w b mb f mv M) := by
  obtain ⟨⟨c0, c1, c2, c3, c4, c5, c6⟩, ff⟩ := H.cells
  have t0 : (f.next == 0) = false := by simpa using h0
  have t6 : (f.next == 6) = false := by simpa using h6
  obtain ⟨A, hA⟩ : ∃ A, f.addr = A := ⟨_, rfl⟩
  obtain ⟨q, hq⟩ : ∃ q, M.at_ A = q := ⟨_, rfl⟩
  have hqb := at_ok HM.2.2 A
  rw [hq] at hqb
  obtain ⟨O, hO⟩ : ∃ O, f.step q = O := ⟨_, rfl⟩
  have hpost : irPost w b mb f mv M = fun e w' => e = .returned (.bool (O.next == 6)) ∧ IRAt w' b O ∧ MemAt w' mb mv (M.met A) ∧ Fr [b, mb] w w' := by
    funext e w'; unfold irPost; rw [hA, hq, hO]
  rw [hpost]
  unfold R.IR.addr at hA
  rw [if_neg h0] at hA
  unfold R.IR.step at hO
  rw [if_neg h0] at hO
  have HA := Lib.hid hA
  have HQ := Lib.hid hq
  have HO := Lib.hid hO
  have hnb := HM.nmem H.blk (by decide) (by decide)
  have hbl := H.blk.lt
  clear hA hq hO hpost h0 h6
  go_enter Try.func26, Try.ntmps26
  go_wp2_with fail
  go_region_law (first
      | (go_simp
         go_at_call 49
         refine (ikeyAt_any _ _ _).mono ?_
         rintro e w1 ⟨rfl, F1⟩
         rw [HA.out]
         have H1 : IRAt w1 b f := ⟨H.blk.keep (w := w.drew) F1 (by simp), H.k, H.first, H.degree⟩
         have HM1 : MemAt w1 mb mv M := HM.grow (⟨F1.os, F1.tape, F1.output, F1.size, F1.keep⟩ : Fr [] w w1))
      | (go_simp
         go_at_call 34
         refine (iread_any _ mb mv M _ HM1).mono ?_
         rintro e w2 ⟨rfl, HM2, F2⟩
         rw [HQ.out]
         have H2 : IRAt w2 b f := H1.keep F2 (by simp at hnb ⊢; exact hnb.1))
      | (go_simp
         go_at_call 48
         refine (irkey_any _ b f q hqb H2).mono ?_
         rintro e w3 ⟨rfl, H3, F3⟩
         rw [HO.out] at H3))
  all_goals
    clear c0 c1 c2 c3 c4 c5 c6 ff
    go_wp2_with fail
    refine (irdone_any _ b O H3).mono ?_
    rintro e w' ⟨rfl, rfl⟩
    go_wp2
    go_ret
    refine ⟨rfl, H3, HM2.keep1 H2.blk (by decide) (by decide) F3, ?_⟩
    have Fa : Fr [] w w1 := ⟨F1.os, F1.tape, F1.output, F1.size, F1.keep⟩
    exact (Fa.old.trans (F2.mono (by intro x hx; simp at hx; simp [hx]))).trans (F3.mono (by intro x hx; simp at hx; simp [hx]))

set_option maxHeartbeats 1000000 in
theorem irstep_degree (w : World) (b mb : Nat) (f : IR) (mv : Value) (M : MS) (H : IRAt w b f) (HM : MemAt w mb mv M) (h0 : f.next = 0) (hn : R.I64 f.n) :
    Calls Try.prog 26 #[.pointer (some ⟨b, 0, none⟩), .pointer (some ⟨mb, 0, none⟩)] w (irPost w b mb f mv M) := by
  obtain ⟨⟨c0, c1, c2, c3, c4, c5, c6⟩, ff⟩ := H.cells
  have t0 : (f.next == 0) = true := by simpa using h0
  obtain ⟨A, hA⟩ : ∃ A, f.addr = A := ⟨_, rfl⟩
  obtain ⟨q, hq⟩ : ∃ q, M.at_ A = q := ⟨_, rfl⟩
  have hqb := at_ok HM.2.2 A
  rw [hq] at hqb
  obtain ⟨O, hO⟩ : ∃ O, f.step q = O := ⟨_, rfl⟩
  have hpost : irPost w b mb f mv M = fun e w' => e = .returned (.bool (O.next == 6)) ∧ IRAt w' b O ∧ MemAt w' mb mv (M.met A) ∧ Fr [b, mb] w w' := by
    funext e w'; unfold irPost; rw [hA, hq, hO]
  rw [hpost]
  unfold R.IR.addr at hA
  rw [if_pos h0] at hA
  unfold R.IR.step at hO
  rw [if_pos h0] at hO
  have HA := Lib.hid hA
  have HQ := Lib.hid hq
  have hnb := HM.nmem H.blk (by decide) (by decide)
  have hbl := H.blk.lt
  obtain ⟨n1, n2⟩ := hn
  clear hA hq hpost h0
  rcases Int.lt_or_le q 2 with hl | hl
  · rw [if_pos hl] at hO
    have E := Lib.hid hO
    clear hO
    go_enter Try.func26, Try.ntmps26
    go_wp2_with fail
    rw [HA.out]
    refine (iread_any _ mb mv M _ HM).mono ?_
    rintro e w2 ⟨rfl, HM2, F2⟩
    rw [HQ.out]
    have H2 : IRAt w2 b f := H.keep F2 (by simp at hnb ⊢; exact hnb.1)
    have H3 : IRAt (((w2.setCell ⟨b, 3, none⟩ (.int .i64 q)).setCell ⟨b, 0, none⟩ (.int .i64 1)).setCell ⟨b, 4, none⟩ (.int .i64 1)) b { f with degree := q, next := 1, i := 1 } := ⟨((H2.blk.set 3 _).set 0 _).set 4 _, H.k, H.first, hqb⟩
    have F3 : Fr [b] w2 (((w2.setCell ⟨b, 3, none⟩ (.int .i64 q)).setCell ⟨b, 0, none⟩ (.int .i64 1)).setCell ⟨b, 4, none⟩ (.int .i64 1)) := (((Fr.refl _ _).setCell (.inl (by simp)) _).setCell (.inl (by simp)) _).setCell (.inl (by simp)) _
    obtain ⟨⟨d0, d1, d2, d3, d4, d5, d6⟩, gg⟩ := H2.cells
    clear c0 c1 c2 c3 c4 c5 c6 ff
    go_wp2_with fail
    refine (irend_any _ b _ _ H3).mono ?_
    rintro e w4 ⟨rfl, H4, F4⟩
    go_wp2_with fail
    refine (irdone_any _ b _ H4).mono ?_
    rintro e w' ⟨rfl, rfl⟩
    go_wp2
    go_ret
    have e := E.out; subst e
    have F5 := F3.trans F4
    exact ⟨rfl, H4, HM2.keep1 H2.blk (by decide) (by decide) F5, (F2.mono (by intro x hx; simp at hx; simp [hx])).trans (F5.mono (by intro x hx; simp at hx; simp [hx]))⟩
  · rw [if_neg (by omega)] at hO
    have E := Lib.hid hO
    clear hO
    go_enter Try.func26, Try.ntmps26
    go_wp2_with fail
    rw [HA.out]
    refine (iread_any _ mb mv M _ HM).mono ?_
    rintro e w2 ⟨rfl, HM2, F2⟩
    rw [HQ.out]
    have H2 : IRAt w2 b f := H.keep F2 (by simp at hnb ⊢; exact hnb.1)
    have H3 : IRAt (((w2.setCell ⟨b, 3, none⟩ (.int .i64 q)).setCell ⟨b, 0, none⟩ (.int .i64 1)).setCell ⟨b, 4, none⟩ (.int .i64 1)) b { f with degree := q, next := 1, i := 1 } := ⟨((H2.blk.set 3 _).set 0 _).set 4 _, H.k, H.first, hqb⟩
    have F3 : Fr [b] w2 (((w2.setCell ⟨b, 3, none⟩ (.int .i64 q)).setCell ⟨b, 0, none⟩ (.int .i64 1)).setCell ⟨b, 4, none⟩ (.int .i64 1)) := (((Fr.refl _ _).setCell (.inl (by simp)) _).setCell (.inl (by simp)) _).setCell (.inl (by simp)) _
    obtain ⟨⟨d0, d1, d2, d3, d4, d5, d6⟩, gg⟩ := H2.cells
    clear c0 c1 c2 c3 c4 c5 c6 ff
    go_wp2_with fail
    refine (irdone_any _ b _ H3).mono ?_
    rintro e w' ⟨rfl, rfl⟩
    go_wp2
    go_ret
    have e := E.out; subst e
    exact ⟨rfl, H3, HM2.keep1 H2.blk (by decide) (by decide) F3, (F2.mono (by intro x hx; simp at hx; simp [hx])).trans (F3.mono (by intro x hx; simp at hx; simp [hx]))⟩

theorem irstep_done (w : World) (b : Nat) (f : IR) (m : Value) (H : IRAt w b f) (h6 : f.next = 6) :
    Calls Try.prog 26 #[.pointer (some ⟨b, 0, none⟩), m] w fun e w' => e = .returned (.bool true) ∧ w = w' := by
  obtain ⟨⟨c0, c1, c2, c3, c4, c5, c6⟩, ff⟩ := H.cells
  have t0 : (f.next == 0) = false := by rw [h6]; rfl
  have t6 : (f.next == 6) = true := by rw [h6]; rfl
  clear h6
  go_enter Try.func26, Try.ntmps26
  go_wp2_with fail
  refine (irdone_any _ b f H).mono ?_
  rintro e w' ⟨rfl, rfl⟩
  rw [t6]
  go_wp2
  go_ret
  exact ⟨rfl, rfl⟩

/-- One step, with the memory: nothing once it is done. -/
def stepM (f : IR) (M : MS) : IR × MS := if f.next = 6 then (f, M) else (f.step (M.at_ f.addr), M.met f.addr)
def stepPostM (w : World) (b mb : Nat) (f : IR) (mv : Value) (M : MS) (e : Ending) (w' : World) : Prop :=
  e = .returned (.bool ((stepM f M).1.next == 6)) ∧ IRAt w' b (stepM f M).1 ∧ MemAt w' mb mv (stepM f M).2 ∧ Fr [b, mb] w w'
theorem irstep_any (w : World) (b mb : Nat) (f : IR) (mv : Value) (M : MS) (H : IRAt w b f) (HM : MemAt w mb mv M) (hn : R.I64 f.n) :
    Calls Try.prog 26 #[.pointer (some ⟨b, 0, none⟩), .pointer (some ⟨mb, 0, none⟩)] w (stepPostM w b mb f mv M) := by
  by_cases h6 : f.next = 6
  · refine (irstep_done w b f _ H h6).mono ?_
    rintro e w' ⟨rfl, rfl⟩
    unfold stepPostM stepM
    rw [if_pos h6]
    exact ⟨by rw [h6]; rfl, H, HM, Fr.refl _ _⟩
  · by_cases h0 : f.next = 0
    · refine (irstep_degree w b mb f mv M H HM h0 hn).mono ?_
      intro e w' h
      unfold stepPostM stepM
      rw [if_neg h6]
      exact h
    · refine (irstep_key w b mb f mv M H HM h0 h6).mono ?_
      intro e w' h
      unfold stepPostM stepM
      rw [if_neg h6]
      exact h
theorem step_n (f : IR) (q : Int) : (f.step q).n = f.n := by
  unfold R.IR.step R.IR.key R.IR.guess R.IR.up R.IR.down R.IR.fin
  repeat' split
  all_goals rfl
theorem stepM_n (f : IR) (M : MS) : (stepM f M).1.n = f.n := by
  unfold stepM; split
  · rfl
  · exact step_n _ _
theorem step_k (f : IR) (q : Int) : (f.step q).k = f.k := by
  unfold R.IR.step R.IR.key R.IR.guess R.IR.up R.IR.down R.IR.fin
  repeat' split
  all_goals rfl
end Go.Proofs.Ytilkkfpfcegncaa
