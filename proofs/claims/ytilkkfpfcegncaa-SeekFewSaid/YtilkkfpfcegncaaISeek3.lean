/- The program's seek: its other steps. -/
import Derived.Test.YtilkkfpfcegncaaISeek2
import Derived.Deep.RegionHeld3
set_option linter.unusedVariables false
namespace Go.Proofs.Ytilkkfpfcegncaa
open Go.RowKit
open R (MS IR IP IK)

theorem ikmeet_at {w' : World} {b rb rb' pb : Nat} {pp : Value} {g : IK} {x : Int} (hb : Blk w' b (ikCells (g.meet x) rb' pp) 56)
    (hr : (R.kind x ≠ 3 ∧ rb' = rb ∧ IRAt w' rb g.route) ∨ (R.kind x = 3 ∧ IRAt w' rb' ⟨0, R.addr x, g.k, 0, 0, 0, 0⟩)) (hh : g.has = true) (hp : pp = .pointer (some ⟨pb, 0, none⟩)) (hi : IPAt w' pb g.peek)
    (hk : R.I64 g.k) (hn : R.I64 g.n) (hrn : R.I64 g.route.n) (hv : R.I64 g.value) : IKAt w' b rb' pp [b, rb', pb] (g.meet x) := by
  have ha := R.addr_bd x
  have ha' : R.I64 (R.addr x) := ⟨by omega, by omega⟩
  have key : ∀ n : Int, n ≠ 0 → n ≠ 1 → 0 ≤ n → n ≤ 5 → R.kind x ≠ 3 → g.meet x = { g with at_ := R.addr x, next := n } → IKAt w' b rb' pp [b, rb', pb] (g.meet x) := by
    intro n n0 n1 n2 n3 h3 he
    rcases hr with ⟨_, rfl, hr⟩ | ⟨h, _⟩
    · rw [he] at hb ⊢
      exact ⟨hb, hr, .inr ⟨pb, hh, hp, hi, rfl⟩, hk, hn, hrn, ha, hv, ⟨n2, n3⟩, fun h => absurd h n1, fun h => absurd h n0, fun h => absurd h n1⟩
    · exact absurd h h3
  by_cases h2 : R.kind x = 2
  · exact key 2 (by decide) (by decide) (by decide) (by decide) (by omega) (by unfold R.IK.meet; rw [if_pos h2])
  by_cases h3 : R.kind x = 3
  · rcases hr with ⟨h, _⟩ | ⟨_, hr⟩
    · exact absurd h3 h
    · have he : g.meet x = ({ g with at_ := R.addr x } : IK).enter (R.addr x) := by unfold R.IK.meet; rw [if_neg h2, if_pos h3]
      rw [he] at hb ⊢
      exact ⟨hb, hr, .inr ⟨pb, hh, hp, hi, rfl⟩, hk, ha', ha', ha, hv, ⟨Int.le_refl 0, by show (0 : Int) ≤ 5; decide⟩, fun _ => hh, fun _ => by show (0 : Int) ≠ 6; decide, fun h => absurd (show (0 : Int) = 1 from h) (by decide)⟩
  by_cases h4 : R.kind x = 4
  · exact key 4 (by decide) (by decide) (by decide) (by decide) h3 (by unfold R.IK.meet; rw [if_neg h2, if_neg h3, if_pos h4])
  · exact key 5 (by decide) (by decide) (by decide) (by decide) h3 (by unfold R.IK.meet; rw [if_neg h2, if_neg h3, if_neg h4])

set_option maxHeartbeats 1000000 in
theorem isstep_peek (w : World) (b mb rb : Nat) (pp : Value) (S : List Nat) (f : IK) (mv : Value) (M : MS) (H : IKAt w b rb pp S f) (HM : MemAt w mb mv M) (h1 : f.next = 1) :
    Calls Try.prog 10 #[.pointer (some ⟨b, 0, none⟩), .pointer (some ⟨mb, 0, none⟩)] w (isPost w b mb S f mv M) := by
  have hlive := H.livep h1
  have hhas := H.hasp h1
  have hb := H.blk
  have hmem := H.mem
  obtain ⟨pb, _, rfl, hp, rfl⟩ : ∃ pb, f.has = true ∧ pp = .pointer (some ⟨pb, 0, none⟩) ∧ IPAt w pb f.peek ∧ S = [b, rb, pb] := by
    rcases H.peek with ⟨h, _⟩ | h
    · rw [hhas] at h; cases h
    · exact h
  have hne := hb.ne hp.blk (by decide)
  have hrp := H.route.blk.ne hp.blk (by decide)
  have hbm := hb.nmem HM (by decide)
  have hrm := H.route.blk.nmem HM (by decide)
  have c0 : w.cell? ⟨b, 0, none⟩ = some (.int .i64 1) := by rw [← h1]; exact hb.cell 0
  have c4 : w.cell? ⟨b, 4, none⟩ = some (.pointer (some ⟨pb, 0, none⟩)) := hb.cell 4
  obtain ⟨q, hq⟩ : ∃ q, M.at_ f.peek.cell = q := ⟨_, rfl⟩
  have hadd : f.addr = f.peek.cell := by unfold R.IK.addr; rw [if_neg (by omega), if_pos h1]
  obtain ⟨r, hr⟩ : ∃ r, f.peek.step q = r := ⟨_, rfl⟩
  have hsM : ipStep f.peek M = (r, M.met f.peek.cell) := by unfold ipStep; rw [if_neg hlive, hq, hr]
  have hst : ikStep f M = (f.step q, M.met f.peek.cell) := by unfold ikStep; rw [if_neg (by omega), hadd, hq]
  unfold isPost
  rw [hst]
  obtain ⟨O, hO⟩ : ∃ O, f.step q = O := ⟨_, rfl⟩
  rw [hO]
  unfold R.IK.step at hO
  rw [if_neg (by omega), if_pos h1, hr] at hO
  have HS := Lib.hid hsM
  have HR := H
  have HH := Lib.hid hhas
  clear hsM hst hadd hq hr hhas
  by_cases h3 : r.next = 3
  · rw [if_pos h3] at hO
    have t3 : (r.next == 3) = true := by simpa using h3
    have E := Lib.hid hO
    have H1 := Lib.hid h1
    clear hO h3 h1
    go_enter Try.func10, Try.ntmps10
    go_wp2_with fail
    refine (ipstep_any w pb mb f.peek mv M hp HM).mono ?_
    unfold ipPost
    rw [HS.out]
    rintro e w1 ⟨rfl, HI1, HM1, F1⟩
    have hb1 : Blk w1 b (ikCells { f with peek := r } rb (.pointer (some ⟨pb, 0, none⟩))) 56 := hb.keep F1 (by simp; exact ⟨hne, hbm⟩)
    have hr1 : IRAt w1 rb f.route := HR.route.keep F1 (by simp; exact ⟨hrp, hrm⟩)
    have d4 : w1.cell? ⟨b, 4, none⟩ = some (.pointer (some ⟨pb, 0, none⟩)) := hb1.cell 4
    clear c0 c4
    go_wp2_with fail
    refine (ipword_any w1 pb r HI1).mono ?_
    rintro e w' ⟨rfl, rfl⟩
    go_wp2_with fail
    refine (ismeet_any w1 b rb _ { f with peek := r } r.word HR.k hb1).mono ?_
    rintro e w2 ⟨rfl, rb', hb2, hr2, F2⟩
    have hO : IKAt w2 b rb' (.pointer (some ⟨pb, 0, none⟩)) [b, rb', pb] O := by
      have e := E.out; subst e
      refine ikmeet_at (rb := rb) hb2 ?_ HH.out rfl (HI1.keep F2 (by simp; exact fun h => hne h.symm)) HR.k HR.n HR.rn HR.val
      rcases hr2 with ⟨h, rfl⟩ | ⟨h, _, h'⟩
      · exact .inl ⟨h, rfl, hr1.keep F2 (by simp; exact fun h => (HR.ne h.symm))⟩
      · exact .inr ⟨h, h'⟩
    have hw : rb' = rb ∨ w.heap.size ≤ rb' := by
      have z1 := F1.size
      rcases hr2 with ⟨_, h⟩ | ⟨_, h, _⟩
      · exact .inl h
      · exact .inr (by omega)
    clear d4
    go_wp2_with fail
    refine (isdone_any _ b rb' _ O hO.blk).mono ?_
    rintro e w' ⟨rfl, rfl⟩
    go_wp2
    go_ret
    refine ⟨rfl, ⟨_, ⟨_, _, hO⟩, ?_⟩, HM1.keep1 hb1 (by decide) (by decide) F2, (F1.mono (by intro x hx; simp at hx; rcases hx with rfl | rfl <;> simp)).trans (F2.mono (by intro x hx; simp at hx; subst hx; simp))⟩
    intro x hx
    simp at hx
    rcases hx with rfl | rfl | rfl
    · exact .inl (by simp)
    · rcases hw with rfl | h
      · exact .inl (by simp)
      · exact .inr h
    · exact .inl (by simp)
  · rw [if_neg h3] at hO
    have t3 : (r.next == 3) = false := by simpa using h3
    have E := Lib.hid hO
    have H1 := Lib.hid h1
    have H3 := Lib.hid h3
    clear hO h3 h1
    go_enter Try.func10, Try.ntmps10
    go_wp2_with fail
    refine (ipstep_any w pb mb f.peek mv M hp HM).mono ?_
    unfold ipPost
    rw [HS.out]
    rintro e w1 ⟨rfl, HI1, HM1, F1⟩
    have hO : IKAt w1 b rb (.pointer (some ⟨pb, 0, none⟩)) [b, rb, pb] O := by
      have e := E.out; subst e
      exact ⟨hb.keep F1 (by simp; exact ⟨hne, hbm⟩), HR.route.keep F1 (by simp; exact ⟨hrp, hrm⟩), .inr ⟨pb, HH.out, rfl, HI1, rfl⟩, HR.k, HR.n, HR.rn, HR.at0, HR.val, HR.rng, HR.hasp, HR.live, fun _ => H3.out⟩
    clear c0 c4
    go_wp2_with fail
    refine (isdone_any _ b rb _ O hO.blk).mono ?_
    rintro e w' ⟨rfl, rfl⟩
    go_wp2
    go_ret
    exact ⟨rfl, ⟨_, ⟨_, _, hO⟩, fun x hx => .inl hx⟩, HM1, F1.mono (by intro x hx; simp at hx; rcases hx with rfl | rfl <;> simp)⟩
set_option maxHeartbeats 1000000 in
theorem isstep_key (w : World) (b mb rb : Nat) (pp : Value) (S : List Nat) (f : IK) (mv : Value) (M : MS) (H : IKAt w b rb pp S f) (HM : MemAt w mb mv M) (h : f.next = 2) :
    Calls Try.prog 10 #[.pointer (some ⟨b, 0, none⟩), .pointer (some ⟨mb, 0, none⟩)] w (isPost w b mb S f mv M) := by
  have hb := H.blk
  have hmem := H.mem
  have htS := H.typed
  obtain ⟨a0, a1⟩ := H.at0
  have hbm := hb.nmem HM (by decide)
  have c0 : w.cell? ⟨b, 0, none⟩ = some (.int .i64 2) := by rw [← h]; exact hb.cell 0
  have c1 : w.cell? ⟨b, 1, none⟩ = some (.int .i64 f.k) := hb.cell 1
  have c5 : w.cell? ⟨b, 5, none⟩ = some (.int .i64 f.at_) := hb.cell 5
  have ff := hb.free
  obtain ⟨q, hq⟩ : ∃ q, M.at_ (f.at_) = q := ⟨_, rfl⟩
  have hqb := at_ok HM.2.2 (f.at_)
  rw [hq] at hqb
  have hadd : f.addr = f.at_ := by unfold R.IK.addr; rw [if_neg (by omega), if_neg (by omega), if_neg (by omega)]
  have hst : ikStep f M = (f.step q, M.met (f.at_)) := by unfold ikStep; rw [if_neg (by omega), hadd, hq]
  unfold isPost
  rw [hst]
  obtain ⟨O, hO⟩ : ∃ O, f.step q = O := ⟨_, rfl⟩
  rw [hO]
  unfold R.IK.step at hO
  rw [if_neg (by omega), if_neg (by omega), if_pos h] at hO
  have HQ := Lib.hid hq
  have HR := H
  clear hst hadd hq h
  by_cases hk : q = f.k
  · rw [if_pos hk] at hO
    have tk : (q != f.k) = false := by simpa using hk
    have E := Lib.hid hO
    clear hO hk
    have b0 := hb.set 0 (.int .i64 3)
    have F0 : Fr [b] w (w.setCell ⟨b, 0, none⟩ (.int .i64 3)) := (Fr.refl _ _).setCell (.inl (by simp)) _
    have HM0 := HM.keep1 hb (by decide) (by decide) F0
    have k5 : (w.setCell ⟨b, 0, none⟩ (.int .i64 3)).cell? ⟨b, 5, none⟩ = some (.int .i64 f.at_) := b0.cell 5
    have k1 : (w.setCell ⟨b, 0, none⟩ (.int .i64 3)).cell? ⟨b, 1, none⟩ = some (.int .i64 f.k) := b0.cell 1
    go_enter Try.func10, Try.ntmps10
    have hwr : IntKind.i64.wrap f.at_ = f.at_ := by rw [IntKind.wrap_i64]; omega
    go_wp2_with fail
    go_region_held3 (fun w' => w'.cell? ⟨b, 5, none⟩ = some (.int .i64 f.at_) ∧ w'.cell? ⟨b, 1, none⟩ = some (.int .i64 f.k)) (first | exact ⟨k5, k1⟩ | exact ⟨l5, l1⟩)
      (first
        | (go_at_call 34
           refine (iread_any _ mb mv M _ (by exact HM0)).mono ?_
           rintro e w1 ⟨rfl, HM1, F1⟩
           replace F1 := F1.of_drew
           rw [HQ.out]
           have b1 := b0.keep F1 (by simp; exact hbm)
           have l5 : w1.cell? ⟨b, 5, none⟩ = some (.int .i64 f.at_) := b1.cell 5
           have l1 : w1.cell? ⟨b, 1, none⟩ = some (.int .i64 f.k) := b1.cell 1
           have l0 : w1.cell? ⟨b, 0, none⟩ = some (.int .i64 3) := b1.cell 0
           have lf := b1.free))
    all_goals
      clear c0 c1 c5 ff k5 k1 l5 l1
      have hO : IKAt w1 b rb pp S O := by
        have e := E.out; subst e
        have hI : IKAt w1 b rb pp S { f with next := 3 } := by
          have hX : ∀ x ∈ S, x ≠ mb := fun x hx e => HM.out htS (by decide) (e ▸ hx)
          refine ⟨b1, (HR.route.keep F0 (by simp; exact fun h => HR.ne h.symm)).keep F1 (by simp; exact hX rb hmem.2), ?_, HR.k, HR.n, HR.rn, HR.at0, HR.val, ⟨by show (0 : Int) ≤ 3; decide, by show (3 : Int) ≤ 5; decide⟩, fun h => absurd (show (3 : Int) = 1 from h) (by decide), fun h => absurd (show (3 : Int) = 0 from h) (by decide), fun h => absurd (show (3 : Int) = 1 from h) (by decide)⟩
          rcases HR.peek with h | ⟨pb, h1, h2, h3, h4⟩
          · exact .inl h
          · have hp1 : pb ≠ b := h3.blk.ne hb (by decide)
            exact .inr ⟨pb, h1, h2, (h3.keep F0 (by simp; exact hp1)).keep F1 (by simp; exact hX pb (by simp [h4])), h4⟩
        exact hI
      go_wp2_with fail
      refine (isdone_any _ b rb _ O hO.blk).mono ?_
      rintro e w' ⟨rfl, rfl⟩
      go_wp2
      go_ret
      exact ⟨rfl, ⟨_, ⟨_, _, hO⟩, fun x hx => .inl hx⟩, HM1, (F0.mono (by intro x hx; simp at hx; subst hx; simp [hmem.1])).trans (F1.mono (by intro x hx; simp at hx; subst hx; simp))⟩
  · rw [if_neg hk] at hO
    have tk : (q != f.k) = true := by simpa using hk
    have E := Lib.hid hO
    clear hO hk
    have b0 := hb.set 0 (.int .i64 3)
    have F0 : Fr [b] w (w.setCell ⟨b, 0, none⟩ (.int .i64 3)) := (Fr.refl _ _).setCell (.inl (by simp)) _
    have HM0 := HM.keep1 hb (by decide) (by decide) F0
    have k5 : (w.setCell ⟨b, 0, none⟩ (.int .i64 3)).cell? ⟨b, 5, none⟩ = some (.int .i64 f.at_) := b0.cell 5
    have k1 : (w.setCell ⟨b, 0, none⟩ (.int .i64 3)).cell? ⟨b, 1, none⟩ = some (.int .i64 f.k) := b0.cell 1
    go_enter Try.func10, Try.ntmps10
    have hwr : IntKind.i64.wrap f.at_ = f.at_ := by rw [IntKind.wrap_i64]; omega
    go_wp2_with fail
    go_region_held3 (fun w' => w'.cell? ⟨b, 5, none⟩ = some (.int .i64 f.at_) ∧ w'.cell? ⟨b, 1, none⟩ = some (.int .i64 f.k)) (first | exact ⟨k5, k1⟩ | exact ⟨l5, l1⟩)
      (first
        | (go_at_call 34
           refine (iread_any _ mb mv M _ (by exact HM0)).mono ?_
           rintro e w1 ⟨rfl, HM1, F1⟩
           replace F1 := F1.of_drew
           rw [HQ.out]
           have b1 := b0.keep F1 (by simp; exact hbm)
           have l5 : w1.cell? ⟨b, 5, none⟩ = some (.int .i64 f.at_) := b1.cell 5
           have l1 : w1.cell? ⟨b, 1, none⟩ = some (.int .i64 f.k) := b1.cell 1
           have l0 : w1.cell? ⟨b, 0, none⟩ = some (.int .i64 3) := b1.cell 0
           have lf := b1.free))
    all_goals
      clear c0 c1 c5 ff k5 k1 l5 l1
      have b2 := b1.set 0 (.int .i64 5)
      have F2 : Fr [b] w1 (w1.setCell ⟨b, 0, none⟩ (.int .i64 5)) := (Fr.refl _ _).setCell (.inl (by simp)) _
      have hO : IKAt (w1.setCell ⟨b, 0, none⟩ (.int .i64 5)) b rb pp S O := by
        have e := E.out; subst e
        have hI : IKAt (w1.setCell ⟨b, 0, none⟩ (.int .i64 5)) b rb pp S { f with next := 5 } := by
          have hX : ∀ x ∈ S, x ≠ mb := fun x hx e => HM.out htS (by decide) (e ▸ hx)
          refine ⟨b2, ((HR.route.keep F0 (by simp; exact fun h => HR.ne h.symm)).keep F1 (by simp; exact hX rb hmem.2)).keep F2 (by simp; exact fun h => HR.ne h.symm), ?_, HR.k, HR.n, HR.rn, HR.at0, HR.val, ⟨by show (0 : Int) ≤ 5; decide, by show (5 : Int) ≤ 5; decide⟩, fun h => absurd (show (5 : Int) = 1 from h) (by decide), fun h => absurd (show (5 : Int) = 0 from h) (by decide), fun h => absurd (show (5 : Int) = 1 from h) (by decide)⟩
          rcases HR.peek with h | ⟨pb, h1, h2, h3, h4⟩
          · exact .inl h
          · have hp1 : pb ≠ b := h3.blk.ne hb (by decide)
            exact .inr ⟨pb, h1, h2, ((h3.keep F0 (by simp; exact hp1)).keep F1 (by simp; exact hX pb (by simp [h4]))).keep F2 (by simp; exact hp1), h4⟩
        exact hI
      go_wp2_with fail
      refine (isdone_any _ b rb _ O hO.blk).mono ?_
      rintro e w' ⟨rfl, rfl⟩
      go_wp2
      go_ret
      exact ⟨rfl, ⟨_, ⟨_, _, hO⟩, fun x hx => .inl hx⟩, HM1.keep1 b1 (by decide) (by decide) F2, ((F0.mono (by intro x hx; simp at hx; subst hx; simp [hmem.1])).trans (F1.mono (by intro x hx; simp at hx; subst hx; simp))).trans (F2.mono (by intro x hx; simp at hx; subst hx; simp [hmem.1]))⟩
end Go.Proofs.Ytilkkfpfcegncaa
