/- Frame.Step. -/
import Derived.Test.YtfgkgmfcbhbomaaGreatNew
import Derived.Test.YtfgkgmfcbhbomaaGreatDo
import Derived.Deep.RegionHeld3
import Derived.Deep.RegionLaw
set_option linter.unusedVariables false
namespace Go.Proofs.YtfgkgmfcbhbomaaGreat
open Go.RowKit
open R (RS MS)

/-- Two slices share no block. -/
def Apart (v v' : Value) : Prop := ∀ g, v.ownBlock = some g → v'.ownBlock ≠ some g
/-- A slice's block is the same as before, or new. -/
def Same (w : World) (v v' : Value) : Prop := v'.ownBlock = v.ownBlock ∨ ∃ g, v'.ownBlock = some g ∧ w.heap.size ≤ g

theorem step_done (w : World) (f : Nat) (tv : Value) (F : FC) (m : Value) (HF : FrameAt w f tv F) (hd : F.done = true) :
    Calls Tryz.prog 14 #[.pointer (some ⟨f, 0, none⟩), m] w fun e w' => e = .returned (.bool true) ∧ w = w' := by
  have c23 : w.cell? ⟨f, 23, none⟩ = some (.bool true) := by rw [HF.1.cell, ← hd]; rfl
  go_enter Tryz.func14, Tryz.ntmps14
  go_wp2
  go_ret
  exact ⟨rfl, rfl⟩

theorem RunAt.next {w : World} {r : Nat} {s : RS} (h : RunAt w r s) : ∃ wa wc, Rd w 2 wa (ints .i64 s.next.w) ∧ s.next.Ok ∧ w.cell? ⟨r, 3, none⟩ = some (.int .i64 s.next.kind) ∧ w.cell? ⟨r, 4, none⟩ = some (.int .i64 s.next.a) ∧ w.cell? ⟨r, 5, none⟩ = some (.int .i64 s.next.x) ∧ w.cell? ⟨r, 6, none⟩ = some (.int .i64 s.next.y) ∧ w.cell? ⟨r, 7, none⟩ = some (.slice wa s.next.w.length wc) := by
  obtain ⟨t, cap, wa, wcap, hb, ht, hw, hl, hp, hbd, hnx⟩ := h
  exact ⟨wa, wcap, hw, hnx, hb.cell 3, hb.cell 4, hb.cell 5, hb.cell 6, hb.cell 7⟩

set_option maxHeartbeats 1000000 in
theorem frame_tape (F : FC) (tv v : Value) (t : List Int) : (frameCells F tv).setIfInBounds 22 v = frameCells { F with tape := t } v := rfl
def stepped (F : FC) (pl : List Int → RS × OC) (M : MS) : FC := settled { F with tape := F.tape ++ [(R.doAsk (pl F.tape).1.next M).1] } pl
def stepPost (w : World) (f mb : Nat) (tv mv : Value) (F : FC) (M : MS) (pl : List Int → RS × OC) (e : Ending) (w' : World) : Prop :=
  e = .returned (.bool (stepped F pl M).done) ∧ ∃ tv' mv', FrameAt w' f tv' (stepped F pl M) ∧ RMemAt w' mb mv' (R.doAsk (pl F.tape).1.next M).2 ∧ Apart tv' mv' ∧ Same w tv tv' ∧ Same w mv mv' ∧ Fr (f :: mb :: (ownOf tv ++ ownOf mv)) w w'
theorem R.i64_1 : R.I64 1 := ⟨by decide, by decide⟩
theorem doAsk_ok (q : R.Ask) (hq : q.Ok) (M : MS) (h : M.Ok) : R.I64 (R.doAsk q M).1 := by
  have h1 := h.max1
  have h2 := h.len
  unfold R.doAsk
  split
  · exact at_ok h _
  split
  · exact R.i64_0
  split
  · split
    · exact R.i64_1
    · exact R.i64_0
  split
  · exact at_ok h _
  split
  · unfold R.MS.made; split <;> constructor <;> simp only [] <;> omega
  · exact R.i64_0
theorem own_mem {v : Value} {g : Nat} (h : v.ownBlock = some g) : g ∈ ownOf v := by simp [ownOf, h]
theorem mem_own {v : Value} {g : Nat} (h : g ∈ ownOf v) : v.ownBlock = some g := by simpa [ownOf] using h

/-- What lies behind the append, and the store of the new tape. -/
theorem step_mid {w w2 w3 w4 : World} {f mb g cap : Nat} {tv mv mv' : Value} {F : FC} {M : MS} {q : R.Ask} (hq : q.Ok) (F2 : Fr [] w w2) (HF : FrameAt w2 f tv F) (HM : RMemAt w2 mb mv M) (hap : Apart tv mv)
    (H3 : RMemAt w3 mb mv' (R.doAsk q M).2) (hmv : Same w2 mv mv') (F3 : Fr (mb :: ownOf mv) w2 w3)
    (o4 : w4.ownsRow 0 2 1 (.slice (some ⟨g, 0, none⟩) (F.tape.length + 1) cap) (F.tape.length + 1) (ints .i64 (F.tape ++ [(R.doAsk q M).1]))) (F4 : Fr (ownOf tv) w3 w4) (hg : tv.ownBlock = some g ∨ w3.heap.size ≤ g) :
    FrameAt (w4.setCell ⟨f, 22, none⟩ (.slice (some ⟨g, 0, none⟩) (F.tape.length + 1) cap)) f (.slice (some ⟨g, 0, none⟩) (F.tape.length + 1) cap) { F with tape := F.tape ++ [(R.doAsk q M).1] } ∧
    RMemAt (w4.setCell ⟨f, 22, none⟩ (.slice (some ⟨g, 0, none⟩) (F.tape.length + 1) cap)) mb mv' (R.doAsk q M).2 ∧ Apart (.slice (some ⟨g, 0, none⟩) (F.tape.length + 1) cap) mv' ∧ Same w tv (.slice (some ⟨g, 0, none⟩) (F.tape.length + 1) cap) ∧ Same w mv mv' ∧
    Fr (f :: mb :: (ownOf tv ++ ownOf mv)) w (w4.setCell ⟨f, 22, none⟩ (.slice (some ⟨g, 0, none⟩) (F.tape.length + 1) cap)) := by
  have nf := HM.nmem HF.1 (by decide) (by decide)
  have nf4 : f ∉ ownOf tv := fun hm => own_out HF.2.1 HF.1 (by decide) f (mem_own hm) (by simp)
  have nmt : mb ∉ ownOf tv := fun hm => own_out HF.2.1 HM.1 (by decide) mb (mem_own hm) (by simp)
  have b3 := HF.1.keep F3 nf
  have b4 := b3.keep F4 nf4
  have s2 := F2.size
  have s3 := F3.size
  have s4 := F4.size
  have ltt := own_lt HF.2.1
  have ltm := own_lt H3.2.1
  have apart : ∀ x, mv'.ownBlock = some x → x ∉ ownOf tv := by
    intro x hx hm
    rcases hmv with e | ⟨y, e, hy⟩
    · exact hap x (mem_own hm) (by rw [← e]; exact hx)
    · have := ltt x (mem_own hm); rw [e] at hx; injection hx with hx; omega
  have apart' : Apart (.slice (some ⟨g, 0, none⟩) (F.tape.length + 1) cap) mv' := by
    intro x hx hx'
    injection hx with hx
    subst hx
    rcases hg with hg | hg
    · exact apart _ hx' (own_mem hg)
    · have hlt : g < w3.heap.size := ltm _ hx'
      omega
  have FS : Fr [f] w4 (w4.setCell ⟨f, 22, none⟩ (.slice (some ⟨g, 0, none⟩) (F.tape.length + 1) cap)) := (Fr.refl _ _).setCell (.inl (by simp)) _
  have M4 : RMemAt w4 mb mv' (R.doAsk q M).2 := ⟨H3.1.keep F4 nmt, own_keep H3.2.1 F4 apart, H3.2.2⟩
  have nmf : mb ∉ [f] := by have := HF.1.ne HM.1 (by decide); simp; exact fun e => this e.symm
  refine ⟨⟨?_, ?_, ?_⟩, ⟨M4.1.keep FS nmf, own_keep M4.2.1 FS (own_out M4.2.1 b4 (by decide)), M4.2.2⟩, apart', ?_, ?_, ?_⟩
  · have := b4.set 22 (.slice (some ⟨g, 0, none⟩) (F.tape.length + 1) cap)
    rw [frame_tape _ _ _ (F.tape ++ [(R.doAsk q M).1])] at this
    exact this
  · have := own_keep o4 FS (own_out o4 b4 (by decide))
    simpa using this
  · intro x hx
    rcases List.mem_append.1 hx with hx | hx
    · exact HF.2.2 x hx
    · rw [List.mem_singleton.1 hx]; exact doAsk_ok q hq M HM.2.2
  · rcases hg with hg | hg
    · exact .inl hg.symm
    · exact .inr ⟨g, rfl, by omega⟩
  · rcases hmv with e | ⟨y, e, hy⟩
    · exact .inl e
    · exact .inr ⟨y, e, by omega⟩
  · refine ((F2.old.trans (F3.mono ?_)).trans (F4.mono ?_)).trans (FS.mono ?_)
    · intro x hx; rcases List.mem_cons.1 hx with hx | hx <;> simp [hx]
    · intro x hx; simp [hx]
    · intro x hx; simp [List.mem_singleton.1 hx]

set_option maxRecDepth 100000 in
theorem step_any (F0 : FC) (pl : List Int → RS × OC) (hpl : PlayIs F0 pl) (w : World) (f mb : Nat) (tv mv : Value) (F : FC) (M : MS) (hF1 : F.proc = F0.proc) (hF2 : F.x = F0.x) (HF : FrameAt w f tv F) (HM : RMemAt w mb mv M)
    (hap : Apart tv mv) (hlen : F.tape.length < 17592186044415) (hd : F.done = false) :
    Calls Tryz.prog 14 #[.pointer (some ⟨f, 0, none⟩), .pointer (some ⟨mb, 0, none⟩)] w (stepPost w f mb tv mv F M pl) := by
  have c23 : w.cell? ⟨f, 23, none⟩ = some (.bool false) := by rw [HF.1.cell, ← hd]; rfl
  have HP1 := Lib.hid hF1
  have HP2 := Lib.hid hF2
  have HD := Lib.hid hd
  clear hF1 hF2 hd
  go_enter Tryz.func14, Tryz.ntmps14
  go_wp2_with fail
  refine (hpl w f tv F HP1.out HP2.out HF (by omega)).mono ?_
  rintro e w1 ⟨r, rfl, hrs, H1, F1⟩
  have hr1 := H1.lt
  go_wp2_with (first | ((with_reducible show wpList _ _ _ ({ dst := _, op := Op.store 56 _ _, type := _, pos := _, after := _, guard := _ } :: _) _ _); refine store_agg rfl 56 _ _ rfl w1.heap.size 0 13 rfl (pl F.tape).2.arr rfl 56 _ (Blk.new _ _ _) size_out rfl (by simp) (OC.flat _) ?_))
  intro w2 h2 f2 z2 d2
  have F2 : Fr [] w w2 := F1.trans (((Fr.refl [] w1).alloc _).trans' f2 (by simp))
  have H2 := H1.keep (((Fr.refl [] w1).alloc _).trans' f2 (by simp))
  obtain ⟨wa, wc, HW, hnx, r3, r4, r5, r6, r7⟩ := H2.next
  have HF2 := HF.keep F2
  have HM2 := HM.grow F2
  obtain ⟨ta, tc, rfl, hR⟩ := own_tape HF2.2.1
  have c22 : w2.cell? ⟨f, 22, none⟩ = some (.slice ta F.tape.length tc) := by rw [HF2.1.cell]; rfl
  have HM3 : RMemAt w2.drew mb mv M := HM2
  have HW3 : Rd w2.drew 2 wa (ints .i64 (pl F.tape).1.next.w) := HW
  obtain ⟨rcs, hrb⟩ : ∃ rcs, Blk w2 r rcs 84 := by obtain ⟨_, _, _, _, h, _⟩ := H2; exact ⟨_, h⟩
  have nf := HM2.nmem HF2.1 (by decide) (by decide)
  have nr := HM2.nmem hrb (by decide) (by decide)
  have nt : ∀ g, (Value.slice ta F.tape.length tc).ownBlock = some g → g ∉ mb :: ownOf mv := by
    intro g hg hm
    rcases List.mem_cons.1 hm with hm | hm
    · exact own_out HF2.2.1 HM2.1 (by decide) g hg (by simp [hm])
    · exact hap g hg (by simpa [ownOf] using hm)
  have nf4 : f ∉ ownOf (.slice ta F.tape.length tc) := fun hm => own_out HF2.2.1 HF2.1 (by decide) f (by simpa [ownOf] using hm) (by simp)
  have nr4 : r ∉ ownOf (.slice ta F.tape.length tc) := fun hm => own_out HF2.2.1 hrb (by decide) r (by simpa [ownOf] using hm) (by simp)
  clear h2 f2 H1 hr1 F1
  go_wp2_with fail
  go_region_law (first
      | (go_simp
         go_at_call 31
         refine (do_any _ mb mv M _ hnx wa wc HM3 HW3).mono ?_
         rintro e w3 ⟨rfl, mv', H3, hmv, F3⟩
         have k1 := HF2.1.keep (w := w2.drew) F3 nf
         have k2 := hrb.keep (w := w2.drew) F3 nr
         have z3a := k1.lt
         have z3b := k2.lt
         have k3 : w3.cell? ⟨f, 22, none⟩ = some (.slice ta F.tape.length tc) := (k1.cell _).trans ((HF2.1.cell _).symm.trans c22)
         have k4 : w3.cell? ⟨r, 3, none⟩ = some (.int .i64 (pl F.tape).1.next.kind) := (k2.cell _).trans ((hrb.cell _).symm.trans r3)
         have k5 : w3.cell? ⟨r, 4, none⟩ = some (.int .i64 (pl F.tape).1.next.a) := (k2.cell _).trans ((hrb.cell _).symm.trans r4)
         have k6 : w3.cell? ⟨r, 5, none⟩ = some (.int .i64 (pl F.tape).1.next.x) := (k2.cell _).trans ((hrb.cell _).symm.trans r5)
         have k7 : w3.cell? ⟨r, 6, none⟩ = some (.int .i64 (pl F.tape).1.next.y) := (k2.cell _).trans ((hrb.cell _).symm.trans r6)
         have k8 : w3.cell? ⟨r, 7, none⟩ = some (.slice wa (pl F.tape).1.next.w.length wc) := (k2.cell _).trans ((hrb.cell _).symm.trans r7)
         have k9 : w3.ownsRow 0 2 1 (.slice ta F.tape.length tc) F.tape.length (ints .i64 F.tape) := own_keep (w := w2.drew) HF2.2.1 F3 nt)
      | (refine step_append1 w3 rfl _ _ rfl (.slice ta F.tape.length tc) F.tape _ rfl k9 rfl (by omega) ?_
         intro g cap w4 o4 F4 hg4 gl4
         have j1 := k1.keep F4 nf4
         have jr := k2.keep F4 nr4
         have l3 : w4.cell? ⟨f, 22, none⟩ = some (.slice ta F.tape.length tc) := (j1.cell _).trans ((HF2.1.cell _).symm.trans c22)
         have l4 : w4.cell? ⟨r, 3, none⟩ = some (.int .i64 (pl F.tape).1.next.kind) := (jr.cell _).trans ((hrb.cell _).symm.trans r3)
         have l5 : w4.cell? ⟨r, 4, none⟩ = some (.int .i64 (pl F.tape).1.next.a) := (jr.cell _).trans ((hrb.cell _).symm.trans r4)
         have l6 : w4.cell? ⟨r, 5, none⟩ = some (.int .i64 (pl F.tape).1.next.x) := (jr.cell _).trans ((hrb.cell _).symm.trans r5)
         have l7 : w4.cell? ⟨r, 6, none⟩ = some (.int .i64 (pl F.tape).1.next.y) := (jr.cell _).trans ((hrb.cell _).symm.trans r6)
         have l8 : w4.cell? ⟨r, 7, none⟩ = some (.slice wa (pl F.tape).1.next.w.length wc) := (jr.cell _).trans ((hrb.cell _).symm.trans r7)
         have j3 := j1.free
         clear k3 k4 k5 k6 k7 k8 k9))
  all_goals
    obtain ⟨A1, A2, A3, A4, A5, A6⟩ := step_mid hnx F2 HF2 HM2 hap H3 hmv ⟨F3.os, F3.tape, F3.output, F3.size, F3.keep⟩ o4 F4 hg4
    clear hap c22 r3 r4 r5 r6 r7 hrb nf nr nt nf4 nr4 jr l3 l4 l5 l6 l7 l8 j3
    go_wp2_with fail
    refine (settle_any F0 pl hpl _ f _ { F with tape := F.tape ++ [(R.doAsk (pl F.tape).1.next M).1] } HP1.out HP2.out A1 (by simp; omega)).mono ?_
    rintro e w5 ⟨rfl, B1, B2⟩
    have d23 : w5.cell? ⟨f, 23, none⟩ = some (.bool (stepped F pl M).done) := by rw [B1.1.cell]; rfl
    go_wp2
    go_ret
    refine ⟨rfl, _, mv', B1, ?_, A3, A4, A5, A6.trans (B2.mono (by intro x hx; simp [List.mem_singleton.1 hx]))⟩
    have nmf : mb ∉ [f] := by have := A1.1.ne A2.1 (by decide); simp; exact fun e => this e.symm
    exact ⟨A2.1.keep B2 nmf, own_keep A2.2.1 B2 (own_out A2.2.1 A1.1 (by decide)), A2.2.2⟩
end Go.Proofs.YtfgkgmfcbhbomaaGreat
