/- The program's seek: a step. -/
import Derived.Test.YtilkkfpfcegncaaISeek
import Derived.Deep.RegionLaw
set_option linter.unusedVariables false
namespace Go.Proofs.Ytilkkfpfcegncaa
open Go.RowKit
open R (MS IR IP IK)

def ikStep (f : IK) (M : MS) : IK × MS := if f.next = 5 then (f, M) else (f.step (M.at_ f.addr), M.met f.addr)
def isPost (w : World) (b mb : Nat) (S : List Nat) (f : IK) (mv : Value) (M : MS) (e : Ending) (w' : World) : Prop :=
  e = .returned (.bool ((ikStep f M).1.next == 5)) ∧ (∃ S', IKS w' b S' (ikStep f M).1 ∧ Within w S S') ∧ MemAt w' mb mv (ikStep f M).2 ∧ Fr (mb :: S) w w'

theorem IKAt.mem {w : World} {b rb : Nat} {pp : Value} {S : List Nat} {f : IK} (h : IKAt w b rb pp S f) : b ∈ S ∧ rb ∈ S := by
  rcases h.peek with ⟨_, _, rfl⟩ | ⟨pb, _, _, _, rfl⟩ <;> simp
theorem IKAt.ne {w : World} {b rb : Nat} {pp : Value} {S : List Nat} {f : IK} (h : IKAt w b rb pp S f) : b ≠ rb := h.blk.ne h.route.blk (by decide)
theorem MemAt.out {w : World} {mb : Nat} {mv : Value} {M : MS} (HM : MemAt w mb mv M) {S : List Nat} {Ts : List TypeId} (hS : Typed w S Ts) (h1 : 42 ∉ Ts) : mb ∉ S := HM.1.sep hS h1
theorem Blk.nmem {w : World} {b mb : Nat} {cs : Array Value} {T : TypeId} {mv : Value} {M : MS} (h : Blk w b cs T) (HM : MemAt w mb mv M) (hT : T ≠ 42) : b ≠ mb := h.ne HM.1 hT

set_option maxHeartbeats 1000000 in
theorem isstep_route (w : World) (b mb rb : Nat) (pp : Value) (S : List Nat) (f : IK) (mv : Value) (M : MS) (H : IKAt w b rb pp S f) (HM : MemAt w mb mv M) (h0 : f.next = 0) :
    Calls Try.prog 10 #[.pointer (some ⟨b, 0, none⟩), .pointer (some ⟨mb, 0, none⟩)] w (isPost w b mb S f mv M) := by
  have hlive := H.live h0
  have hb := H.blk
  have hne := H.ne
  have hbm := hb.nmem HM (by decide)
  have hmem := H.mem
  have htS := H.typed
  have c0 : w.cell? ⟨b, 0, none⟩ = some (.int .i64 0) := by rw [← h0]; exact hb.cell 0
  have c3 : w.cell? ⟨b, 3, none⟩ = some (.pointer (some ⟨rb, 0, none⟩)) := hb.cell 3
  obtain ⟨q, hq⟩ : ∃ q, M.at_ f.route.addr = q := ⟨_, rfl⟩
  have hadd : f.addr = f.route.addr := by unfold R.IK.addr; rw [if_pos h0]
  obtain ⟨r, hr⟩ : ∃ r, f.route.step q = r := ⟨_, rfl⟩
  have hsM : stepM f.route M = (r, M.met f.route.addr) := by unfold stepM; rw [if_neg hlive, hq, hr]
  have hrn : r.n = f.route.n := by rw [← hr]; exact step_n _ _
  have hst : ikStep f M = (f.step q, M.met f.route.addr) := by unfold ikStep; rw [if_neg (by omega), hadd, hq]
  unfold isPost
  rw [hst]
  obtain ⟨O, hO⟩ : ∃ O, f.step q = O := ⟨_, rfl⟩
  rw [hO]
  unfold R.IK.step at hO
  rw [if_pos h0, hr] at hO
  have HS := Lib.hid hsM
  have HN := Lib.hid hrn
  have HR := H
  clear hsM hst hadd hq hr hrn
  by_cases h6 : r.next = 6
  · rw [if_pos h6] at hO
    have t6 : (r.next == 6) = true := by simpa using h6
    have E := Lib.hid hO
    have H6 := Lib.hid h6
    have H0 := Lib.hid h0
    clear hO h6 h0
    go_enter Try.func10, Try.ntmps10
    go_wp2_with fail
    refine (irstep_any w rb mb f.route mv M H.route HM H.rn).mono ?_
    unfold stepPostM
    rw [HS.out]
    rintro e w1 ⟨rfl, HI1, HM1, F1⟩
    have hb1 := hb.keep F1 (by simp; exact ⟨hne, hbm⟩)
    have d2 : w1.cell? ⟨b, 2, none⟩ = some (.int .i64 f.n) := hb1.cell 2
    have d3 : w1.cell? ⟨b, 3, none⟩ = some (.pointer (some ⟨rb, 0, none⟩)) := hb1.cell 3
    clear c0 c3
    go_wp2_with fail
    go_region_held3 (fun w' => w'.cell? ⟨b, 2, none⟩ = some (.int .i64 f.n) ∧ w'.cell? ⟨b, 3, none⟩ = some (.pointer (some ⟨rb, 0, none⟩))) (first | exact ⟨d2, d3⟩ | exact ⟨k2, k3⟩ | exact ⟨l2, l3⟩ | exact ⟨(hb3.set 0 _).cell 2, (hb3.set 0 _).cell 3⟩ | exact ⟨((hb3.set 0 _).set 4 _).cell 2, ((hb3.set 0 _).set 4 _).cell 3⟩)
      (first
        | (go_at_call 29
           refine (irdegree_any _ rb r (HI1.keep ((Fr.refl [] _).drew) (by simp))).mono ?_
           rintro e w' ⟨rfl, rfl⟩
           rw [if_pos H6.out])
        | (go_at_call 30
           refine (irchild_any _ rb r (HI1.keep ((Fr.refl [] _).drew) (by simp))).mono ?_
           rintro e w' ⟨rfl, rfl⟩)
        | (go_at_call 28
           refine (ichildAt_any _ _ _ _).mono ?_
           rintro e w2 ⟨rfl, F2⟩
           replace F2 := F2.of_drew
           have hb2 := hb1.keep F2 (by simp)
           have k2 : w2.cell? ⟨b, 2, none⟩ = some (.int .i64 f.n) := hb2.cell 2
           have k3 : w2.cell? ⟨b, 3, none⟩ = some (.pointer (some ⟨rb, 0, none⟩)) := hb2.cell 3)
        | (go_at_call 27
           refine (ipnew_any _ _).mono ?_
           rintro e w3 ⟨rfl, HP3, F3⟩
           have hb3 := hb2.keep F3 (by simp)
           have l2 : w3.cell? ⟨b, 2, none⟩ = some (.int .i64 f.n) := hb3.cell 2
           have l3 : w3.cell? ⟨b, 3, none⟩ = some (.pointer (some ⟨rb, 0, none⟩)) := hb3.cell 3
           have l0 : w3.cell? ⟨b, 0, none⟩ = some (.int .i64 f.next) := hb3.cell 0
           have l4 : w3.cell? ⟨b, 4, none⟩ = some pp := hb3.cell 4
           have lf := hb3.free))
    clear l0 l2 l3 l4 k2 k3 d2 d3
    have HQ : IPAt w3 w2.heap.size ⟨0, R.childAt f.n r.degree r.child, 0, 0⟩ := HP3
    have hpb : b ≠ w2.heap.size := by have := hb2.lt; omega
    have HI3 := (HI1.keep F2 (by simp)).keep F3 (by simp)
    have z1 := F1.size
    have z2 := F2.size
    have hrb := HI1.blk.lt
    have hb4 := (hb3.set 0 (.int .i64 1)).set 4 (.pointer (some ⟨w2.heap.size, 0, none⟩))
    have F4 : Fr [b] w3 ((w3.setCell ⟨b, 0, none⟩ (.int .i64 1)).setCell ⟨b, 4, none⟩ (.pointer (some ⟨w2.heap.size, 0, none⟩))) := ((Fr.refl _ _).setCell (.inl (by simp)) _).setCell (.inl (by simp)) _
    have hO : IKAt ((w3.setCell ⟨b, 0, none⟩ (.int .i64 1)).setCell ⟨b, 4, none⟩ (.pointer (some ⟨w2.heap.size, 0, none⟩))) b rb (.pointer (some ⟨w2.heap.size, 0, none⟩)) [b, rb, w2.heap.size] O := by
      have e := E.out; subst e
      exact ⟨hb4, HI3.keep F4 (by simp; exact fun h => hne h.symm), .inr ⟨_, rfl, rfl, HQ.keep F4 (by simp; exact fun h => hpb h.symm), rfl⟩, HR.k, HR.n, by rw [HN.out]; exact HR.rn, HR.at0, HR.val, ⟨by show (0 : Int) ≤ 1; decide, by show (1 : Int) ≤ 5; decide⟩, fun _ => rfl, fun h => absurd (show (1 : Int) = 0 from h) (by decide), fun _ => by show (0 : Int) ≠ 3; decide⟩
    have hM : MemAt ((w3.setCell ⟨b, 0, none⟩ (.int .i64 1)).setCell ⟨b, 4, none⟩ (.pointer (some ⟨w2.heap.size, 0, none⟩))) mb mv (M.met f.route.addr) := (((HM1.grow F2).grow F3)).keep1 hb3 (by decide) (by decide) F4
    have FF : Fr (mb :: S) w ((w3.setCell ⟨b, 0, none⟩ (.int .i64 1)).setCell ⟨b, 4, none⟩ (.pointer (some ⟨w2.heap.size, 0, none⟩))) :=
      (((F1.mono (by intro x hx; simp at hx; rcases hx with rfl | rfl <;> simp [hmem.2])).trans F2.old).trans F3.old).trans (F4.mono (by intro x hx; simp at hx; subst hx; simp [hmem.1]))
    go_wp2_with fail
    refine (isdone_any _ b rb _ O hO.blk).mono ?_
    rintro e w' ⟨rfl, rfl⟩
    go_wp2
    go_ret
    refine ⟨rfl, ⟨_, ⟨_, _, hO⟩, ?_⟩, hM, FF⟩
    intro x hx
    simp at hx
    rcases hx with rfl | rfl | rfl
    · exact .inl hmem.1
    · exact .inl hmem.2
    · exact .inr (by omega)
  · rw [if_neg h6] at hO
    have t6 : (r.next == 6) = false := by simpa using h6
    have E := Lib.hid hO
    have H6 := Lib.hid h6
    have H0 := Lib.hid h0
    clear hO h6 h0
    go_enter Try.func10, Try.ntmps10
    go_wp2_with fail
    refine (irstep_any w rb mb f.route mv M H.route HM H.rn).mono ?_
    unfold stepPostM
    rw [HS.out]
    rintro e w1 ⟨rfl, HI1, HM1, F1⟩
    have hb1 := hb.keep F1 (by simp; exact ⟨hne, hbm⟩)
    have hO : IKAt w1 b rb pp S O := by
      have e := E.out; subst e
      refine ⟨hb1, HI1, ?_, HR.k, HR.n, by rw [HN.out]; exact HR.rn, HR.at0, HR.val, HR.rng, HR.hasp, fun _ => H6.out, HR.livep⟩
      rcases HR.peek with h | ⟨pb, h1, h2, h3, h4⟩
      · exact .inl h
      · have hp1 : pb ≠ rb := h3.blk.ne HR.route.blk (by decide)
        have hp2 := h3.blk.nmem HM (by decide)
        exact .inr ⟨pb, h1, h2, h3.keep F1 (by simp; exact ⟨hp1, hp2⟩), h4⟩
    clear c0 c3
    go_wp2_with fail
    refine (isdone_any _ b rb _ O hO.blk).mono ?_
    rintro e w' ⟨rfl, rfl⟩
    go_wp2
    go_ret
    exact ⟨rfl, ⟨S, ⟨_, _, hO⟩, fun x hx => .inl hx⟩, HM1, F1.mono (by intro x hx; simp at hx; rcases hx with rfl | rfl <;> simp [hmem.2])⟩
end Go.Proofs.Ytilkkfpfcegncaa
