/- Do: an access, made to the document's memory. -/
import Derived.Test.YtfgkgmfcbhbomaaGreatMem
import Derived.Deep.AppendLies
set_option linter.unusedVariables false
namespace Go.Proofs.YtfgkgmfcbhbomaaGreat
open Go.RowKit
open R (RS MS)

/-- 'append(v, x)' of one int64, v being owned, in a region that draws its order. -/
theorem step_append1 (W : World) {ops : Array Oper} {o : Oper} {a : Act} {K : Act → World → Prop} {Q : Exit → Act → World → Prop} {E : Prop} (hgd : o.guard = none) (s x : Operand)
    (ho : o.op = .call { callee := .builtin .append, args := #[s, x], argTypes := #[22, 22] })
    (v : Value) (xs : List Int) (y : Int) (hs : a.eval s = v) (hown : W.ownsRow 0 2 1 v xs.length (ints .i64 xs)) (hx : a.eval x = .slice (some ⟨W.heap.size, 0, none⟩) 1 1) (hlen : xs.length + 1 ≤ 17592186044416)
    (h : ∀ g cap w', w'.ownsRow 0 2 1 (.slice (some ⟨g, 0, none⟩) (xs.length + 1) cap) (xs.length + 1) (ints .i64 (xs ++ [y])) → Fr (ownOf v) W w' → (v.ownBlock = some g ∨ W.heap.size ≤ g) → g < w'.heap.size → K (a.put o.dst (.slice (some ⟨g, 0, none⟩) (xs.length + 1) cap)) w') :
    if Region.wanted o (yielded ops a.tmps) = true then Oper.wp Tryz.prog o a (W.alloc (.cells #[.int .i64 y] 2)) K Q else E := by
  obtain ⟨i0, hi, hzz⟩ := Option.map_eq_some_iff.1 info_i64
  simp only [Prod.mk.injEq] at hzz
  obtain ⟨hz0, hz1, hz2⟩ := hzz
  have hown' := own_keep hown ((Fr.refl [] W).alloc (.cells #[.int .i64 y] 2)) (by simp)
  refine step_append_lies _ hgd s x 22 ho 0 2 i0 (.int .i64 0) 1 8 Tryz.underlying22 hi hz0 hz1 hz2 rfl (by decide) v xs.length (ints .i64 xs) hs hown' ⟨W.heap.size, 0, none⟩ 1 1 [.int .i64 y] hx rfl
    (World.news_of_block (cs := #[.int .i64 y]) (t := 2) (fr := (0, 0)) (heap_alloc_new W _)) (by simp [Value.oneCell']) (by decide) (by simp only [maxLen]; omega) (by omega) (Nat.zero_le _) (W.heap.size + 1) (by simp) ?_
  intro g cap w' h1 h2 h3 h4
  refine h g cap w' (by simpa [ints] using h1) ?_ (h3.imp id fun e => by omega) h4
  refine ((Fr.refl (ownOf v) W).alloc (.cells #[.int .i64 y] 2)).trans ⟨h2.os, h2.tape, h2.output, h2.size, fun k hk hn => h2.block k hk (fun e => hn ?_)⟩
  unfold ownOf
  rw [← e]
  simp

theorem RMemAt.grow {w w' : World} {b : Nat} {v : Value} {M : MS} (H : RMemAt w b v M) (hf : Fr [] w w') : RMemAt w' b v M :=
  ⟨H.1.keep hf (by simp), own_keep H.2.1 hf (by simp), H.2.2⟩
theorem RMemAt.nmem {w : World} {mb : Nat} {mv : Value} {M : MS} (H : RMemAt w mb mv M) {b : Nat} {cs : Array Value} {T : TypeId} (hb : Blk w b cs T) (h1 : T ≠ 69) (h2 : T ≠ 2) : b ∉ mb :: ownOf mv := by
  intro hm
  rcases List.mem_cons.1 hm with hm | hm
  · exact hb.ne H.1 h1 hm
  · exact own_out H.2.1 hb h2 b (by simpa [ownOf] using hm) (by simp)
def doPost (w : World) (mb : Nat) (mv : Value) (M : MS) (q : R.Ask) (e : Ending) (w' : World) : Prop :=
  e = .returned (.int .i64 (R.doAsk q M).1) ∧ ∃ v', RMemAt w' mb v' (R.doAsk q M).2 ∧ (v'.ownBlock = mv.ownBlock ∨ ∃ g, v'.ownBlock = some g ∧ w.heap.size ≤ g) ∧ Fr (mb :: ownOf mv) w w'

set_option maxHeartbeats 1000000 in
theorem do_any (w : World) (mb : Nat) (mv : Value) (M : MS) (q : R.Ask) (hq : q.Ok) (wa : Option Addr) (wc : Nat) (H : RMemAt w mb mv M) (HW : Rd w 2 wa (ints .i64 q.w)) :
    Calls Tryz.prog 31 #[.pointer (some ⟨mb, 0, none⟩), .agg #[.int .i64 q.kind, .int .i64 q.a, .int .i64 q.x, .int .i64 q.y, .slice wa q.w.length wc]] w (doPost w mb mv M q) := by
  obtain ⟨k, a, x, y, W⟩ := q
  obtain ⟨hx, hy, hW⟩ := hq
  simp only at *
  have F0 : Fr [] w (w.alloc (.cells #[.int .i64 k, .int .i64 a, .int .i64 x, .int .i64 y, .slice wa W.length wc] 82)) := (Fr.refl [] w).alloc _
  have Hm := H.grow F0
  have HW1 := HW.grow F0
  by_cases k1 : k = 1
  · have t1 : (k == 1) = true := by simpa using k1
    have e : R.doAsk ⟨k, a, x, y, W⟩ M = (M.at_ a, M.met a) := by unfold R.doAsk; rw [if_pos k1]
    unfold doPost
    rw [e]
    clear e k1
    go_enter Tryz.func31, Tryz.ntmps31
    go_wp2_with fail
    refine (rread_any _ mb mv M _ Hm).mono ?_
    rintro e w1 ⟨rfl, H1, F1⟩
    go_wp2
    go_ret
    exact ⟨rfl, mv, H1, .inl rfl, (F0.old.trans (F1.mono (by simp)))⟩
  have t1 : (k == 1) = false := by simpa using k1
  by_cases k2 : k = 2
  · have t2 : (k == 2) = true := by simpa using k2
    have e : R.doAsk ⟨k, a, x, y, W⟩ M = (0, (M.met a).put a x) := by unfold R.doAsk; rw [if_neg k1, if_pos k2]
    unfold doPost
    rw [e]
    clear e k1 k2
    go_enter Tryz.func31, Tryz.ntmps31
    go_wp2_with fail
    refine (rwrite_any _ mb mv M _ _ Hm hx.1 hx.2).mono ?_
    rintro e w1 ⟨rfl, H1, F1⟩
    go_wp2
    go_ret
    exact ⟨rfl, mv, H1, .inl rfl, F0.old.trans F1⟩
  have t2 : (k == 2) = false := by simpa using k2
  by_cases k3 : k = 3
  · have t3 : (k == 3) = true := by simpa using k3
    by_cases hc : M.has a ∧ M.at_ a = x
    · have e : R.doAsk ⟨k, a, x, y, W⟩ M = (1, (M.met a).put a y) := by unfold R.doAsk; rw [if_neg k1, if_neg k2, if_pos k3]; exact if_pos hc
      have td : decide (M.has a ∧ M.at_ a = x) = true := decide_eq_true hc
      have ti : (if M.has a ∧ M.at_ a = x then (M.met a).put a y else M.met a) = (M.met a).put a y := if_pos hc
      unfold doPost
      rw [e]
      have TI := Lib.hid ti
      have TD := Lib.hid td
      clear e k1 k2 k3 hc ti td
      go_enter Tryz.func31, Tryz.ntmps31
      go_wp2_with fail
      refine (rcas_any _ mb mv M _ _ _ Hm hy.1 hy.2).mono ?_
      rintro e w1 ⟨rfl, H1, F1⟩
      rw [TI.out] at H1
      rw [TD.out]
      go_wp2
      go_ret
      exact ⟨rfl, mv, H1, .inl rfl, F0.old.trans F1⟩
    · have e : R.doAsk ⟨k, a, x, y, W⟩ M = (0, M.met a) := by unfold R.doAsk; rw [if_neg k1, if_neg k2, if_pos k3]; exact if_neg hc
      have td : decide (M.has a ∧ M.at_ a = x) = false := decide_eq_false hc
      have ti : (if M.has a ∧ M.at_ a = x then (M.met a).put a y else M.met a) = M.met a := if_neg hc
      unfold doPost
      rw [e]
      have TI := Lib.hid ti
      have TD := Lib.hid td
      clear e k1 k2 k3 hc ti td
      go_enter Tryz.func31, Tryz.ntmps31
      go_wp2_with fail
      refine (rcas_any _ mb mv M _ _ _ Hm hy.1 hy.2).mono ?_
      rintro e w1 ⟨rfl, H1, F1⟩
      rw [TI.out] at H1
      rw [TD.out]
      go_wp2
      go_ret
      exact ⟨rfl, mv, H1, .inl rfl, F0.old.trans F1⟩
  have t3 : (k == 3) = false := by simpa using k3
  by_cases k4 : k = 4
  · have t4 : (k == 4) = true := by simpa using k4
    have e : R.doAsk ⟨k, a, x, y, W⟩ M = (M.at_ a, (M.met a).put a (R.w64 (M.at_ a + x))) := by unfold R.doAsk; rw [if_neg k1, if_neg k2, if_neg k3, if_pos k4]
    unfold doPost
    rw [e]
    clear e k1 k2 k3 k4
    go_enter Tryz.func31, Tryz.ntmps31
    go_wp2_with fail
    refine (radd_any _ mb mv M _ _ Hm).mono ?_
    rintro e w1 ⟨rfl, H1, F1⟩
    go_wp2
    go_ret
    exact ⟨rfl, mv, H1, .inl rfl, F0.old.trans F1⟩
  have t4 : (k == 4) = false := by simpa using k4
  by_cases k5 : k = 5
  · have t5 : (k == 5) = true := by simpa using k5
    have e : R.doAsk ⟨k, a, x, y, W⟩ M = (M.made W, M.make W) := by unfold R.doAsk; rw [if_neg k1, if_neg k2, if_neg k3, if_neg k4, if_pos k5]
    unfold doPost
    rw [e]
    clear e k1 k2 k3 k4 k5
    have hmd : R.I64 (M.made W) := by have h1 := H.2.2.max1; have h2 := H.2.2.len; unfold R.MS.made; split <;> constructor <;> omega
    obtain ⟨md1, md2⟩ := hmd
    go_enter Tryz.func31, Tryz.ntmps31
    go_wp2_with fail
    refine (rmake_any _ mb mv M W wa wc Hm HW1 hW).mono ?_
    rintro e w1 ⟨rfl, v', H1, hv, F1⟩
    go_wp2
    go_ret
    refine ⟨?_, v', H1, ?_, F0.old.trans F1⟩
    · exact rfl
    · rcases hv with hv | hv
      · exact .inl hv
      · exact .inr ⟨_, hv, by simp⟩
  have t5 : (k == 5) = false := by simpa using k5
  have e : R.doAsk ⟨k, a, x, y, W⟩ M = (0, M) := by unfold R.doAsk; rw [if_neg k1, if_neg k2, if_neg k3, if_neg k4, if_neg k5]
  unfold doPost
  rw [e]
  clear e k1 k2 k3 k4 k5
  go_enter Tryz.func31, Tryz.ntmps31
  go_wp2
  go_ret
  exact ⟨rfl, mv, Hm, .inl rfl, F0.old⟩
end Go.Proofs.YtfgkgmfcbhbomaaGreat
