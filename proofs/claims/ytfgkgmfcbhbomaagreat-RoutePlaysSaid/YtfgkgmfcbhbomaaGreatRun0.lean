/- The run of a procedure of the document's: its record in memory, and its accesses. -/
import Derived.Test.YtfgkgmfcbhbomaaGreatBase
import Derived.Test.YtfgkgmfcbhbomaaGreatPure
namespace Go.Proofs.YtfgkgmfcbhbomaaGreat
open Go.RowKit
open R (RS Ask)

def runCells (s : RS) (t : Option Addr) (cap : Nat) (wa : Option Addr) (wcap : Nat) : Array Value :=
  #[.slice t s.tape.length cap, .int .i64 (s.pos : Int), .bool s.off, .int .i64 s.next.kind, .int .i64 s.next.a, .int .i64 s.next.x, .int .i64 s.next.y, .slice wa s.next.w.length wcap, .int .i64 s.record, .int .i64 s.laid]
def RunAt (w : World) (r : Nat) (s : RS) : Prop :=
  ∃ t cap wa wcap, Blk w r (runCells s t cap wa wcap) 84 ∧ Rd w 2 t (ints .i64 s.tape) ∧ Rd w 2 wa (ints .i64 s.next.w) ∧ s.tape.length ≤ 140737488351232 ∧ s.pos ≤ s.tape.length ∧ (∀ x ∈ s.tape, -9223372036854775808 ≤ x ∧ x ≤ 9223372036854775807) ∧ s.next.Ok

theorem RunAt.keep {w w' : World} {r : Nat} {s : RS} (h : RunAt w r s) (hf : Fr [] w w') : RunAt w' r s := by
  obtain ⟨t, cap, wa, wcap, hb, ht, hw, hl, hp, hbd, hnx⟩ := h
  exact ⟨t, cap, wa, wcap, hb.keep hf (by simp), ht.grow hf, hw.grow hf, hl, hp, hbd, hnx⟩
theorem RunAt.keep' {w w' : World} {r : Nat} {s : RS} {S : List Nat} (h : RunAt w r s) (hf : Fr S w w') (hr : r ∉ S) (hT : ∀ b cs fr, w.heap[b]? = some (.cells cs 2 fr) → b ∉ S) : RunAt w' r s := by
  obtain ⟨t, cap, wa, wcap, hb, ht, hw, hl, hp, hbd, hnx⟩ := h
  exact ⟨t, cap, wa, wcap, hb.keep hf hr, ht.keep hf hT, hw.keep hf hT, hl, hp, hbd, hnx⟩
theorem RunAt.lt {w : World} {r : Nat} {s : RS} (h : RunAt w r s) : r < w.heap.size := by
  obtain ⟨t, cap, wa, wcap, hb, _⟩ := h
  exact hb.lt

theorem ask_off (w : World) (r : Nat) (s : RS) (k a x y : Int) (wa : Option Addr) (wn wc : Nat) (H : RunAt w r s) (ho : s.off = true) :
    Calls Tryz.prog 108 #[.pointer (some ⟨r, 0, none⟩), .agg #[.int .i64 k, .int .i64 a, .int .i64 x, .int .i64 y, .slice wa wn wc]] w fun e w' => e = .returned (.int .i64 0) ∧ RunAt w' r s ∧ Fr [r] w w' := by
  have H0 := H
  obtain ⟨t, cap, wa', wcap, hb, ht, hw, hl, hp, hbd, hnx⟩ := H
  have hc := hb.cell
  have hf := hb.free
  have hr := hb.lt
  simp only [runCells, ho] at hc
  go_enter Tryz.func108, Tryz.ntmps108
  go_wp2
  go_ret
  exact ⟨rfl, H0.keep ((Fr.refl _ _).alloc _), (Fr.refl _ _).alloc _⟩

theorem RunAt.mk' {w : World} {r : Nat} {s s' : RS} {t : Option Addr} {cap : Nat} {wa : Option Addr} {wcap : Nat} {w0 : World} {cs : Array Value} (hb0 : Blk w0 r cs 84)
    (ht : Rd w0 2 t (ints .i64 s.tape)) (hw : Rd w0 2 wa (ints .i64 s'.next.w)) (hl : s.tape.length ≤ 140737488351232) (hp : s'.pos ≤ s.tape.length) (hbd : ∀ x ∈ s.tape, -9223372036854775808 ≤ x ∧ x ≤ 9223372036854775807) (hnx : s'.next.Ok) (hf : Fr [r] w0 w) (e : s'.tape = s.tape)
    (hb : Blk w r (runCells s' t cap wa wcap) 84) : RunAt w r s' :=
  ⟨t, cap, wa, wcap, hb, by rw [e]; exact ht.keep hf (hb0.out (by decide)), hw.keep hf (hb0.out (by decide)), by rw [e]; exact hl, by rw [e]; exact hp, by rw [e]; exact hbd, hnx⟩

theorem ask_told (w : World) (r : Nat) (s : RS) (k a x y : Int) (wa : Option Addr) (wn wc : Nat) (H : RunAt w r s) (ho : s.off = false) (hlt : s.pos < s.tape.length) :
    Calls Tryz.prog 108 #[.pointer (some ⟨r, 0, none⟩), .agg #[.int .i64 k, .int .i64 a, .int .i64 x, .int .i64 y, .slice wa wn wc]] w fun e w' => e = .returned (.int .i64 (s.tape.getD s.pos 0)) ∧ RunAt w' r { s with pos := s.pos + 1 } ∧ Fr [r] w w' := by
  have H0 := H
  obtain ⟨t, cap, wa', wcap, hb, ht, hw, hl, hp, hbd, hnx⟩ := H
  obtain ⟨X, hX⟩ : ∃ X, X = s.tape.getD s.pos 0 := ⟨_, rfl⟩
  obtain ⟨tb, off, ha, hread, hne, htb⟩ := ht.open_ s.pos X hlt hX hb (by decide)
  rw [← hX]
  clear hX
  subst ha
  have hw1 : IntKind.i64.wrap (s.pos : Int) = (s.pos : Int) := IntWalk.i64_in _ (by omega)
  have hw2 : 0 ≤ (s.pos : Int) := by omega
  have hne' : tb ≠ r := Ne.symm hne
  have hc := hb.cell
  have hf := hb.free
  have hr := hb.lt
  simp only [runCells, ho] at hc
  have hlt' : (s.pos : Int) < (s.tape.length : Int) := by omega
  go_enter Tryz.func108, Tryz.ntmps108
  go_wp2
  go_quiet (fail)
  go_wp2
  go_quiet (fail)
  go_wp2
  go_ret
  refine ⟨rfl, RunAt.mk' hb ht hw hl (by show s.pos + 1 ≤ _; omega) hbd hnx ?_ rfl ((((hb.alloc _).drewN _).set 1 _).drewN _), ?_⟩ <;> exact ((((Fr.refl _ _).alloc _).drewN _).setCell (.inl (by simp)) _).drewN _

theorem ask_end (w : World) (r : Nat) (s : RS) (k a x y : Int) (W : List Int) (wa : Option Addr) (wc : Nat) (hq : (R.Ask.mk k a x y W).Ok) (H : RunAt w r s) (HW : Rd w 2 wa (ints .i64 W)) (ho : s.off = false) (hge : ¬ s.pos < s.tape.length) :
    Calls Tryz.prog 108 #[.pointer (some ⟨r, 0, none⟩), .agg #[.int .i64 k, .int .i64 a, .int .i64 x, .int .i64 y, .slice wa W.length wc]] w fun e w' => e = .returned (.int .i64 0) ∧ RunAt w' r { s with off := true, next := ⟨k, a, x, y, W⟩ } ∧ Fr [r] w w' := by
  obtain ⟨t, cap, wa', wcap, hb, ht, hw, hl, hp, hbd, hnx⟩ := H
  have hc := hb.cell
  have hf := hb.free
  have hr := hb.lt
  simp only [runCells, ho] at hc
  have hlt' : (s.tape.length : Int) ≤ (s.pos : Int) := by omega
  go_enter Tryz.func108, Tryz.ntmps108
  go_wp2
  go_quiet (fail)
  go_wp2
  go_ret
  refine ⟨rfl, RunAt.mk' hb ht HW hl hp hbd hq ?_ rfl (((((((((hb.alloc _).drewN _).set 2 _).set 3 _).set 4 _).set 5 _).set 6 _).set 7 _)), ?_⟩ <;>
    exact (((((((((Fr.refl _ _).alloc _).drewN _).setCell (.inl (by simp)) _).setCell (.inl (by simp)) _).setCell (.inl (by simp)) _).setCell (.inl (by simp)) _).setCell (.inl (by simp)) _).setCell (.inl (by simp)) _)

theorem ask_any (w : World) (r : Nat) (s : RS) (k a x y : Int) (W : List Int) (wa : Option Addr) (wc : Nat) (hq : (R.Ask.mk k a x y W).Ok) (H : RunAt w r s) (HW : Rd w 2 wa (ints .i64 W)) :
    Calls Tryz.prog 108 #[.pointer (some ⟨r, 0, none⟩), .agg #[.int .i64 k, .int .i64 a, .int .i64 x, .int .i64 y, .slice wa W.length wc]] w fun e w' => e = .returned (.int .i64 (R.ask ⟨k, a, x, y, W⟩ s).1) ∧ RunAt w' r (R.ask ⟨k, a, x, y, W⟩ s).2 ∧ Fr [r] w w' := by
  unfold R.ask
  by_cases ho : s.off = true
  · rw [if_pos ho]; exact ask_off w r s k a x y wa _ wc H ho
  · rw [if_neg ho]
    have ho' : s.off = false := by simpa using ho
    by_cases hlt : s.pos < s.tape.length
    · rw [if_pos hlt]; exact ask_told w r s k a x y wa _ wc H ho' hlt
    · rw [if_neg hlt]; exact ask_end w r s k a x y W wa wc hq H HW ho' hlt

theorem ask_bd (w : World) (r : Nat) (s : RS) (q : R.Ask) (H : RunAt w r s) : -9223372036854775808 ≤ (R.ask q s).1 ∧ (R.ask q s).1 ≤ 9223372036854775807 := by
  obtain ⟨t, cap, wa', wcap, hb, ht, hw, hl, hp, hbd, hnx⟩ := H
  unfold R.ask
  split
  · exact ⟨by omega, by omega⟩
  · split
    · rename_i h
      exact hbd _ (by rw [List.getD_eq_getElem?_getD, List.getElem?_eq_getElem h]; exact List.getElem_mem h)
    · exact ⟨by omega, by omega⟩
theorem RunAt.off {w : World} {r : Nat} {s : RS} (h : RunAt w r s) : w.cell? ⟨r, 2, none⟩ = some (.bool s.off) := by
  obtain ⟨t, cap, wa, wcap, hb, _⟩ := h
  exact hb.cell 2

theorem read_any (w : World) (r : Nat) (s : RS) (a : Int) (H : RunAt w r s) :
    Calls Tryz.prog 78 #[.pointer (some ⟨r, 0, none⟩), .int .i64 a] w fun e w' => e = .returned (.int .i64 (R.read a s).1) ∧ RunAt w' r (R.read a s).2 ∧ Fr [r] w w' ∧ -9223372036854775808 ≤ (R.read a s).1 ∧ (R.read a s).1 ≤ 9223372036854775807 := by
  go_enter Tryz.func78, Tryz.ntmps78
  go_wp2_with fail
  refine (ask_any w r s 1 a 0 0 [] none 0 ⟨R.i64_0, R.i64_0, by simp⟩ H (Rd.nil _ _ _)).mono ?_
  rintro e w1 ⟨rfl, H1, F1⟩
  go_wp2
  go_ret
  exact ⟨rfl, H1, F1, ask_bd w r s _ H⟩

theorem write_any (w : World) (r : Nat) (s : RS) (a x : Int) (hx : R.I64 x) (H : RunAt w r s) :
    Calls Tryz.prog 90 #[.pointer (some ⟨r, 0, none⟩), .int .i64 a, .int .i64 x] w fun e w' => e = .returned (.tuple #[]) ∧ RunAt w' r (R.write a x s) ∧ Fr [r] w w' := by
  go_enter Tryz.func90, Tryz.ntmps90
  go_wp2_with fail
  refine (ask_any w r s 2 a x 0 [] none 0 ⟨hx, R.i64_0, by simp⟩ H (Rd.nil _ _ _)).mono ?_
  rintro e w1 ⟨rfl, H1, F1⟩
  go_wp2
  go_end0
  exact ⟨rfl, H1, F1⟩

theorem cas_any (w : World) (r : Nat) (s : RS) (a x y : Int) (hx : R.I64 x) (hy : R.I64 y) (H : RunAt w r s) :
    Calls Tryz.prog 81 #[.pointer (some ⟨r, 0, none⟩), .int .i64 a, .int .i64 x, .int .i64 y] w fun e w' => e = .returned (.bool (R.cas a x y s).1) ∧ RunAt w' r (R.cas a x y s).2 ∧ Fr [r] w w' := by
  go_enter Tryz.func81, Tryz.ntmps81
  go_wp2_with fail
  refine (ask_any w r s 3 a x y [] none 0 ⟨hx, hy, by simp⟩ H (Rd.nil _ _ _)).mono ?_
  rintro e w1 ⟨rfl, H1, F1⟩
  go_wp2
  go_ret
  exact ⟨rfl, H1, F1⟩

theorem add_any (w : World) (r : Nat) (s : RS) (a d : Int) (hd : R.I64 d) (H : RunAt w r s) :
    Calls Tryz.prog 101 #[.pointer (some ⟨r, 0, none⟩), .int .i64 a, .int .i64 d] w fun e w' => e = .returned (.int .i64 (R.add a d s).1) ∧ RunAt w' r (R.add a d s).2 ∧ Fr [r] w w' ∧ -9223372036854775808 ≤ (R.add a d s).1 ∧ (R.add a d s).1 ≤ 9223372036854775807 := by
  go_enter Tryz.func101, Tryz.ntmps101
  go_wp2_with fail
  refine (ask_any w r s 4 a d 0 [] none 0 ⟨hd, R.i64_0, by simp⟩ H (Rd.nil _ _ _)).mono ?_
  rintro e w1 ⟨rfl, H1, F1⟩
  go_wp2
  go_ret
  exact ⟨rfl, H1, F1, ask_bd w r s _ H⟩

theorem make_any (w : World) (r : Nat) (s : RS) (W : List Int) (wa : Option Addr) (wc : Nat) (hW : ∀ e ∈ W, R.I64 e) (H : RunAt w r s) (HW : Rd w 2 wa (ints .i64 W)) :
    Calls Tryz.prog 83 #[.pointer (some ⟨r, 0, none⟩), .slice wa W.length wc] w fun e w' => e = .returned (.tuple #[.int .i64 (R.make W s).1, .bool (decide (0 < (R.make W s).1))]) ∧ RunAt w' r (R.make W s).2 ∧ Fr [r] w w' ∧ -9223372036854775808 ≤ (R.make W s).1 ∧ (R.make W s).1 ≤ 9223372036854775807 := by
  have hb := ask_bd w r s ⟨5, 0, 0, 0, W⟩ H
  obtain ⟨b1, b2⟩ := hb
  go_enter Tryz.func83, Tryz.ntmps83
  go_wp2_with fail
  refine (ask_any w r s 5 0 0 0 W wa wc ⟨R.i64_0, R.i64_0, hW⟩ H HW).mono ?_
  rintro e w1 ⟨rfl, H1, F1⟩
  go_wp2
  go_ret2
  exact ⟨rfl, H1, F1, b1, b2⟩
end Go.Proofs.YtfgkgmfcbhbomaaGreat
