/- node's records, the begin of a memory; route's addresses. -/
import Derived.Test.YtilkkfpfcegncaaSlices
set_option linter.unusedVariables false
namespace Go.Proofs.Ytilkkfpfcegncaa
open Go.RowKit
open R (MS)

def innerWords (size : Int) (q c : List Int) : List Int := [(c.length : Int), size, 0, 0, 0] ++ q ++ c

set_option maxRecDepth 100000 in
theorem innerWords_any (w : World) (size : Int) (q c : List Int) (qa ca : Option Addr) (qc cc : Nat) (Rq : Rd w 2 qa (ints .i64 q)) (Rc : Rd w 2 ca (ints .i64 c)) (hlen : c.length = q.length + 1) (hl : q.length ≤ 100000) :
    Calls Try.prog 18 #[.int .i64 size, .slice qa q.length qc, .slice ca c.length cc] w fun e w' => ∃ v', e = .returned v' ∧ w'.ownsRow 0 2 1 v' (innerWords size q c).length (ints .i64 (innerWords size q c)) ∧ (∀ g, v'.ownBlock = some g → w.heap.size ≤ g) ∧ Fr [] w w' := by
  have h1 : ((c.length : Int) != (q.length : Int) + 1) = false := by simp; omega
  have HL := Lib.hid hlen
  clear hlen
  have hc0 : (c.length : Int) ≤ 100001 := by have := HL.out; omega
  go_enter Try.func18, Try.ntmps18
  go_wp2_with fail
  have F0 : Fr [] w ((w.alloc (.cells #[.int .i64 (c.length : Int), .int .i64 size, .int .i64 0, .int .i64 0, .int .i64 0] 2)).alloc (.cells #[.slice (some ⟨w.heap.size, 0, none⟩) 5 5, .slice qa q.length qc, .slice ca c.length cc] 40)) := ((Fr.refl [] w).alloc _).alloc _
  have hz : (w.alloc (.cells #[.int .i64 (c.length : Int), .int .i64 size, .int .i64 0, .int .i64 0, .int .i64 0] 2)).heap.size = w.heap.size + 1 := by simp
  have hb := Blk.new (w.alloc (.cells #[.int .i64 (c.length : Int), .int .i64 size, .int .i64 0, .int .i64 0, .int .i64 0] 2)) #[.slice (some ⟨w.heap.size, 0, none⟩) 5 5, .slice qa q.length qc, .slice ca c.length cc] 40
  rw [hz] at hb
  have RH : Rd ((w.alloc (.cells #[.int .i64 (c.length : Int), .int .i64 size, .int .i64 0, .int .i64 0, .int .i64 0] 2)).alloc (.cells #[.slice (some ⟨w.heap.size, 0, none⟩) 5 5, .slice qa q.length qc, .slice ca c.length cc] 40)) 2 (some ⟨w.heap.size, 0, none⟩) (ints .i64 [(c.length : Int), size, 0, 0, 0]) :=
    .inr ⟨w.heap.size, 0, _, (0, 0), rfl, (Blk.new w _ _).alloc _, fun j hj => by
      have hj' : j < 5 := by simpa [ints] using hj
      rcases (by omega : j = 0 ∨ j = 1 ∨ j = 2 ∨ j = 3 ∨ j = 4) with rfl | rfl | rfl | rfl | rfl <;> rfl⟩
  refine (concat_any _ (w.heap.size + 1) 3 _ qa ca 5 qc cc [(c.length : Int), size, 0, 0, 0] q c _ _ hb rfl rfl rfl RH (Rq.grow F0) (Rc.grow F0) (by have := HL.out; simp; omega)).mono ?_
  rintro e w1 ⟨v', rfl, o1, hv, F1⟩
  go_wp2
  go_ret
  refine ⟨v', rfl, o1, fun g hg => ?_, F0.trans F1⟩
  have := hv g hg
  simp at this
  omega

theorem emptyWords_any (w : World) :
    Calls Try.prog 20 #[] w fun e w' => ∃ v', e = .returned v' ∧ w'.ownsRow 0 2 1 v' 1 (ints .i64 [0]) ∧ (∀ g, v'.ownBlock = some g → w.heap.size ≤ g) ∧ Fr [] w w' := by
  go_enter Try.func20, Try.ntmps20
  go_wp2
  go_ret
  refine ⟨.slice (some ⟨w.heap.size, 0, none⟩) 1 1, rfl, ⟨rfl, .inr ⟨w.heap.size, 1, _, rfl, Nat.zero_le _, heap_alloc_new w _, Nat.le_refl _, by decide, rfl, rfl⟩⟩, ?_, (Fr.refl [] w).alloc _⟩
  intro g hg
  have hg' : some w.heap.size = some g := hg
  injection hg' with e
  omega

theorem may_any (w : World) (k a : Int) :
    Calls Try.prog 41 #[.int .i64 k, .int .i64 a] w fun e w' => e = .returned (.bool (decide ((1 ≤ k ∧ k ≤ 5) ∧ (1 ≤ a ∧ a ≤ 65536)))) ∧ w = w' := by
  go_enter Try.func41, Try.ntmps41
  go_wp2
  all_goals
    go_ret
    refine ⟨ret_bool ?_, rfl⟩
    first | (symm; rw [decide_eq_false_iff_not]; omega) | (symm; rw [decide_eq_true_iff]; omega) | (rw [Bool.eq_iff_iff]; simp; omega)

theorem or_low (a k : Int) (a1 : 1 ≤ a) (a2 : a ≤ 65536) (k1 : 1 ≤ k) (k2 : k ≤ 5) : bits BinOp.or IntKind.i64 (a * 8) k = 8 * a + k := by
  obtain ⟨a, rfl⟩ := Int.eq_ofNat_of_zero_le (by omega : 0 ≤ a)
  obtain ⟨k, rfl⟩ := Int.eq_ofNat_of_zero_le (by omega : 0 ≤ k)
  have e1 : ((a : Int) * 8) = ((a * 8 : Nat) : Int) := by omega
  rw [e1]
  have h1 : (BitVec.ofInt 64 ((a * 8 : Nat) : Int)).toNat = a * 8 := by
    rw [BitVec.ofInt_natCast, BitVec.toNat_ofNat]; exact Nat.mod_eq_of_lt (by omega)
  have h2 : (BitVec.ofInt 64 (k : Int)).toNat = k := by
    rw [BitVec.ofInt_natCast, BitVec.toNat_ofNat]; exact Nat.mod_eq_of_lt (by omega)
  show IntKind.i64.wrap ((BitVec.ofInt 64 ((a * 8 : Nat) : Int) ||| BitVec.ofInt 64 (k : Int)).toNat : Int) = _
  have h3 : a * 8 ||| k = a * 8 + k := by
    have := Nat.shiftLeft_add_eq_or_of_lt (show k < 2 ^ 3 from by omega) a
    rw [Nat.shiftLeft_eq] at this
    exact this.symm
  rw [BitVec.toNat_or, h1, h2, h3, IntKind.wrap_i64]
  omega

theorem iof_any (w : World) (k a : Int) :
    Calls Try.prog 19 #[.int .i64 k, .int .i64 a] w fun e w' => e = .returned (.int .i64 (R.of k a)) ∧ w = w' := by
  by_cases h : (1 ≤ k ∧ k ≤ 5) ∧ (1 ≤ a ∧ a ≤ 65536)
  · have hv : R.of k a = 8 * a + k := by unfold R.of; rw [if_pos h]
    rw [hv]
    clear hv
    have hd : decide ((1 ≤ k ∧ k ≤ 5) ∧ (1 ≤ a ∧ a ≤ 65536)) = true := decide_eq_true h
    have HD := Lib.hid hd
    obtain ⟨⟨h1, h2⟩, h3, h4⟩ := h
    have hor := or_low a k h3 h4 h1 h2
    clear hd
    go_enter Try.func19, Try.ntmps19
    go_wp2_with fail
    refine (may_any _ _ _).mono ?_
    rintro e w' ⟨rfl, rfl⟩
    rw [HD.out]
    go_wp2
    go_ret
    exact ⟨rfl, rfl⟩
  · have hv : R.of k a = 0 := by unfold R.of; rw [if_neg h]
    rw [hv]
    clear hv
    have HD := Lib.hid (decide_eq_false h)
    clear h
    go_enter Try.func19, Try.ntmps19
    go_wp2_with fail
    refine (may_any _ _ _).mono ?_
    rintro e w' ⟨rfl, rfl⟩
    rw [HD.out]
    go_wp2
    go_ret
    exact ⟨rfl, rfl⟩

/-- The cells of a memory that has begun. -/
def begun : List Int := [1, 0, 0, 0, 0, 57, 0]
theorem MemAt.grow {w w' : World} {b : Nat} {v : Value} {M : MS} (H : MemAt w b v M) (hf : Fr [] w w') : MemAt w' b v M :=
  ⟨H.1.keep hf (by simp), own_keep H.2.1 hf (by simp), H.2.2⟩

set_option maxRecDepth 100000 in
theorem begin_any (w : World) (b : Nat) (n : Int) (h1 : 9 ≤ n) (h2 : n ≤ 65536) (H : MemAt w b (.slice none 0 0) ⟨[], n, 0, 0, 0⟩) :
    Calls Try.prog 6 #[.pointer (some ⟨b, 0, none⟩)] w fun e w' => e = .returned (.bool true) ∧ ∃ v, MemAt w' b v ⟨begun, n, 2, 0, 0⟩ ∧ (∀ g, v.ownBlock = some g → w.heap.size ≤ g) ∧ Fr [b] w w' := by
  go_enter Try.func6, Try.ntmps6
  have t1 : decide (n < 7) = false := by simp; omega
  have t2 : ((([] : List Int).length : Int) != 0) = false := by decide
  go_wp2_with fail
  refine (used_any w b _ _ H).mono ?_
  rintro e w' ⟨rfl, rfl⟩
  go_wp2_with fail
  refine (size_any w b _ _ H).mono ?_
  rintro e w' ⟨rfl, rfl⟩
  go_wp2_with fail
  refine (iof_any _ _ _).mono ?_
  rintro e w' ⟨rfl, rfl⟩
  rw [show R.of 1 7 = 57 from rfl]
  go_wp2_with fail
  have F0 : Fr [] w (w.alloc (.cells #[.int .i64 57] 2)) := (Fr.refl [] w).alloc _
  have RC : Rd (w.alloc (.cells #[.int .i64 57] 2)) 2 (some ⟨w.heap.size, 0, none⟩) (ints .i64 [57]) :=
    .inr ⟨w.heap.size, 0, _, (0, 0), rfl, Blk.new w _ _, fun j hj => by
      have hj' : j < 1 := by simpa [ints] using hj
      rcases (by omega : j = 0) with rfl; rfl⟩
  refine (innerWords_any _ 0 [] [57] none _ 0 1 (Rd.nil _ _ _) RC rfl (by simp)).mono ?_
  rintro e w1 ⟨v1, rfl, o1, hv1, F1⟩
  have H1 := H.grow (F0.trans F1)
  obtain ⟨a1, c1, rfl, R1⟩ := own_Rd o1
  go_wp2_with fail
  refine (imake_any _ b _ _ (innerWords 0 [] [57]) a1 c1 H1 R1 (by intro x hx; simp [innerWords] at hx; rcases hx with rfl | rfl | rfl <;> constructor <;> decide)).mono ?_
  rintro e w2 ⟨rfl, v2, H2, hv2, F2⟩
  have hm : (⟨[], n, 0, 0, 0⟩ : MS).make (innerWords 0 [] [57]) = ⟨[1, 0, 0, 0, 0, 57], n, 1, 0, 0⟩ := by
    unfold R.MS.make
    rw [if_pos ⟨by simp [innerWords], by simp [innerWords]; omega⟩]
    rfl
  rw [hm] at H2
  go_wp2_with fail
  refine (emptyWords_any _).mono ?_
  rintro e w3 ⟨v3, rfl, o3, hv3, F3⟩
  have H3 := H2.grow F3
  obtain ⟨a3, c3, rfl, R3⟩ := own_Rd o3
  go_wp2_with fail
  refine (imake_any _ b _ _ [0] a3 c3 H3 R3 (by intro x hx; simp at hx; subst hx; exact R.i64_0)).mono ?_
  rintro e w4 ⟨rfl, v4, H4, hv4, F4⟩
  have hm2 : (⟨[1, 0, 0, 0, 0, 57], n, 1, 0, 0⟩ : MS).make [0] = ⟨begun, n, 2, 0, 0⟩ := by
    unfold R.MS.make
    rw [if_pos ⟨by simp, by simp; omega⟩]
    rfl
  rw [hm2] at H4
  go_wp2
  go_ret
  have s0 := F0.size
  have s1 := F1.size
  have s2 := F2.size
  have s3 := F3.size
  have hb2 : ∀ g, v2.ownBlock = some g → w.heap.size ≤ g := by
    intro g hg
    rcases hv2 with e | e
    · rw [e] at hg; simp [Value.ownBlock] at hg
    · rw [e] at hg; injection hg with hg; omega
  refine ⟨rfl, v4, H4, ?_, ?_⟩
  · intro g hg
    rcases hv4 with e | e
    · exact hb2 g (by rw [← e]; exact hg)
    · rw [e] at hg; injection hg with hg; omega
  · refine (((F0.trans F1).old.trans (F2.mono (by simp [ownOf, Value.ownBlock]))).trans F3.old).trans' F4 ?_
    intro x hx
    rcases List.mem_cons.1 hx with hx | hx
    · simp [hx]
    · exact .inr (hb2 x (mem_own hx))
end Go.Proofs.Ytilkkfpfcegncaa
