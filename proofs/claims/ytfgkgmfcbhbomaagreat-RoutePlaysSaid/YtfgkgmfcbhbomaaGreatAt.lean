/- law15.at. -/
import Derived.Test.YtfgkgmfcbhbomaaGreatLike
import Derived.Deep.OwnRows
set_option linter.unusedVariables false
namespace Go.Proofs.YtfgkgmfcbhbomaaGreat
open Go.RowKit
open R (MS)

theorem make_i64 (n : Nat) (hn : n ≤ 100000) (W : World) : (Instr.makeSlice 22 (.int .i64 (n : Int)) (.int .i64 (n : Int))).run Tryz.prog W = .ok (.slice (some ⟨W.heap.size, 0, none⟩) n n) (W.alloc (.cells (madeCells #[.int .i64 0] n) 2)) :=
  run_make_row' (P := Tryz.prog) 22 2 (.int .i64 0) 8 Tryz.underlying22 info_i64 rfl .i64 .i64 n (by omega) (by omega) W
theorem madeCells_list (v : Value) (n : Nat) : (madeCells #[v] n).toList = List.replicate n v := by
  apply List.ext_getElem?
  intro i
  rw [Array.getElem?_toList]
  rcases Nat.lt_or_ge i n with h | h
  · rw [List.getElem?_replicate, if_pos h]; simp [madeCells, h, Nat.mod_one]
  · rw [List.getElem?_eq_none (by simp; omega)]; rw [Array.getElem?_eq_none (by rw [size_madeCells]; simpa using h)]
theorem owns_made (w : World) (n : Nat) (hn : n ≤ 100000) : (w.alloc (.cells (madeCells #[.int .i64 0] n) 2)).ownsRow 0 2 1 (.slice (some ⟨w.heap.size, 0, none⟩) n n) n (ints .i64 (List.replicate n 0)) := by
  refine ⟨by simp [ints], .inr ⟨w.heap.size, n, _, rfl, Nat.zero_le _, heap_alloc_new w _, Nat.le_refl _, by simp only [maxLen]; omega, by rw [size_madeCells]; simp, ?_⟩⟩
  rw [madeCells_list, List.take_of_length_le (by simp)]
  simp [ints]

/-- The cells of the law's memory. -/
def laid (q : List Int) : List Int := begun ++ innerWords 0 q (List.replicate (q.length + 1) 57)

set_option maxHeartbeats 2000000 in
theorem at_any (w : World) (a : Option Addr) (cap : Nat) (q : List Int) (HR : Rd w 2 a (ints .i64 q)) (hl : q.length ≤ 80) (hq : ∀ x ∈ q, R.I64 x) :
    Calls Tryz.prog 6 #[.slice a q.length cap] w fun e w' => ∃ m mv, e = .returned (.tuple #[.pointer (some ⟨m, 0, none⟩), .int .i64 8]) ∧ w.heap.size ≤ m ∧ MemAt w' m mv ⟨laid q, 2000, 3, 0, 0⟩ ∧ (∀ g, mv.ownBlock = some g → w.heap.size ≤ g) ∧ Fr [] w w' := by
  obtain ⟨n, hn⟩ : ∃ n, q.length + 1 = n := ⟨_, rfl⟩
  have hn1 : n ≤ 81 := by omega
  have hn0 : 1 ≤ n := by omega
  have HN := Lib.hid hn
  have hmk := make_i64 n (by omega)
  have hcast : (q.length : Int) + 1 = (n : Int) := by omega
  clear hn
  go_enter Tryz.func6, Tryz.ntmps6
  go_wp2_with fail
  refine (inew_any _ 2000 (by omega) (by omega)).mono ?_
  rintro e w1 ⟨m, rfl, hm, H1, F1⟩
  go_wp2_with fail
  refine (begin_any _ m 2000 (by omega) (by omega) H1).mono ?_
  rintro e w2 ⟨rfl, v2, H2, hv2, F2⟩
  have z1 := F1.size
  have z2 := F2.size
  go_wp2_with fail
  clear hmk hcast
  go_loopw [7] (fun i wr => ∃ k : Nat, k ≤ n ∧ i = .int .i64 (k : Int) ∧ wr.ownsRow 0 2 1 (.slice (some ⟨w2.heap.size, 0, none⟩) n n) n (ints .i64 (List.replicate k 57 ++ List.replicate (n - k) 0)) ∧ Fr [] w2 wr) (fun i _ => n - (intOf i).toNat)
  case atStart => exact ⟨0, by omega, rfl, by simpa using owns_made w2 n (by omega), (Fr.refl [] w2).alloc _⟩
  case round =>
    obtain ⟨k, hk, rfl, o3, F3⟩ := hrel
    rcases Nat.lt_or_ge k n with hlt | hlt
    · obtain ⟨L, hL⟩ : ∃ L : List Int, List.replicate k 57 ++ List.replicate (n - k) 0 = L := ⟨_, rfl⟩
      have hLl : L.length = n := by rw [← hL]; simp; omega
      rw [hL] at o3
      rw [← hLl] at o3
      obtain ⟨g, cap', cur, he, hg, hcell⟩ := own_cell o3 k (by omega)
      injection he with he1 he2 he3
      injection he1 with he1
      injection he1 with he1
      subst he1
      rw [hLl] at o3
      obtain ⟨x, hx⟩ : ∃ x, L.getD k 0 = x := ⟨_, rfl⟩
      rw [hx] at hcell
      have c0 : wr.cell? ⟨w2.heap.size, k, none⟩ = some (.int .i64 x) := (hg.cell _).trans hcell
      have f0 : wr.frozen? ⟨w2.heap.size, k, none⟩ = false := hg.free _
      have h0 : (0 : Int) ≤ (k : Int) := by omega
      have h1 : (k : Int) < (n : Int) := by omega
      have hL2 : L.set k 57 = List.replicate (k + 1) 57 ++ List.replicate (n - (k + 1)) 0 := by
        rw [← hL, List.set_append_right _ _ (by simp), List.length_replicate, Nat.sub_self, List.replicate_succ', show n - k = (n - (k + 1)) + 1 from by omega, List.replicate_succ]
        simp
      have HL := Lib.hid hL2
      clear hL hLl he2 he3 hcell hx hL2
      go_wp2
      go_roundw
      case rel =>
        refine ⟨k + 1, by omega, by go_num, ?_, F3.setCell (.inr (by simp)) _⟩
        rw [← HL.out]
        exact own_set o3 k hlt 57
      case measure => simp [intOf]; omega
    · have hkn : k = n := by omega
      subst hkn
      have H3 := H2.grow F3
      have F12 : Fr [] w w2 := F1.trans' F2 (fun x hx => .inr (by simp at hx; omega))
      have F13 := F12.trans F3
      have HR3 := HR.grow F13
      rw [Nat.sub_self, List.replicate_zero, List.append_nil] at o3
      obtain ⟨C, hC⟩ : ∃ C : List Int, List.replicate k 57 = C := ⟨_, rfl⟩
      have hCl : C.length = k := by rw [← hC]; simp
      rw [hC] at o3
      have HC := Lib.hid hC
      clear hC
      subst hCl
      obtain ⟨ca, cc, he, RC⟩ := own_Rd o3
      injection he with he1 he2 he3
      subst he1 he3
      go_wp2_with fail
      refine (innerWords_any _ 0 q C _ _ _ _ HR3 RC HN.out.symm (by omega)).mono ?_
      rintro e w4 ⟨v4, rfl, o4, hv4, F4⟩
      obtain ⟨wa, wc, rfl, RW⟩ := own_Rd o4
      have H4 := H3.grow F4
      have hlen : (innerWords 0 q C).length ≤ 170 := by unfold innerWords; simp; omega
      have hlen0 : innerWords 0 q C ≠ [] := by unfold innerWords; simp
      have hbd : ∀ x ∈ innerWords 0 q C, -9223372036854775808 ≤ x ∧ x ≤ 9223372036854775807 := by
        intro x hx
        unfold innerWords at hx
        rcases List.mem_append.1 hx with hx | hx
        · rcases List.mem_append.1 hx with hx | hx
          · simp at hx; omega
          · exact hq x hx
        · rw [← HC.out] at hx
          have := List.eq_of_mem_replicate hx
          omega
      have hfit : (R.MS.mk begun 2000 2 0 0).fits (innerWords 0 q C) := ⟨hlen0, by simp [begun]; omega⟩
      have hpost : (R.MS.mk begun 2000 2 0 0).make (innerWords 0 q C) = ⟨laid q, 2000, 3, 0, 0⟩ := by
        unfold R.MS.make
        rw [if_pos hfit]
        unfold laid
        rw [HN.out, HC.out]
        rfl
      have hmade : (R.MS.mk begun 2000 2 0 0).made (innerWords 0 q C) = 8 := by
        unfold R.MS.made
        rw [if_pos hfit]
        rfl
      have HP := Lib.hid hpost
      have HM := Lib.hid hmade
      have HT := Lib.hid (decide_eq_true hfit)
      clear hpost hmade hfit hlen0
      generalize innerWords 0 q C = W at *
      go_wp2_with fail
      refine (imake_any _ m _ _ W _ _ H4 RW hbd).mono ?_
      rintro e w5 ⟨rfl, v5, H5, hv5, F5⟩
      rw [HP.out] at H5
      rw [HM.out, HT.out]
      have F14 := F13.trans F4
      go_wp2
      go_ret2
      refine ⟨m, v5, rfl, hm, H5, ?_, F14.trans' F5 ?_⟩
      · intro g hg
        have z4 := F14.size
        rcases hv5 with e | e
        · have := hv2 g (by rw [← e]; exact hg); omega
        · rw [e] at hg; injection hg with hg; omega
      · intro x hx
        rcases List.mem_cons.1 hx with hx | hx
        · exact .inr (by omega)
        · have := hv2 x (mem_own hx); exact .inr (by omega)
end Go.Proofs.YtfgkgmfcbhbomaaGreat
