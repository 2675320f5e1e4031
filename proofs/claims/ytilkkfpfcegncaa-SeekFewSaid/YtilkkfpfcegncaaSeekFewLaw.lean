/- law16.SeekFew. -/
import Derived.Test.YtilkkfpfcegncaaFewPure
import Derived.Test.YtilkkfpfcegncaaSeekKnown
import Derived.Test.YtilkkfpfcegncaaDepth
import Derived.Test.YtilkkfpfcegncaaIWrite
import Derived.Test.YtilkkfpfcegncaaCut
import Derived.Deep.DeepCutAuto
import Derived.Deep.RegionHeld3
set_option linter.unusedVariables false
namespace Go.Proofs.Ytilkkfpfcegncaa
open Go.RowKit
open R (MS IR IP IK)

theorem fewL_bd (n : Nat) (a s : Int) (hn : n < 152) (ha : 0 ≤ a ∧ a ≤ 100000) (hs : 1 ≤ s ∧ s ≤ 1000) : PI (R.fewL n a s) ∧ ∀ j : Nat, j < 152 → 0 ≤ s * (j : Int) ∧ s * (j : Int) ≤ 152000 := by
  have h : ∀ j : Nat, j < 152 → 0 ≤ s * (j : Int) ∧ s * (j : Int) ≤ 152000 := by
    intro j hj
    constructor
    · exact Int.mul_nonneg (by omega) (by omega)
    · have h1 := Int.mul_le_mul_of_nonneg_right (c := (j : Int)) hs.2 (by omega)
      omega
  refine ⟨?_, h⟩
  intro p hp
  unfold R.fewL at hp
  obtain ⟨i, hi, rfl⟩ := List.mem_map.1 hp
  have hi' : i < n := by simpa using hi
  have := h i (by omega)
  constructor
  · constructor <;> (show _ ≤ _) <;> dsimp only <;> omega
  · constructor <;> (show _ ≤ _) <;> dsimp only <;> omega
theorem fewL_adj (n : Nat) (a s : Int) (hs : 1 ≤ s) : Asc (R.fewL n a s) := by
  intro j hj
  exact R.fewL_asc n a s hs j (j + 1) (by omega) hj

theorem owns_cap {w : World} {a : Option Addr} {n n' c : Nat} {xs : List Value} (h : w.ownsRow 0 25 2 (.slice a n c) n' xs) : n = n' ∧ n' ≤ c ∧ c ≤ maxLen := by
  rcases owns_form h with ⟨e, e2, _⟩ | ⟨g, cap, cur, e, _, h1, h2, _⟩
  · injection e with e1 e3 e4; subst e3 e4 e2; exact ⟨rfl, Nat.le_refl _, Nat.zero_le _⟩
  · injection e with e1 e3 e4; subst e3 e4; exact ⟨rfl, h1, h2⟩
theorem few_facts (N j : Nat) (A S : Int) (hN : 2 ≤ N ∧ N < 152) (hA : 0 ≤ A ∧ A ≤ 100000) (hS : 1 ≤ S ∧ S ≤ 1000) (hj : j < N) :
    ∃ (K D G P : Int) (T : Nat), A + S * (j : Int) = K ∧ R.I64 K ∧ R.depthF (N + 1) N = D ∧ R.degree N = G ∧ 0 ≤ D ∧ D ≤ 100 ∧ 2 ≤ G ∧ G ≤ 256 ∧ D * (G + 1) = P ∧ 0 ≤ P ∧ P ≤ 25700 ∧ 1 ≤ T ∧ T ≤ 399 ∧ (T : Int) ≤ 4 + P ∧ (∀ t, t < T → (R.fewS (R.fewL N A S) K t).1.next ≠ 5) ∧ (R.fewS (R.fewL N A S) K T).1.next = 5 ∧ (R.fewS (R.fewL N A S) K T).1.value = j ∧ (R.fewS (R.fewL N A S) K T).1.there = true := by
  obtain ⟨e1, e2, e3, e4, e5, e6⟩ := R.few_at N hN.1 hN.2
  obtain ⟨T, T1, T2, T3, T4, T5, T6⟩ := R.few_seek N A S hN.1 hN.2 hS.1 j hj
  obtain ⟨d1, d2, d3⟩ := R.degree_bd N (by omega) (by omega)
  have hb := (fewL_bd N A S hN.2 hA hS).2 j (by omega)
  refine ⟨_, _, _, _, T, rfl, ⟨by omega, by omega⟩, rfl, rfl, e5, e6, d1, d2, rfl, Int.mul_nonneg e5 (by omega), ?_, T1, by omega, by omega, T3, T4, T5, T6⟩
  have h1 := Int.mul_le_mul e6 (show R.degree N + 1 ≤ 257 by omega) (by omega) (by omega)
  omega

set_option maxHeartbeats 8000000 in
set_option maxRecDepth 100000 in
theorem seekFew_any (w : World) (n from_ by_ k : Int) :
    Calls Try.prog 3 #[.int .i64 n, .int .i64 from_, .int .i64 by_, .int .i64 k] w fun e w' => e = .returned (.bool true) ∧ Fr [] w w' := by
  obtain ⟨c1, hc1⟩ : ∃ c, R.cut n 150 = c := ⟨_, rfl⟩
  obtain ⟨c2, hc2⟩ : ∃ c, R.cut by_ 1000 = c := ⟨_, rfl⟩
  obtain ⟨A, hc3⟩ : ∃ c, R.cut from_ 100000 = c := ⟨_, rfl⟩
  have b1 : 0 ≤ c1 ∧ c1 < 150 := by rw [← hc1]; exact ⟨Int.emod_nonneg _ (by decide), Int.emod_lt_of_pos _ (by decide)⟩
  have b2 : 0 ≤ c2 ∧ c2 < 1000 := by rw [← hc2]; exact ⟨Int.emod_nonneg _ (by decide), Int.emod_lt_of_pos _ (by decide)⟩
  have b3 : 0 ≤ A ∧ A ≤ 100000 := by
    rw [← hc3]; unfold R.cut; exact ⟨Int.emod_nonneg _ (by decide), Int.le_of_lt (Int.emod_lt_of_pos _ (by decide))⟩
  obtain ⟨N, hN⟩ : ∃ N : Nat, 2 + c1 = (N : Int) := ⟨(2 + c1).toNat, by omega⟩
  obtain ⟨S, hS⟩ : ∃ S : Int, 1 + c2 = S := ⟨_, rfl⟩
  have bN : 2 ≤ N ∧ N < 152 := by omega
  have bS : 1 ≤ S ∧ S ≤ 1000 := by omega
  obtain ⟨hpi, hmul⟩ := fewL_bd N A S bN.2 b3 bS
  have HC1 := Lib.hid hc1
  have HC2 := Lib.hid hc2
  have HC3 := Lib.hid hc3
  have HPI := Lib.hid hpi
  have HMUL := Lib.hid hmul
  have HB3 := b3
  have HBS := bS
  obtain ⟨b31, b32⟩ := b3
  obtain ⟨bS1, bS2⟩ := bS
  obtain ⟨bN1, bN2⟩ := bN
  clear hc1 hc2 hc3 hpi hmul
  go_enter Try.func3, Try.ntmps3
  go_wp2_with fail
  refine (cut_any _ n 150 (by omega) (by omega)).mono ?_
  rintro e w' ⟨rfl, rfl⟩
  rw [HC1.out]
  go_wp2_with fail
  refine (cut_any _ by_ 1000 (by omega) (by omega)).mono ?_
  rintro e w' ⟨rfl, rfl⟩
  rw [HC2.out]
  go_wp2_with fail
  refine (cut_any _ from_ 100000 (by omega) (by omega)).mono ?_
  rintro e w' ⟨rfl, rfl⟩
  rw [HC3.out]
  clear hS hN
  go_wp2_with fail
  go_loopw [11, 12] (fun p i wr => ∃ j : Nat, j ≤ N ∧ i = .int .i64 (j : Int) ∧ wr.ownsRow 0 25 2 p j (pcells (R.fewL j A S)) ∧ (∀ g, p.ownBlock = some g → w.heap.size ≤ g) ∧ Fr [] w wr) (fun p i _ => N - (intOf i).toNat)
  case atStart =>
    exact ⟨0, by omega, rfl, ⟨rfl, .inl ⟨rfl, rfl⟩⟩, fun g hg => by simp [Value.ownBlock] at hg, Fr.refl _ _⟩
  case round =>
    obtain ⟨j, hj, rfl, hown, hbl, F1⟩ := hrel
    rcases Nat.lt_or_ge j N with hlt | hge
    · obtain ⟨Q1, hQ1⟩ : ∃ Q, S * (j : Int) = Q := ⟨_, rfl⟩
      have hm := HMUL.out j (by omega)
      rw [hQ1] at hm
      obtain ⟨m1, m2⟩ := hm
      obtain ⟨Q2, hQ2⟩ : ∃ Q, A + Q1 = Q := ⟨_, rfl⟩
      have hs : R.fewL (j + 1) A S = R.fewL j A S ++ [(Q2, (j : Int))] := by rw [R.fewL_succ, hQ1, hQ2]
      have HS := Lib.hid hs
      clear hs
      obtain ⟨sa, sc, rfl, hcap, _⟩ := owns_Rd hown
      have F3 : Fr [] wr (wr.alloc (.cells #[.int .i64 Q2, .int .i64 (j : Int)] 25)) := (Fr.refl [] wr).alloc _
      have o1 := owns_keep hown F3 (by simp)
      have R2 : Rd (wr.alloc (.cells #[.int .i64 Q2, .int .i64 (j : Int)] 25)) 25 (some ⟨wr.heap.size, 0, none⟩) (pcells [(Q2, (j : Int))]) :=
        .inr ⟨wr.heap.size, 0, _, (0, 0), rfl, Blk.new wr _ _, fun i hi => by
          have hi' : i < 2 := by simpa [pcells] using hi
          rcases (by omega : i = 0 ∨ i = 1) with rfl | rfl <;> rfl⟩
      have h0 : (j : Int) < (N : Int) := by omega
      go_wp2_with (at_builtin; refine append_gen elem_pair _ rfl _ _ rfl (.slice sa j sc) j (pcells (R.fewL j A S)) (pcells [(Q2, (j : Int))]) rfl o1 (some ⟨wr.heap.size, 0, none⟩) 1 1 rfl rfl R2 (pcells_flat _) (by omega) ?_)
      intro v2 w2 o2 F4 hb2
      have F5 : Fr [] w w2 := (F1.trans F3).trans' F4 (fun x hx => .inr (hbl x (mem_own hx)))
      go_wp2_with fail
      go_roundw
      case rel =>
        refine ⟨j + 1, by omega, by go_num, ?_, ?_, F5⟩
        · rw [HS.out, pcells_append]; exact o2
        · intro g hg
          have hsz := F1.size
          rcases hb2 with e | e
          · exact hbl g (by rw [← e]; exact hg)
          · rw [e] at hg; injection hg with hg; first | omega | (simp at hg; omega)
      case measure => simp [intOf]; omega
    · obtain rfl : j = N := by omega
      clear HMUL
      have hbW := F1.size
      obtain ⟨sa, sc, rfl, hcap, _⟩ := owns_Rd hown
      go_wp2_with fail
      refine (inew_any _ 3000 (by omega) (by omega)).mono ?_
      rintro e w1 ⟨m, rfl, hm, HM1, F2⟩
      have o1 := owns_keep hown F2 (by simp)
      have F02 := F1.trans F2
      go_wp2_with fail
      refine (begin_any _ m 3000 (by omega) (by omega) HM1).mono ?_
      rintro e w2 ⟨rfl, mv, HM2, hmv, F3⟩
      have o2 := owns_keep o1 F3 (own_sep o1 (Typed.cons HM1.1 (by simp) (Typed.nil _ [42])) (by decide))
      have F03 : Fr [] w w2 := F02.trans' F3 (fun x hx => by simp at hx; right; omega)
      have z1 := F2.size
      have hmvw : ∀ g, mv.ownBlock = some g → w.heap.size ≤ g := fun g hg => by have := hmv g hg; have := F02.size; omega
      obtain ⟨l, hl⟩ : ∃ l, R.fewL j A S = l := ⟨_, rfl⟩
      have hlen : l.length = j := by rw [← hl]; exact R.fewL_length j A S
      rw [hl] at o2
      have hscap := owns_cap o2
      unfold maxLen at hscap
      have HR2 : Rd w2 25 sa (pcells l) := by
        obtain ⟨a', c', e, _, r⟩ := owns_Rd o2
        injection e with e1 e2 e3; subst e1; exact r
      have HC : R.cells l.length ≤ (⟨begun, 3000, 2, 0, 0⟩ : MS).max - (⟨begun, 3000, 2, 0, 0⟩ : MS).c.length := by
        rw [hlen]; have := (R.few_at j bN1 bN2).2.1
        show R.cells j ≤ 3000 - 7; omega
      have HASC : Asc l := by rw [← hl]; exact fewL_adj j A S HBS.1
      have HPI2 : PI l := by rw [← hl]; exact HPI.out
      obtain ⟨PX, hPX⟩ : ∃ P, R.layF (l.length + 1) l ⟨begun, 3000, 2, 0, 0⟩ = P := ⟨_, rfl⟩
      have hPb : R.I64 PX.1 := by rw [← hPX]; exact layF_i64 _ _ _
      have HB := ibuild_any w2 m mv ⟨begun, 3000, 2, 0, 0⟩ sa sc l HM2 HR2 HASC HPI2 (by omega) (by omega) (by omega) HC
      rw [hPX, hlen] at HB
      have HBB := Lib.hid HB
      have HL := Lib.hid hl
      have HX := Lib.hid hPX
      have HLN := Lib.hid hlen
      clear HB hl hPX hlen HC
      go_wp2_with fail
      refine HBB.out.mono ?_
      rintro e w3 ⟨rfl, mv3, HM3, hsm, F4⟩
      have T4 : Typed w2 (m :: ownOf mv) [42, 2] := Typed.cons HM2.1 (by simp) (Typed.own' HM2.2.1 (by simp))
      have o3 := owns_keep o2 F4 (own_sep o2 T4 (by decide))
      have F04 : Fr [] w w3 := F03.trans' F4 (fun x hx => by
        rcases List.mem_cons.1 hx with rfl | hx
        · right; omega
        · exact .inr (hmvw x (mem_own hx)))
      have hmvw3 := same_ge hsm hmvw F03.size
      go_wp2_with fail
      refine (iwrite_any w3 m mv3 PX.2 6 PX.1 HM3 hPb).mono ?_
      rintro e w4 ⟨rfl, HM4, F5⟩
      have T5 : Typed w3 (m :: ownOf mv3) [42, 2] := Typed.cons HM3.1 (by simp) (Typed.own' HM3.2.1 (by simp))
      have o4 := owns_keep o3 F5 (own_sep o3 T5 (by decide))
      have F05 : Fr [] w w4 := F04.trans' F5 (fun x hx => by
        rcases List.mem_cons.1 hx with rfl | hx
        · right; omega
        · exact .inr (hmvw3 x (mem_own hx)))
      have hMe : (PX.2.met 6).put 6 PX.1 = R.fewM l := by unfold R.fewM; rw [HX.out]
      rw [hMe] at HM4
      clear hMe
      go_wp2_with fail
      refine (cut_any _ k (j : Int) (by omega) (by omega)).mono ?_
      rintro e w' ⟨rfl, rfl⟩
      have hc0 : 0 ≤ R.cut k (j : Int) := Int.emod_nonneg _ (by omega)
      have hc1 : R.cut k (j : Int) < (j : Int) := Int.emod_lt_of_pos _ (by omega)
      obtain ⟨i, hi⟩ := Int.eq_ofNat_of_zero_le hc0
      rw [hi] at hc1 ⊢
      clear hi hc0
      have hilt : i < j := by omega
      obtain ⟨K, D, G, P, T, f1, f2, f3, f4, f5, f6, f7, f8, f9, f10, f11, f12, f13, f14, f15, f16, f17, f18⟩ := few_facts j i A S ⟨bN1, bN2⟩ HB3 HBS hilt
      have hget : l.getD i (0, 0) = (K, (i : Int)) := by rw [← HL.out, R.fewL_getD j A S i hilt, f1]
      have HR4 : Rd w4 25 sa (pcells l) := by
        obtain ⟨a', c', e, _, r⟩ := owns_Rd o4
        injection e with e1 e2 e3; subst e1; exact r
      obtain ⟨pb, po, rfl, _⟩ := HR4.cells_at (by intro e; have := congrArg List.length e; rw [pcells_length, List.length_nil, HLN.out] at this; omega)
      have c4 := (rd_pair HR4 i (by rw [HLN.out]; exact hilt)).1
      rw [hget] at c4
      rw [HL.out] at f15 f16 f17 f18
      have Q15 := Lib.hid f15
      have Q16 := Lib.hid f16
      have Q17 := Lib.hid f17
      have Q18 := Lib.hid f18
      have Q3 := Lib.hid f3
      have Q4 := Lib.hid f4
      have Q9 := Lib.hid f9
      clear f1 f3 f4 f9 f15 f16 f17 f18 hget HPI2 HASC HPI
      go_wp2_with fail
      refine (isnew_any _ K f2).mono ?_
      rintro e w5 ⟨rfl, S5, HS5, hS5, F6⟩
      have HM5 := HM4.grow F6
      have F06 := F05.trans F6
      have hSw5 : ∀ x ∈ S5, w.heap.size ≤ x := fun x hx => by
        rcases hS5 x hx with h | h
        · simp at h
        · have := F05.size; omega
      obtain ⟨fb, hfb⟩ : ∃ fb, w4.heap.size = fb := ⟨_, rfl⟩
      rw [hfb] at HS5
      rw [hfb]
      have hmw : w.heap.size ≤ m := by omega
      clear hfb hS5 hmv hmvw hmvw3 hsm HM2 HM3 HM1 HR2 hbl o1 o2 o3 o4 T4 T5 F2 F3 F4 F5 F6 F02 F03 F04 F05 F1 z1 hown HR4 c4 hm
      go_wp2_with fail
      go_loopw [19] (fun c wq => ∃ (t : Nat) (S6 : List Nat), t < T ∧ c = .int .i64 ((t + 1 : Nat) : Int) ∧ IKS wq fb S6 (R.fewS l K t).1 ∧ MemAt wq m mv3 (R.fewS l K t).2 ∧ (∀ x ∈ S6, w.heap.size ≤ x) ∧ Fr [] w wq) (fun c _ => 400 - (intOf c).toNat)
      case atStart => exact ⟨0, S5, by omega, rfl, HS5, HM5, hSw5, F06⟩
      case round =>
        obtain ⟨t, S6, ht, rfl, HS6, HM6, hSw6, F07⟩ := hrel
        have hN5 : (R.fewS l K t).1.next ≠ 5 := Q15.out t ht
        have es : ikStep (R.fewS l K t).1 (R.fewS l K t).2 = R.fewS l K (t + 1) := rfl
        obtain ⟨D1, hD1⟩ : ∃ D, ((R.fewS l K (t + 1)).1.next == 5) = D := ⟨_, rfl⟩
        have hDT : D1 = true → t + 1 = T := fun h => by
          rw [h] at hD1
          have h5 : (R.fewS l K (t + 1)).1.next = 5 := by simpa using hD1
          rcases Nat.lt_or_ge (t + 1) T with h' | h'
          · exact absurd h5 (Q15.out _ h')
          · omega
        have hDF : D1 = false → t + 1 < T := fun h => by
          rw [h] at hD1
          have h5 : (R.fewS l K (t + 1)).1.next ≠ 5 := by simpa using hD1
          rcases (by omega : t + 1 < T ∨ t + 1 = T) with h' | h'
          · exact h'
          · rw [h'] at h5; exact absurd Q16.out h5
        have hST := isstep_any wr fb m S6 (R.fewS l K t).1 mv3 (R.fewS l K t).2 HS6 HM6
        unfold isPost at hST
        rw [es, hD1] at hST
        have HST := Lib.hid hST
        have HDT := Lib.hid hDT
        have HDF := Lib.hid hDF
        have hc1 : ((t + 1 : Nat) : Int) < 400 := by omega
        clear hST hDT hDF hD1 hN5 es
        go_wp2_with fail
        refine HST.out.mono ?_
        rintro e w7 ⟨rfl, ⟨S7, HS7, hS7⟩, HM7, F8⟩
        have F08 : Fr [] w w7 := F07.trans' F8 (fun x hx => by
          rcases List.mem_cons.1 hx with rfl | hx
          · exact .inr hmw
          · exact .inr (hSw6 x hx))
        have hSw7 : ∀ x ∈ S7, w.heap.size ≤ x := fun x hx => by
          rcases hS7 x hx with h | h
          · exact hSw6 x h
          · have := F07.size; omega
        clear HST
        cases D1
        · have hlt := HDF.out rfl
          clear HDF HDT
          go_wp2_with fail
          go_roundw
          case rel => exact ⟨t + 1, S7, hlt, by go_num, HS7, HM7, hSw7, F08⟩
          case measure => simp [intOf]; omega
        · have hT := HDT.out rfl
          clear HDF HDT
          subst hT
          obtain ⟨X, hX⟩ : ∃ X, (R.fewS l K (t + 1)).1 = X := ⟨_, rfl⟩
          rw [hX] at HS7
          have q17 : X.value = (i : Int) := by rw [← hX]; exact Q17.out
          have q18 : X.there = true := by rw [← hX]; exact Q18.out
          obtain ⟨rb, pp, HK⟩ := HS7
          have hb7 := HK.blk
          have q3 := Q3.out
          have q4 := Q4.out
          clear hX Q17 Q18 Q15 Q16 Q3 Q4 HM7 HM6 HS6 HK
          have HQ3 := Lib.hid q3
          have HQ4 := Lib.hid q4
          have hle : ((t + 1 : Nat) : Int) ≤ 4 + P := f14
          clear q3 q4 f14
          go_wp2_with fail
          refine (isvalue_any _ fb rb pp X hb7).mono ?_
          rintro e w8 ⟨rfl, n8, rfl⟩
          rw [q17, q18]
          clear q17 q18 hb7
          go_wp2_with fail
          refine (known16_any _).mono ?_
          rintro e w9 ⟨rfl, F9⟩
          have F09 : Fr [] w w9 := (F08.drewN n8).trans F9
          go_wp2_with fail
          refine (idepth_any (j + 1) (j : Int) _ (by omega) (by omega) (by omega)).mono ?_
          rintro e w10 ⟨rfl, n10, rfl⟩
          rw [HQ3.out]
          go_wp2_with fail
          refine (idegree_any _ (j : Int) (by omega) (by omega)).mono ?_
          rintro e w' ⟨rfl, rfl⟩
          rw [HQ4.out]
          have h9 := Q9.out
          have hle' : (t : Int) + 1 ≤ 4 + P := by omega
          go_wp2
          go_ret
          exact ⟨rfl, F09.drewN _⟩
end Go.Proofs.Ytilkkfpfcegncaa
