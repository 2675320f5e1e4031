/- A seek in an ideal tree that plant has laid: plain functions alone. -/
import Derived.Test.YtilkkfpfcegncaaLayTree
import Derived.Test.YtilkkfpfcegncaaISeek2
import Derived.Test.YtilkkfpfcegncaaBuild
set_option linter.unusedVariables false
namespace Go.Proofs.Ytilkkfpfcegncaa.R

theorem sub_congr {at_ at2 : Int → Int} {L : Int} (h : ∀ a, L < a → at_ a = at2 a) : ∀ (f : Nat) (x : Int) (l : List (Int × Int)), Sub at_ L f x l → Sub at2 L f x l := by
  intro f
  induction f with
  | zero => intro x l h; exact h
  | succ f ih =>
    intro x l ⟨h1, h2, h3, h4⟩
    refine ⟨h1, h2, fun hl => ?_, fun hl => ?_⟩
    · obtain ⟨a, b, c⟩ := h3 hl
      exact ⟨a, by rw [← h _ (by omega)]; exact b, by rw [← h _ (by omega)]; exact c⟩
    · obtain ⟨a, b, c, d⟩ := h4 hl
      have hdg : 0 ≤ degree l.length := by unfold degree; split; omega; split; omega; exact (root_bd _ (by omega)).1
      refine ⟨a, by rw [← h _ (by omega)]; exact b, fun i i0 i1 => ?_, fun i i0 i1 => ?_⟩
      · rw [← h _ (by omega)]; exact ih _ _ (c i i0 i1)
      · rw [← h _ (by omega)]; exact d i i0 i1

theorem least (P : Nat → Prop) (hd : ∀ n, Decidable (P n)) : ∀ t, P t → ∃ m, m ≤ t ∧ P m ∧ ∀ k, k < m → ¬ P k := by
  intro t
  induction t using Nat.strongRecOn with
  | _ t ih =>
    intro h
    by_cases hk : ∃ k, k < t ∧ P k
    · obtain ⟨k, k1, k2⟩ := hk
      obtain ⟨m, m1, m2, m3⟩ := ih k k1 k2
      exact ⟨m, by omega, m2, m3⟩
    · exact ⟨t, Nat.le_refl _, h, fun k k1 k2 => hk ⟨k, k1, k2⟩⟩

/-- The pairs of the statement. -/
def fewL (n : Nat) (a s : Int) : List (Int × Int) := (List.range n).map fun i : Nat => (a + s * (i : Int), (i : Int))
theorem fewL_length (n : Nat) (a s : Int) : (fewL n a s).length = n := by simp [fewL]
theorem fewL_getD (n : Nat) (a s : Int) (j : Nat) (h : j < n) : (fewL n a s).getD j (0, 0) = (a + s * (j : Int), (j : Int)) := by
  simp [fewL, List.getD_eq_getElem?_getD, h]
theorem fewL_succ (n : Nat) (a s : Int) : fewL (n + 1) a s = fewL n a s ++ [(a + s * (n : Int), (n : Int))] := by
  simp [fewL, List.range_succ]
theorem fewL_asc (n : Nat) (a s : Int) (hs : 1 ≤ s) : Asc (fewL n a s) := by
  intro i j hij hj
  rw [fewL_length] at hj
  rw [fewL_getD n a s i (by omega), fewL_getD n a s j hj]
  have : s * (i : Int) < s * (j : Int) := Int.mul_lt_mul_of_pos_left (by omega) (by omega)
  show a + s * (i : Int) < a + s * (j : Int)
  omega
/-- Degrees of small numbers. -/
def dg (n : Nat) : Nat := if n < 2 then 0 else if n < 9 then 2 else if n < 16 then 3 else if n < 25 then 4 else if n < 36 then 5 else if n < 49 then 6 else if n < 64 then 7 else if n < 81 then 8 else if n < 100 then 9 else if n < 121 then 10 else if n < 144 then 11 else 12
theorem degree_dg (n : Nat) (h : n < 152) : degree n = (dg n : Nat) := by
  have hr : ∀ r : Int, 0 ≤ r → r * r ≤ n → (n : Int) < (r + 1) * (r + 1) → root n = r := fun r a b c => root_eq n r (by omega) a b c
  rcases (by omega : n < 2 ∨ (2 ≤ n ∧ n < 4) ∨ (4 ≤ n ∧ n < 9) ∨ (9 ≤ n ∧ n < 16) ∨ (16 ≤ n ∧ n < 25) ∨ (25 ≤ n ∧ n < 36) ∨ (36 ≤ n ∧ n < 49) ∨ (49 ≤ n ∧ n < 64) ∨ (64 ≤ n ∧ n < 81) ∨ (81 ≤ n ∧ n < 100) ∨ (100 ≤ n ∧ n < 121) ∨ (121 ≤ n ∧ n < 144) ∨ (144 ≤ n ∧ n < 169)) with h2 | h2 | h2 | h2 | h2 | h2 | h2 | h2 | h2 | h2 | h2 | h2 | h2
  · unfold degree dg
    rw [if_pos (.inl (by omega)), if_pos h2]; rfl
  · unfold degree dg
    rw [if_neg (by omega), hr 1 (by omega) (by omega) (by omega)]
    repeat (first | rw [if_pos (by omega)] | rw [if_neg (by omega)])
    rfl
  · unfold degree dg
    rw [if_neg (by omega), hr 2 (by omega) (by omega) (by omega)]
    repeat (first | rw [if_pos (by omega)] | rw [if_neg (by omega)])
    rfl
  · unfold degree dg
    rw [if_neg (by omega), hr 3 (by omega) (by omega) (by omega)]
    repeat (first | rw [if_pos (by omega)] | rw [if_neg (by omega)])
    rfl
  · unfold degree dg
    rw [if_neg (by omega), hr 4 (by omega) (by omega) (by omega)]
    repeat (first | rw [if_pos (by omega)] | rw [if_neg (by omega)])
    rfl
  · unfold degree dg
    rw [if_neg (by omega), hr 5 (by omega) (by omega) (by omega)]
    repeat (first | rw [if_pos (by omega)] | rw [if_neg (by omega)])
    rfl
  · unfold degree dg
    rw [if_neg (by omega), hr 6 (by omega) (by omega) (by omega)]
    repeat (first | rw [if_pos (by omega)] | rw [if_neg (by omega)])
    rfl
  · unfold degree dg
    rw [if_neg (by omega), hr 7 (by omega) (by omega) (by omega)]
    repeat (first | rw [if_pos (by omega)] | rw [if_neg (by omega)])
    rfl
  · unfold degree dg
    rw [if_neg (by omega), hr 8 (by omega) (by omega) (by omega)]
    repeat (first | rw [if_pos (by omega)] | rw [if_neg (by omega)])
    rfl
  · unfold degree dg
    rw [if_neg (by omega), hr 9 (by omega) (by omega) (by omega)]
    repeat (first | rw [if_pos (by omega)] | rw [if_neg (by omega)])
    rfl
  · unfold degree dg
    rw [if_neg (by omega), hr 10 (by omega) (by omega) (by omega)]
    repeat (first | rw [if_pos (by omega)] | rw [if_neg (by omega)])
    rfl
  · unfold degree dg
    rw [if_neg (by omega), hr 11 (by omega) (by omega) (by omega)]
    repeat (first | rw [if_pos (by omega)] | rw [if_neg (by omega)])
    rfl
  · unfold degree dg
    rw [if_neg (by omega), hr 12 (by omega) (by omega) (by omega)]
    repeat (first | rw [if_pos (by omega)] | rw [if_neg (by omega)])
    rfl
/-- The cells, the steps, the depth of each number of keys. -/
def tab : List (Nat × Nat × Nat) := [(1, 2, 0), (2, 2, 0), (12, 5, 1), (22, 8, 2), (32, 8, 2), (42, 11, 3), (52, 11, 3), (62, 11, 3), (72, 11, 3), (76, 12, 3), (86, 12, 3), (96, 12, 3), (106, 12, 3), (116, 15, 4), (126, 15, 4), (136, 15, 4), (140, 13, 3), (150, 16, 4), (160, 16, 4), (170, 16, 4), (180, 16, 4), (190, 16, 4), (200, 16, 4), (210, 16, 4), (220, 16, 4), (224, 17, 4), (234, 17, 4), (244, 17, 4), (254, 17, 4), (264, 17, 4), (274, 17, 4), (284, 17, 4), (294, 17, 4), (304, 17, 4), (314, 17, 4), (324, 17, 4), (328, 18, 4), (338, 18, 4), (348, 18, 4), (358, 18, 4), (368, 18, 4), (378, 18, 4), (388, 18, 4), (398, 18, 4), (408, 18, 4), (418, 18, 4), (428, 18, 4), (438, 18, 4), (448, 18, 4), (452, 19, 4), (462, 19, 4), (472, 19, 4), (482, 19, 4), (492, 19, 4), (502, 19, 4), (512, 19, 4), (522, 19, 4), (526, 20, 4), (530, 20, 4), (534, 20, 4), (538, 20, 4), (542, 20, 4), (546, 20, 4), (550, 20, 4), (596, 20, 4), (600, 21, 4), (604, 21, 4), (608, 21, 4), (612, 21, 4), (616, 21, 4), (620, 21, 4), (624, 21, 4), (628, 21, 4), (638, 21, 4), (648, 21, 4), (658, 21, 4), (668, 21, 4), (678, 21, 4), (688, 21, 4), (698, 21, 4), (708, 21, 4), (706, 22, 4), (716, 22, 4), (726, 22, 4), (736, 22, 4), (746, 22, 4), (756, 22, 4), (766, 22, 4), (776, 22, 4), (786, 22, 4), (796, 22, 4), (806, 22, 4), (816, 22, 4), (826, 22, 4), (836, 22, 4), (846, 22, 4), (856, 22, 4), (866, 22, 4), (876, 22, 4), (886, 22, 4), (884, 23, 4), (894, 23, 4), (904, 23, 4), (914, 23, 4), (924, 23, 4), (934, 23, 4), (944, 23, 4), (954, 23, 4), (964, 23, 4), (974, 23, 4), (984, 23, 4), (994, 23, 4), (1004, 23, 4), (1014, 23, 4), (1024, 23, 4), (1034, 23, 4), (1044, 23, 4), (1054, 23, 4), (1064, 23, 4), (1074, 23, 4), (1084, 23, 4), (1082, 24, 4), (1092, 24, 4), (1102, 24, 4), (1112, 24, 4), (1122, 24, 4), (1132, 24, 4), (1142, 24, 4), (1152, 24, 4), (1162, 24, 4), (1172, 24, 4), (1182, 24, 4), (1192, 24, 4), (1202, 27, 5), (1212, 27, 5), (1222, 27, 5), (1232, 27, 5), (1242, 27, 5), (1252, 27, 5), (1262, 27, 5), (1272, 27, 5), (1282, 27, 5), (1292, 27, 5), (1302, 27, 5), (1300, 25, 4), (1310, 28, 5), (1320, 28, 5), (1330, 28, 5), (1340, 28, 5), (1350, 28, 5), (1360, 28, 5), (1370, 28, 5)]
def row (n : Nat) : Nat × Nat × Nat := tab.getD n (0, 0, 0)
/-- A row comes of those below it, and is within the bounds. -/
def fits (n : Nat) : Bool :=
  let d := dg n
  let q := row (n / d)
  let r := row (n / d + 1)
  let m := n % d
  let o := row n
  Nat.beq o.1 (4 + 2 * d + (d - m) * q.1 + m * r.1) && Nat.beq o.2.1 (d + 1 + (if m = 0 then q.2.1 else Nat.max q.2.1 r.2.1)) && Nat.beq o.2.2 (1 + (if m = 0 then q.2.2 else Nat.max q.2.2 r.2.2))
    && Nat.ble (7 + o.1) 3000 && Nat.ble (2 + o.2.1) 399 && Nat.ble (2 + o.2.1) (4 + o.2.2 * (d + 1)) && Nat.ble o.2.2 100
set_option maxRecDepth 100000 in
theorem fits_all : ∀ n : Nat, n < 150 → fits (n + 2) = true := by decide +kernel

theorem sumN_eq (g : Nat → Nat) (n d Q r : Int) (hd : degree n = d) (hQ : n / d = Q) (hr : n % d = r) (r0 : 0 ≤ r) (r1 : r < d) : ∀ (k : Nat) (i : Int), 0 ≤ i → i + k = d → sumN g n k i = (r - i).toNat * g (Q + 1).toNat + (d - max i r).toNat * g Q.toNat := by
  intro k
  induction k with
  | zero =>
    intro i i0 hi
    have : (r - i).toNat = 0 := by omega
    have h2 : (d - max i r).toNat = 0 := by omega
    rw [this, h2]; unfold sumN; omega
  | succ k ih =>
    intro i i0 hi
    unfold sumN
    rw [ih (i + 1) (by omega) (by omega)]
    have hs : psize n i = if i < r then Q + 1 else Q := by unfold psize; rw [hd, if_neg (by omega), hQ, hr]
    rw [hs]
    split
    · rw [show (r - i).toNat = (r - (i + 1)).toNat + 1 from by omega, show (d - max i r).toNat = (d - max (i + 1) r).toNat from by omega, Nat.add_mul, Nat.one_mul]
      omega
    · rw [show (r - i).toNat = 0 from by omega, show (r - (i + 1)).toNat = 0 from by omega, show (d - max i r).toNat = (d - max (i + 1) r).toNat + 1 from by omega, Nat.add_mul, Nat.one_mul]
      omega

theorem tab_holds (f : Nat) : ∀ n : Nat, n < f → n < 152 → 1 ≤ n → layN f n = (row n).1 ∧ cellsF f n = (row n).1 ∧ tw f n = (row n).2.1 ∧ depthF f n = (row n).2.2 ∧ (row n).1 ≤ 2993 ∧ (row n).2.1 ≤ 397 ∧ (row n).2.2 ≤ 100 := by
  induction f with
  | zero => intro n h; omega
  | succ f ih =>
    intro n hf hn h1
    have hdg := degree_dg n hn
    rcases (by omega : n = 1 ∨ 2 ≤ n) with h | h
    · subst h
      refine ⟨rfl, ?_, ?_, ?_, by decide, by decide, by decide⟩
      · unfold cellsF; rw [if_neg (by omega), if_neg (by omega), if_pos (by omega)]; rfl
      · unfold tw; rw [if_pos (by omega)]; rfl
      · unfold depthF; rw [if_pos (by rw [hdg]; rfl)]; rfl
    · have hft := fits_all (n - 2) (by omega)
      rw [show n - 2 + 2 = n from by omega] at hft
      unfold fits at hft
      simp only [Bool.and_eq_true, Nat.beq_eq, Nat.ble_eq] at hft
      obtain ⟨⟨⟨⟨⟨⟨e1, e2⟩, e3⟩, e4⟩, e5⟩, e6⟩, e7⟩ := hft
      obtain ⟨d1, d2, d3⟩ := degree_bd n (by omega) (by omega)
      rw [hdg] at d1 d2 d3
      obtain ⟨d, hd⟩ : ∃ d, dg n = d := ⟨_, rfl⟩
      rw [hd] at hdg d1 d2 d3 e1 e2 e3 e6
      obtain ⟨Q, hQ⟩ : ∃ Q, n / d = Q := ⟨_, rfl⟩
      obtain ⟨m, hm⟩ : ∃ m, n % d = m := ⟨_, rfl⟩
      have hQi : (n : Int) / (d : Int) = (Q : Int) := by rw [← hQ]; rfl
      have hmi : (n : Int) % (d : Int) = (m : Int) := by rw [← hm]; rfl
      rw [hQ, hm] at e1 e2 e3
      have hm1 : m < d := by rw [← hm]; exact Nat.mod_lt _ (by omega)
      have hdm := Nat.div_add_mod n d
      rw [hQ, hm] at hdm
      have hQ1 : 1 ≤ Q := by rw [← hQ]; exact (Nat.le_div_iff_mul_le (by omega)).2 (by omega)
      have hQn : 2 * Q ≤ d * Q := Nat.mul_le_mul_right _ (by omega)
      obtain ⟨q1, q2, q3, q4, q5, q6, q7⟩ := ih Q (by omega) (by omega) hQ1
      obtain ⟨Y, hY⟩ : ∃ Y, row n = Y := ⟨_, rfl⟩
      obtain ⟨A, hA⟩ : ∃ A, row Q = A := ⟨_, rfl⟩
      obtain ⟨B, hB⟩ : ∃ B, row (Q + 1) = B := ⟨_, rfl⟩
      rw [hY] at e1 e2 e3 e4 e5 e6 e7 ⊢
      rw [hA] at e1 e2 e3 q1 q2 q3 q4 q5 q6 q7
      rw [hB] at e1 e2 e3
      have hB2 : 0 < m → layN f (Q + 1) = B.1 ∧ cellsF f ((Q : Int) + 1) = B.1 ∧ tw f ((Q : Int) + 1) = B.2.1 ∧ depthF f ((Q : Int) + 1) = B.2.2 ∧ B.1 ≤ 2993 ∧ B.2.1 ≤ 397 ∧ B.2.2 ≤ 100 := by
        intro h0
        have hx := ih (Q + 1) (by omega) (by omega) (by omega)
        rw [hB, show ((Q + 1 : Nat) : Int) = (Q : Int) + 1 from by omega] at hx
        exact hx
      refine ⟨?_, ?_, ?_, ?_, by omega, by omega, by omega⟩
      · unfold layN
        rw [if_neg (by omega), if_neg (by omega), hdg, Int.toNat_natCast, sumN_eq (layN f) n d Q m hdg hQi hmi (by omega) (by omega) d 0 (by omega) (by omega)]
        rw [show ((m : Int) - 0).toNat = m from by omega, show ((d : Int) - max 0 (m : Int)).toNat = d - m from by omega, show ((Q : Int) + 1).toNat = Q + 1 from by omega, Int.toNat_natCast, q1]
        rcases Nat.eq_zero_or_pos m with h0 | h0
        · subst h0; omega
        · rw [(hB2 h0).1]; omega
      · unfold cellsF
        rw [if_neg (by omega), if_neg (by omega), if_neg (by omega), hdg, hQi, hmi, q2]
        have x1 : ((d : Int) - m) * A.1 = (((d - m) * A.1 : Nat) : Int) := by rw [Int.natCast_mul]; congr 1; omega
        have b1 : (d - m) * A.1 ≤ Y.1 := by omega
        have b2 : m * B.1 ≤ Y.1 := by omega
        rw [x1]
        dsimp only
        rcases Nat.eq_zero_or_pos m with h0 | h0
        · subst h0
          rw [if_neg (by omega), w64_id (4 + 2 * (d : Int)) (by omega) (by omega), w64_id (((d - 0) * A.1 : Nat) : Int) (by omega) (by omega), w64_id _ (by omega) (by omega)]
          omega
        · have x2 : (m : Int) * B.1 = ((m * B.1 : Nat) : Int) := by rw [Int.natCast_mul]
          rw [if_pos (by omega), (hB2 h0).2.1, x2, w64_id (4 + 2 * (d : Int)) (by omega) (by omega), w64_id (((d - m) * A.1 : Nat) : Int) (by omega) (by omega), w64_id ((m * B.1 : Nat) : Int) (by omega) (by omega), w64_id (4 + 2 * (d : Int) + (((d - m) * A.1 : Nat) : Int)) (by omega) (by omega), w64_id _ (by omega) (by omega)]
          omega
      · unfold tw
        rw [if_neg (by omega), hdg, hQi, hmi, q3]
        rcases Nat.eq_zero_or_pos m with h0 | h0
        · subst h0
          rw [if_neg (by omega)]
          rw [if_pos rfl] at e2
          omega
        · rw [if_pos (by omega), (hB2 h0).2.2.1]
          rw [if_neg (by omega)] at e2
          have : Nat.max A.2.1 B.2.1 = max A.2.1 B.2.1 := rfl
          omega
      · unfold depthF
        rw [hdg, if_neg (by omega), hQi, hmi, q4]
        dsimp only
        rcases Nat.eq_zero_or_pos m with h0 | h0
        · subst h0
          rw [if_neg (by omega)]
          rw [if_pos rfl] at e3
          rw [w64_id _ (by omega) (by omega)]
          omega
        · rw [if_pos (by omega), (hB2 h0).2.2.2.1]
          rw [if_neg (by omega)] at e3
          have : Nat.max A.2.2 B.2.2 = max A.2.2 B.2.2 := rfl
          rw [w64_id _ (by omega) (by omega)]
          omega

theorem few_at (n : Nat) (h1 : 2 ≤ n) (h2 : n < 152) : 7 + (layN (n + 1) n : Int) ≤ 3000 ∧ cells n ≤ 2993 ∧ 2 + tw (n + 1) n ≤ 399 ∧ 2 + tw (n + 1) n ≤ 4 + depthF (n + 1) n * (degree n + 1) ∧ 0 ≤ depthF (n + 1) n ∧ depthF (n + 1) n ≤ 100 := by
  obtain ⟨a1, a2, a3, a4, a5, a6, a7⟩ := tab_holds (n + 1) n (by omega) h2 (by omega)
  have hft := fits_all (n - 2) (by omega)
  rw [show n - 2 + 2 = n from by omega] at hft
  unfold fits at hft
  simp only [Bool.and_eq_true, Nat.beq_eq, Nat.ble_eq] at hft
  obtain ⟨⟨_, e6⟩, e7⟩ := hft
  have hc : cells n = cellsF (n + 1) n := by unfold cells; rw [Int.toNat_natCast]
  rw [hc, a1, a2, a3, a4, degree_dg n h2]
  have hx : ((row n).2.2 : Int) * ((dg n : Nat) + 1 : Int) = (((row n).2.2 * (dg n + 1) : Nat) : Int) := by rw [Int.natCast_mul]; rfl
  rw [hx]
  omega

/-- The memory of the statement: begun, planted, written. -/
def fewM (l : List (Int × Int)) : MS := (((layF (l.length + 1) l ⟨Go.Proofs.Ytilkkfpfcegncaa.begun, 3000, 2, 0, 0⟩).2.met 6).put 6 (layF (l.length + 1) l ⟨Go.Proofs.Ytilkkfpfcegncaa.begun, 3000, 2, 0, 0⟩).1)
/-- So many steps of a seek. -/
def fewS (l : List (Int × Int)) (k : Int) : Nat → IK × MS
  | 0 => (IK.start k, fewM l)
  | t + 1 => Go.Proofs.Ytilkkfpfcegncaa.ikStep (fewS l k t).1 (fewS l k t).2
theorem itk_succ (at_ : Int → Int) : ∀ (t : Nat) (f : IK), itk at_ (t + 1) f = ks at_ (itk at_ t f)
  | 0, f => rfl
  | t + 1, f => itk_succ at_ t (ks at_ f)
theorem at_of_c (M N : MS) (h : M.c = N.c) (a : Int) : M.at_ a = N.at_ a := by rw [at_atL, at_atL, h]
theorem few_same (l : List (Int × Int)) (k : Int) : ∀ t, (fewS l k t).1 = itk (fewM l).at_ t (IK.start k) ∧ (fewS l k t).2.c = (fewM l).c := by
  intro t
  induction t with
  | zero => exact ⟨rfl, rfl⟩
  | succ t ih =>
    obtain ⟨h1, h2⟩ := ih
    rw [itk_succ, ← h1]
    show (Go.Proofs.Ytilkkfpfcegncaa.ikStep (fewS l k t).1 (fewS l k t).2).1 = _ ∧ (Go.Proofs.Ytilkkfpfcegncaa.ikStep (fewS l k t).1 (fewS l k t).2).2.c = _
    unfold Go.Proofs.Ytilkkfpfcegncaa.ikStep ks
    by_cases h : (fewS l k t).1.next = 5
    · rw [if_pos h, if_pos h]; exact ⟨rfl, h2⟩
    · rw [if_neg h, if_neg h, at_of_c _ _ h2]
      refine ⟨rfl, ?_⟩
      show ((fewS l k t).2.met _).c = _
      rw [← h2]
      unfold MS.met
      split <;> rfl
theorem few_seek (n : Nat) (a s : Int) (h1 : 2 ≤ n) (h2 : n < 152) (hs : 1 ≤ s) (j : Nat) (hj : j < n) :
    ∃ T : Nat, 1 ≤ T ∧ (T : Int) ≤ 2 + tw (n + 1) n ∧ (∀ t, t < T → (fewS (fewL n a s) (a + s * (j : Int)) t).1.next ≠ 5) ∧ (fewS (fewL n a s) (a + s * (j : Int)) T).1.next = 5 ∧ (fewS (fewL n a s) (a + s * (j : Int)) T).1.value = j ∧ (fewS (fewL n a s) (a + s * (j : Int)) T).1.there = true := by
  obtain ⟨e1, e2, e3, e4, e5, e6⟩ := few_at n h1 h2
  obtain ⟨l, hl⟩ : ∃ l, fewL n a s = l := ⟨_, rfl⟩
  have hlen : l.length = n := by rw [← hl]; exact fewL_length n a s
  have hasc : Asc l := by rw [← hl]; exact fewL_asc n a s hs
  have hget : l.getD j (0, 0) = (a + s * (j : Int), (j : Int)) := by rw [← hl]; exact fewL_getD n a s j hj
  rw [hl]
  obtain ⟨k, hk⟩ : ∃ k, a + s * (j : Int) = k := ⟨_, rfl⟩
  rw [hk] at hget ⊢
  have L := laid_of (l.length + 1) l ⟨Go.Proofs.Ytilkkfpfcegncaa.begun, 3000, 2, 0, 0⟩ (by omega) (by omega) (by rw [hlen]; exact e1) (by show (3000 : Int) ≤ 65536; decide)
  obtain ⟨P, hP⟩ : ∃ P, layF (l.length + 1) l ⟨Go.Proofs.Ytilkkfpfcegncaa.begun, 3000, 2, 0, 0⟩ = P := ⟨_, rfl⟩
  have hM : fewM l = (P.2.met 6).put 6 P.1 := by unfold fewM; rw [hP]
  rw [hP] at L
  obtain ⟨W, hW, _⟩ := L.cells
  have hW' : P.2.c = [1, 0, 0, 0, 0, 57, 0] ++ W := hW
  have hc : (fewM l).c = [1, 0, 0, 0, 0, P.1, 0] ++ W := by
    have hmet : (P.2.met 6).c = P.2.c := by unfold MS.met; split <;> rfl
    have hh : (P.2.met 6).has 6 := by unfold MS.has; rw [hmet, hW']; simp; omega
    rw [hM]; unfold MS.put; rw [if_pos hh]
    show (P.2.met 6).c.set 5 P.1 = _
    rw [hmet, hW']; rfl
  have hS : Sub (fewM l).at_ 7 (l.length + 1) P.1 l := by
    refine sub_congr (at_ := atL P.2.c) (fun b hb => ?_) _ _ _ (L.sub P.2.c (List.prefix_refl _))
    rw [at_atL, hc, hW']
    unfold atL
    have hln : ([1, 0, 0, 0, 0, P.1, 0] ++ W).length = ([1, 0, 0, 0, 0, 57, 0] ++ W).length := by simp
    rw [hln]
    split
    · rw [List.getD_eq_getElem?_getD, List.getD_eq_getElem?_getD, List.getElem?_append_right (by simp; omega), List.getElem?_append_right (by simp; omega)]
      rfl
    · rfl
  have hA1 : (fewM l).at_ 1 = 1 := by rw [at_atL, hc]; unfold atL; rw [if_pos (by simp; omega)]; rfl
  have hA6 : (fewM l).at_ 6 = P.1 := by rw [at_atL, hc]; unfold atL; rw [if_pos (by simp; omega)]; rfl
  have hk5 : kind P.1 ≠ 5 := by
    rw [hlen] at hS
    obtain ⟨_, _, _, q⟩ := hS
    rw [(q (by omega)).1]; decide
  obtain ⟨t1, c, r, p, ht1, c0, c1, _, _, hit⟩ := level (fewM l).at_ 1 1 k (by omega) hA1 (by omega) (by
    intro c h0 h1
    rw [show (1 : Int) + 4 + 1 + c = 6 from by omega, hA6]; exact hk5) (IK.start k) rfl rfl rfl rfl
  rw [show (1 : Int) + 4 + 1 + c = 6 from by omega, hA6] at hit
  obtain ⟨t2, ht2, f1, f2, f3⟩ := seek_sub (fewM l).at_ 7 (l.length + 1) l P.1 ({ IK.start k with next := 1, route := r, has := true, peek := p } : IK) j hS hasc (by omega) (by omega) (by rw [hget]; rfl)
  rw [← hit, ← itk_add] at f1 f2 f3
  rw [hget] at f2
  obtain ⟨T, T1, T2, T3⟩ := least (fun t => (fewS l k t).1.next = 5) (fun _ => inferInstance) (t1 + t2) (by rw [(few_same l k _).1]; exact f1)
  have hT0 : T ≠ 0 := by rintro rfl; exact absurd (show (0 : Int) = 5 from T2) (by decide)
  have heq : (fewS l k (t1 + t2)).1 = (fewS l k T).1 := by
    rw [(few_same l k _).1, (few_same l k _).1, show t1 + t2 = T + (t1 + t2 - T) from by omega, itk_add]
    exact itk_done _ _ (by rw [← (few_same l k _).1]; exact T2) _
  rw [← (few_same l k _).1, heq] at f2 f3
  rw [hlen] at ht2
  exact ⟨T, by omega, by omega, T3, T2, f2, f3⟩
end Go.Proofs.Ytilkkfpfcegncaa.R
