/- What plant lays is a tree: plain functions alone. -/
import Derived.Test.YtilkkfpfcegncaaSeekLevel
set_option linter.unusedVariables false
namespace Go.Proofs.Ytilkkfpfcegncaa.R

/-- What a cell of a list holds. -/
def atL (c : List Int) (a : Int) : Int := if 1 ≤ a ∧ a ≤ c.length then c.getD (a - 1).toNat 0 else 0
theorem at_atL (M : MS) (a : Int) : M.at_ a = atL M.c a := by
  unfold MS.at_ atL
  by_cases h : M.has a
  · have h' : 1 ≤ a ∧ a ≤ M.c.length := h
    rw [if_pos h, if_pos h']
  · have h' : ¬ (1 ≤ a ∧ a ≤ M.c.length) := h
    rw [if_neg h, if_neg h']
theorem atL_mid (c W c' : List Int) (j : Nat) (h : c ++ W <+: c') (hj : j < W.length) : atL c' ((c.length : Int) + 1 + j) = W.getD j 0 := by
  obtain ⟨r, rfl⟩ := h
  unfold atL
  rw [if_pos ⟨by omega, by simp; omega⟩, show ((c.length : Int) + 1 + j - 1).toNat = c.length + j from by omega]
  rw [List.getD_eq_getElem?_getD, List.getD_eq_getElem?_getD, List.getElem?_append_left (by simp; omega), List.getElem?_append_right (by omega), Nat.add_sub_cancel_left]
theorem kind_of (k a : Int) (hk : 1 ≤ k ∧ k ≤ 5) (ha : 1 ≤ a ∧ a ≤ 65536) : kind (of k a) = k ∧ addr (of k a) = a := by
  have e : of k a = 8 * a + k := by unfold of; rw [if_pos ⟨hk, ha⟩]
  have hr : right (8 * a + k) = true := by rw [right_eq]; omega
  rw [e]
  unfold kind addr
  rw [if_pos hr, if_pos hr]
  omega

/-- So many cells are laid. -/
def sumN (g : Nat → Nat) (n : Int) : Nat → Int → Nat
  | 0, _ => 0
  | k + 1, i => g (psize n i).toNat + sumN g n k (i + 1)
def layN : Nat → Nat → Nat
  | 0, _ => 0
  | f + 1, n => if n = 0 then 1 else if n = 1 then 2 else sumN (layN f) n (degree n).toNat 0 + (4 + 2 * (degree n).toNat)

structure Laid (f : Nat) (l : List (Int × Int)) (M : MS) (x : Int) (M' : MS) : Prop where
  max : M'.max = M.max
  cells : ∃ W, M'.c = M.c ++ W ∧ W.length = layN f l.length
  sub : ∀ c', M'.c <+: c' → Sub (atL c') M.c.length f x l

theorem make_fit (M : MS) (W : List Int) (h0 : W ≠ []) (h : (M.c.length : Int) + W.length ≤ M.max) : M.made W = M.c.length + 1 ∧ (M.make W).c = M.c ++ W ∧ (M.make W).max = M.max := by
  have hf : M.fits W := ⟨h0, by omega⟩
  unfold MS.made MS.make
  rw [if_pos hf, if_pos hf]
  exact ⟨rfl, rfl, rfl⟩

theorem sub_mono {at_ : Int → Int} {L L' : Int} (h : L' ≤ L) : ∀ (f : Nat) (x : Int) (l : List (Int × Int)), Sub at_ L f x l → Sub at_ L' f x l := by
  intro f
  induction f with
  | zero => intro x l h; exact h
  | succ f ih =>
    intro x l ⟨h1, h2, h3, h4⟩
    refine ⟨by omega, h2, h3, fun hl => ?_⟩
    obtain ⟨a, b, c, d⟩ := h4 hl
    exact ⟨a, b, fun i i0 i1 => ih _ _ (c i i0 i1), d⟩

structure PartsInv (f : Nat) (l : List (Int × Int)) (M : MS) (i : Nat) (K C : List Int) (M' : MS) : Prop where
  max : M'.max = M.max
  cells : ∃ W, M'.c = M.c ++ W
  len : M'.c.length + sumN (layN f) l.length ((degree l.length).toNat - i) i = M.c.length + sumN (layN f) l.length (degree l.length).toNat 0
  hC : C.length = i
  hK : K.length = i - 1
  keys : ∀ p : Nat, 1 ≤ p → p < i → K.getD (p - 1) 0 = (l.getD (pfrom l.length p).toNat (0, 0)).1
  sub : ∀ c', M'.c <+: c' → ∀ p : Nat, p < i → Sub (atL c') M.c.length f (C.getD p 0) (part l p)

theorem parts_inv (f : Nat) (l : List (Int × Int)) (M : MS) (h2 : 2 ≤ l.length) (hl : l.length ≤ 16384) (hlay : ∀ (l' : List (Int × Int)) (M' : MS), l'.length < l.length → (M'.c.length : Int) + layN f l'.length ≤ M'.max → M'.max ≤ 65536 → Laid f l' M' (layF f l' M').1 (layF f l' M').2)
    (hroom : (M.c.length : Int) + sumN (layN f) l.length (degree l.length).toNat 0 ≤ M.max) (hmax : M.max ≤ 65536) :
    ∀ (g i : Nat) (K C : List Int) (M' : MS), g + i = (degree l.length).toNat → PartsInv f l M i K C M' → PartsInv f l M (degree l.length).toNat (partsF (layF f) l l.length g i K C M').1 (partsF (layF f) l l.length g i K C M').2.1 (partsF (layF f) l l.length g i K C M').2.2 := by
  intro g
  induction g with
  | zero =>
    intro i K C M' hg I
    have : i = (degree l.length).toNat := by omega
    subst this
    exact I
  | succ g ih =>
    intro i K C M' hg I
    obtain ⟨d1, d2, d3⟩ := degree_bd l.length (by omega) (by omega)
    have hi : (i : Int) < degree l.length := by omega
    obtain ⟨p0, p1, p2, p3⟩ := part_fits l.length i (by omega) (by omega) (by omega) hi
    have hpl := part_length l i h2 hl (by omega) hi
    have hlen := I.len
    rw [show (degree l.length).toNat - i = g + 1 from by omega] at hlen
    obtain ⟨T, hT⟩ : ∃ T, sumN (layN f) l.length (degree l.length).toNat 0 = T := ⟨_, rfl⟩
    rw [hT] at hlen hroom
    unfold sumN at hlen
    have hN : (part l i).length = (psize l.length i).toNat := by omega
    have L := hlay (part l i) M' (by omega) (by rw [hN, I.max]; omega) (by rw [I.max]; exact hmax)
    obtain ⟨W, hW, hWl⟩ := L.cells
    obtain ⟨W0, hW0⟩ := I.cells
    unfold partsF
    have hi1 : ((i + 1 : Nat) : Int) = (i : Int) + 1 := by omega
    rw [← hi1]
    refine ih (i + 1) _ _ _ (by omega) ⟨?_, ⟨W0 ++ W, ?_⟩, ?_, ?_, ?_, ?_, ?_⟩
    · exact L.max.trans I.max
    · show (layF f (part l i) M').2.c = _
      rw [hW, hW0, List.append_assoc]
    · show (layF f (part l i) M').2.c.length + _ = _
      rw [hT, hW, List.length_append, hWl, hN, show (degree l.length).toNat - (i + 1) = g from by omega, hi1]
      omega
    · simp [I.hC]
    · rcases (by omega : i = 0 ∨ 1 ≤ i) with h | h
      · subst h; rw [if_neg (by omega)]; simp [I.hK]
      · rw [if_pos (by omega)]; simp [I.hK]; omega
    · intro p hp1 hp2
      rw [if_pos (by omega)]
      rcases (by omega : p < i ∨ p = i) with h | h
      · have := I.keys p hp1 h
        rw [List.getD_eq_getElem?_getD, List.getElem?_append_left (by rw [I.hK]; omega), ← List.getD_eq_getElem?_getD]
        exact this
      · subst h
        rw [List.getD_eq_getElem?_getD, List.getElem?_append_right (by rw [I.hK]; omega), I.hK]
        simp
    · intro c' hc p hp
      have hc' : (layF f (part l i) M').2.c <+: c' := hc
      rcases (by omega : p < i ∨ p = i) with h | h
      · rw [List.getD_eq_getElem?_getD, List.getElem?_append_left (by rw [I.hC]; omega), ← List.getD_eq_getElem?_getD]
        refine I.sub c' ?_ p h
        rw [hW] at hc'
        exact (List.prefix_append _ _).trans hc'
      · subst h
        rw [List.getD_eq_getElem?_getD, List.getElem?_append_right (by rw [I.hC]; omega), I.hC]
        have hs := L.sub c' hc'
        simp only [Nat.sub_self, List.getElem?_cons_zero, Option.getD_some]
        refine sub_mono (by rw [hW0, List.length_append]; omega) f _ _ hs
theorem laid_of (f : Nat) : ∀ (l : List (Int × Int)) (M : MS), l.length < f → l.length ≤ 16384 → (M.c.length : Int) + layN f l.length ≤ M.max → M.max ≤ 65536 → Laid f l M (layF f l M).1 (layF f l M).2 := by
  induction f with
  | zero => intro l M h; omega
  | succ f ih =>
    intro l M hf hl hroom hmax
    unfold layN at hroom
    unfold layF
    rcases (by omega : l.length = 0 ∨ l.length = 1 ∨ 2 ≤ l.length) with h | h | h
    · rw [if_pos h]
      rw [if_pos h] at hroom
      obtain ⟨m1, m2, m3⟩ := make_fit M [0] (by simp) (by simp; omega)
      obtain ⟨k1, k2⟩ := kind_of 1 ((M.c.length : Int) + 1) (by omega) (by omega)
      refine ⟨m3, ⟨[0], m2, by unfold layN; rw [if_pos h]; rfl⟩, fun c' _ => ?_⟩
      rw [m1]
      exact ⟨by rw [k2]; omega, fun _ => k1, fun h' => by omega, fun h' => by omega⟩
    · rw [if_neg (by omega), if_pos h]
      rw [if_neg (by omega), if_pos h] at hroom
      obtain ⟨m1, m2, m3⟩ := make_fit M [(l.getD 0 (0, 0)).1, (l.getD 0 (0, 0)).2] (by simp) (by simp; omega)
      obtain ⟨k1, k2⟩ := kind_of 2 ((M.c.length : Int) + 1) (by omega) (by omega)
      refine ⟨m3, ⟨_, m2, by unfold layN; rw [if_neg (by omega), if_pos h]; rfl⟩, fun c' hc => ?_⟩
      rw [m2] at hc
      rw [m1]
      refine ⟨by rw [k2]; omega, fun h' => by omega, fun _ => ⟨k1, ?_, ?_⟩, fun h' => by omega⟩
      · rw [k2]; have := atL_mid _ _ c' 0 hc (by simp); simpa using this
      · rw [k2]; have := atL_mid _ _ c' 1 hc (by simp); simpa using this
    · rw [if_neg (by omega), if_neg (by omega)]
      rw [if_neg (by omega), if_neg (by omega)] at hroom
      obtain ⟨d1, d2, d3⟩ := degree_bd l.length (by omega) (by omega)
      have I := parts_inv f l M h hl (fun l' M' h1 h2 h3 => ih l' M' (by omega) (by omega) h2 h3) (by omega) hmax (degree l.length).toNat 0 [] [] M (by omega)
        ⟨rfl, ⟨[], by simp⟩, by simp, rfl, rfl, by omega, by omega⟩
      obtain ⟨P, hP⟩ : ∃ P, partsF (layF f) l l.length (degree l.length).toNat 0 [] [] M = P := ⟨_, rfl⟩
      replace I : PartsInv f l M (degree l.length).toNat (partsF (layF f) l l.length (degree l.length).toNat 0 [] [] M).1 (partsF (layF f) l l.length (degree l.length).toNat 0 [] [] M).2.1 (partsF (layF f) l l.length (degree l.length).toNat 0 [] [] M).2.2 := I
      dsimp only
      rw [hP] at I ⊢
      obtain ⟨K, C, M'⟩ := P
      simp only at I ⊢
      obtain ⟨W0, hW0⟩ := I.cells
      have hlen := I.len
      obtain ⟨T, hT⟩ : ∃ T, sumN (layN f) l.length (degree l.length).toNat 0 = T := ⟨_, rfl⟩
      rw [Nat.sub_self, hT] at hlen
      rw [hT] at hroom
      unfold sumN at hlen
      have hil : (innerW l.length K C).length = 4 + 2 * (degree l.length).toNat := by
        unfold innerW; simp [I.hK, I.hC]; omega
      obtain ⟨m1, m2, m3⟩ := make_fit M' (innerW l.length K C) (by unfold innerW; simp) (by rw [hil, I.max]; omega)
      have hlo : M.c.length ≤ M'.c.length := by rw [hW0]; simp
      obtain ⟨k1, k2⟩ := kind_of 3 ((M'.c.length : Int) + 1) (by omega) (by omega)
      refine ⟨m3.trans I.max, ⟨W0 ++ innerW l.length K C, by rw [m2, hW0, List.append_assoc], ?_⟩, fun c' hc => ?_⟩
      · have : W0.length + M.c.length = M'.c.length := by rw [hW0, List.length_append]; omega
        unfold layN
        rw [if_neg (by omega), if_neg (by omega), List.length_append, hil, hT]
        omega
      · rw [m2] at hc
        rw [m1]
        have hmid := fun j hj => atL_mid M'.c _ c' j hc hj
        have hsub := I.sub c' ((List.prefix_append _ _).trans hc)
        refine ⟨by rw [k2]; omega, fun h' => by omega, fun h' => by omega, fun _ => ⟨k1, ?_, ?_, ?_⟩⟩
        · rw [k2]
          have := hmid 0 (by rw [hil]; omega)
          rw [show (M'.c.length : Int) + 1 + ((0 : Nat) : Int) = (M'.c.length : Int) + 1 from by omega] at this
          rw [this]
          unfold innerW
          simp [I.hC]; omega
        · intro i i0 i1
          rw [k2]
          obtain ⟨p, rfl⟩ := Int.eq_ofNat_of_zero_le i0
          have := hmid (4 + (degree l.length).toNat + p) (by rw [hil]; omega)
          rw [show (M'.c.length : Int) + 1 + ((4 + (degree l.length).toNat + p : Nat) : Int) = (M'.c.length : Int) + 1 + 4 + degree l.length + p from by omega] at this
          rw [this]
          have hg : (innerW l.length K C).getD (4 + (degree l.length).toNat + p) 0 = C.getD p 0 := by
            unfold innerW
            rw [List.getD_eq_getElem?_getD, List.getD_eq_getElem?_getD, List.getElem?_append_right (by simp [I.hK]; omega)]
            congr 2
            simp [I.hK]; omega
          rw [hg]
          exact hsub p (by omega)
        · intro i i0 i1
          rw [k2]
          obtain ⟨p, rfl⟩ := Int.eq_ofNat_of_zero_le (show 0 ≤ i by omega)
          have := hmid (4 + p) (by rw [hil]; omega)
          rw [show (M'.c.length : Int) + 1 + ((4 + p : Nat) : Int) = (M'.c.length : Int) + 1 + 4 + p from by omega] at this
          rw [this]
          have hg : (innerW l.length K C).getD (4 + p) 0 = K.getD (p - 1) 0 := by
            unfold innerW
            rw [List.getD_eq_getElem?_getD, List.getD_eq_getElem?_getD, List.getElem?_append_left (by simp [I.hK]; omega), List.getElem?_append_right (by simp; omega)]
            congr 2
            simp; omega
          rw [hg]
          exact I.keys p (by omega) (by omega)
end Go.Proofs.Ytilkkfpfcegncaa.R
