/- The program's route goes as the document's, step by step: plain functions alone. -/
import Derived.Test.YtilkkfpfcegncaaNum
set_option linter.unusedVariables false
namespace Go.Proofs.Ytilkkfpfcegncaa.R

/-- It stands ahead of a Read. -/
def endAt (s : RS) (a : Int) : RS := { s with off := true, next := ⟨1, a, 0, 0, []⟩ }
def more (s : RS) : RS := { s with pos := s.pos + 1 }
def told (s : RS) : Int := s.tape.getD s.pos 0
theorem read_told (a : Int) (s : RS) (h : s.off = false) (hp : s.pos < s.tape.length) : read a s = (told s, more s) := by
  unfold read ask; rw [if_neg (by rw [h]; decide), if_pos hp]; rfl
theorem read_end (a : Int) (s : RS) (h : s.off = false) (hp : ¬ s.pos < s.tape.length) : read a s = (0, endAt s a) := by
  unfold read ask; rw [if_neg (by rw [h]; decide), if_neg hp]; rfl
theorem read_off (a : Int) (s : RS) (h : s.off = true) : read a s = (0, s) := by
  unfold read ask; rw [if_pos h]

theorem w64_id (n : Int) (h1 : -9223372036854775808 ≤ n) (h2 : n ≤ 9223372036854775807) : w64 n = n := by unfold w64; omega
theorem guess_pos (a b k n : Int) (h1 : 2 ≤ n) (h2 : n ≤ 65536) (h3 : a ≤ k) (h4 : k < b) : 1 ≤ guess a b k n := by
  unfold guess
  rw [if_neg (by omega)]
  have := share_bd (gap a k) (gap a b) (n - 1) (by unfold gap; split <;> omega) (by unfold gap; split <;> omega) (by omega)
  omega

/-- What the program's route knows is right. -/
structure IRok (f : IR) : Prop where
  range : 0 ≤ f.next ∧ f.next ≤ 6
  deg : f.next ≠ 0 → f.next ≠ 6 → 2 ≤ f.degree ∧ f.degree ≤ 65537
  n1 : f.next = 1 → f.i = 1
  n2 : f.next = 2 → f.i = f.degree - 1 ∧ 3 ≤ f.degree ∧ f.first ≤ f.k
  n3 : f.next = 3 → 2 ≤ f.i ∧ f.i ≤ f.degree - 1
  n4 : f.next = 4 → 2 ≤ f.i ∧ f.i < f.degree - 1
  n5 : f.next = 5 → 2 ≤ f.i ∧ f.i ≤ f.degree - 1

def pair (d : Int) (x : Int × RS) : (Int × Int) × RS := ((d, x.1), x.2)
def residLast (n k m first : Int) (s : RS) : Int × RS :=
  if (read (keyAt n m) s).1 ≤ k then (m, (read (keyAt n m) s).2) else routeKeys.routeGuess n k m (guess first (read (keyAt n m) s).1 k m) (read (keyAt n m) s).2
def residGuess (n k m j : Int) (s : RS) : Int × RS :=
  if k < (read (keyAt n j) s).1 then down n k (j - 1).toNat (j - 1) (read (keyAt n j) s).2 else up n k m (m - (j + 1)).toNat (j + 1) (read (keyAt n j) s).2
/-- What is left of the document's route, where the program's stands. -/
def resid (f : IR) (s : RS) : (Int × Int) × RS :=
  if f.next = 0 then route f.n f.k s
  else if f.next = 1 then pair f.degree (routeKeys f.n f.k (f.degree - 1) s)
  else if f.next = 2 then pair f.degree (residLast f.n f.k (f.degree - 1) f.first s)
  else if f.next = 3 then pair f.degree (residGuess f.n f.k (f.degree - 1) f.i s)
  else if f.next = 4 then pair f.degree (up f.n f.k (f.degree - 1) (f.degree - 1 - f.i).toNat f.i s)
  else if f.next = 5 then pair f.degree (down f.n f.k f.i.toNat f.i s)
  else ((f.degree, f.child), s)

theorem down_off (n k : Int) (s : RS) (h : s.off = true) : ∀ f i, (down n k f i s).2 = s := by
  intro f i; cases f <;> unfold down
  · rfl
  · rw [if_neg (by rw [h]; simp)]
theorem up_off (n k m : Int) (s : RS) (h : s.off = true) : ∀ f i, (up n k m f i s).2 = s := by
  intro f i; cases f <;> unfold up
  · rfl
  · rw [if_neg (by rw [h]; simp)]
theorem guess_off (n k m j : Int) (s : RS) (h : s.off = true) : (routeKeys.routeGuess n k m j s).2 = s := by
  unfold routeKeys.routeGuess; rw [if_pos (.inl h)]
theorem keys_off (n k m : Int) (s : RS) (h : s.off = true) : (routeKeys n k m s).2 = s := by
  unfold routeKeys
  simp only [read_off _ s h]
  split
  · rfl
  split
  · rfl
  split
  · rfl
  split
  · rfl
  · exact guess_off _ _ _ _ _ h

theorem resid_end (f : IR) (s : RS) (I : IRok f) (h6 : f.next ≠ 6) (ho : s.off = false) (hp : ¬ s.pos < s.tape.length) : (resid f s).2 = endAt s f.addr := by
  have r := I.range
  have hoff : ∀ a, (endAt s a).off = true := fun _ => rfl
  unfold resid IR.addr
  by_cases h0 : f.next = 0
  · rw [if_pos h0, if_pos h0]
    unfold route
    rw [read_end _ s ho hp]
    exact keys_off _ _ _ _ rfl
  rw [if_neg h0, if_neg h0]
  by_cases h1 : f.next = 1
  · have hd := I.deg h0 h6
    rw [if_pos h1, I.n1 h1]
    unfold pair routeKeys
    rw [if_neg (by omega), read_end _ s ho hp]
    simp only [read_off _ (endAt s _) rfl]
    split
    · rfl
    split
    · rfl
    split
    · rfl
    · exact guess_off _ _ _ _ _ rfl
  rw [if_neg h1]
  by_cases h2 : f.next = 2
  · rw [if_pos h2, (I.n2 h2).1]
    unfold pair residLast
    rw [read_end _ s ho hp]
    split
    · rfl
    · exact guess_off _ _ _ _ _ rfl
  rw [if_neg h2]
  by_cases h3 : f.next = 3
  · rw [if_pos h3]
    unfold pair residGuess
    rw [read_end _ s ho hp]
    split
    · exact down_off _ _ _ rfl _ _
    · exact up_off _ _ _ _ rfl _ _
  rw [if_neg h3]
  by_cases h4 : f.next = 4
  · have := I.n4 h4
    rw [if_pos h4, show (f.degree - 1 - f.i).toNat = (f.degree - 1 - f.i - 1).toNat + 1 from by omega]
    unfold pair up
    rw [if_pos ⟨by omega, ho⟩, read_end _ s ho hp]
    split
    · rfl
    · exact up_off _ _ _ _ rfl _ _
  rw [if_neg h4]
  have h5 : f.next = 5 := by omega
  have := I.n5 h5
  rw [if_pos h5, show f.i.toNat = (f.i - 1).toNat + 1 from by omega]
  unfold pair down
  rw [if_pos ⟨by omega, ho⟩, read_end _ s ho hp]
  split
  · rfl
  · exact down_off _ _ _ rfl _ _

theorem resid_fin (f : IR) (c : Int) (s : RS) : resid (f.fin c) s = ((f.degree, c), s) := by
  unfold resid IR.fin; rfl
theorem resid_up (f : IR) (i : Int) (s : RS) (hd : 2 ≤ f.degree ∧ f.degree ≤ 65537) (hi : 2 ≤ i ∧ i ≤ 65540) : resid (f.up i) s = pair f.degree (up f.n f.k (f.degree - 1) (f.degree - 1 - i).toNat i s) := by
  have hk : f.keys = f.degree - 1 := by unfold IR.keys; exact w64_id _ (by omega) (by omega)
  unfold IR.up
  rw [hk]
  split
  · rw [resid_fin, show (f.degree - 1 - i).toNat = 0 from by omega, w64_id _ (by omega) (by omega)]
    rfl
  · unfold resid; rfl
theorem resid_down (f : IR) (i : Int) (s : RS) (hi : 1 ≤ i) : resid (f.down i) s = pair f.degree (down f.n f.k i.toNat i s) := by
  unfold IR.down
  split
  · rw [resid_fin, show i.toNat = 0 + 1 from by omega]
    unfold down
    rw [if_neg (by omega)]
    rfl
  · unfold resid; rfl
theorem ok_fin (f : IR) (c : Int) : IRok (f.fin c) := by
  unfold IR.fin
  constructor <;> simp
theorem ok_up (f : IR) (i : Int) (hd : 2 ≤ f.degree ∧ f.degree ≤ 65537) (hi : 2 ≤ i) : IRok (f.up i) := by
  have hk : f.keys = f.degree - 1 := by unfold IR.keys; exact w64_id _ (by omega) (by omega)
  unfold IR.up
  rw [hk]
  split
  · exact ok_fin _ _
  · constructor <;> simp <;> omega
theorem ok_down (f : IR) (i : Int) (hd : 2 ≤ f.degree ∧ f.degree ≤ 65537) (hi : i ≤ f.degree - 1) : IRok (f.down i) := by
  unfold IR.down
  split
  · exact ok_fin _ _
  · constructor <;> simp <;> omega

theorem resid_told (f : IR) (s : RS) (I : IRok f) (h6 : f.next ≠ 6) (ho : s.off = false) (hp : s.pos < s.tape.length) (hd0 : f.next = 0 → 1 ≤ told s ∧ told s ≤ 65537) :
    resid f s = resid (f.step (told s)) (more s) ∧ IRok (f.step (told s)) := by
  have r := I.range
  unfold IR.step
  by_cases h0 : f.next = 0
  · have hv := hd0 h0
    rw [if_pos h0]
    have e : resid f s = ((told s, (routeKeys f.n f.k (told s - 1) (more s)).1), (routeKeys f.n f.k (told s - 1) (more s)).2) := by
      unfold resid route
      rw [if_pos h0, read_told _ s ho hp]
      simp only []
      rw [w64_id _ (by omega) (by omega)]
    rw [e]
    split
    · refine ⟨?_, ok_fin _ _⟩
      rw [resid_fin]
      unfold routeKeys
      rw [if_pos (by omega)]
    · refine ⟨rfl, ?_⟩
      constructor <;> simp <;> omega
  rw [if_neg h0]
  have hd := I.deg h0 h6
  have hk : f.keys = f.degree - 1 := by unfold IR.keys; exact w64_id _ (by omega) (by omega)
  unfold IR.key
  rw [hk]
  by_cases h1 : f.next = 1
  · rw [if_pos h1]
    have e : resid f s = pair f.degree (routeKeys f.n f.k (f.degree - 1) s) := by unfold resid; rw [if_neg h0, if_pos h1]
    rw [e]
    unfold routeKeys
    rw [if_neg (by omega), read_told _ s ho hp]
    by_cases c1 : f.k < told s
    · rw [if_pos c1, if_pos c1]
      exact ⟨by rw [resid_fin]; rfl, ok_fin _ _⟩
    rw [if_neg c1, if_neg c1]
    by_cases c2 : f.degree - 1 = 1
    · rw [if_pos c2, if_pos c2]
      exact ⟨by rw [resid_fin]; rfl, ok_fin _ _⟩
    rw [if_neg c2, if_neg c2]
    refine ⟨rfl, ?_⟩
    constructor <;> simp <;> omega
  rw [if_neg h1]
  by_cases h2 : f.next = 2
  · have h2' := I.n2 h2
    rw [if_pos h2]
    have e : resid f s = pair f.degree (residLast f.n f.k (f.degree - 1) f.first s) := by unfold resid; rw [if_neg h0, if_neg h1, if_pos h2]
    rw [e]
    unfold residLast
    rw [read_told _ s ho hp]
    simp only []
    by_cases c1 : f.k < told s
    · rw [if_pos c1, if_neg (by omega)]
      have g1 := guess_pos f.first (told s) f.k (f.degree - 1) (by omega) (by omega) h2'.2.2 c1
      have g2 := (guess_bd f.first (told s) f.k (f.degree - 1)).2.2 (by omega)
      unfold IR.guess routeKeys.routeGuess
      rw [hk, if_neg (by rw [show (more s).off = s.off from rfl, ho]; simp; omega)]
      by_cases c2 : 1 < guess f.first (told s) f.k (f.degree - 1)
      · rw [if_pos c2, if_pos c2]
        refine ⟨rfl, ?_⟩
        constructor <;> simp <;> omega
      · rw [if_neg c2, if_neg c2]
        have : guess f.first (told s) f.k (f.degree - 1) = 1 := by omega
        rw [this]
        exact ⟨(resid_up f 2 _ hd (by omega)).symm, ok_up f 2 hd (by omega)⟩
    · rw [if_neg c1, if_pos (by omega)]
      exact ⟨by rw [resid_fin]; rfl, ok_fin _ _⟩
  rw [if_neg h2]
  by_cases h3 : f.next = 3
  · have h3' := I.n3 h3
    rw [if_pos h3, w64_id _ (by omega) (by omega), w64_id _ (by omega) (by omega)]
    have e : resid f s = pair f.degree (residGuess f.n f.k (f.degree - 1) f.i s) := by unfold resid; rw [if_neg h0, if_neg h1, if_neg h2, if_pos h3]
    rw [e]
    unfold residGuess
    rw [read_told _ s ho hp]
    simp only []
    by_cases c1 : f.k < told s
    · rw [if_pos c1, if_pos c1]
      exact ⟨(resid_down f _ _ (by omega)).symm, ok_down f _ hd (by omega)⟩
    · rw [if_neg c1, if_neg c1]
      exact ⟨(resid_up f _ _ hd (by omega)).symm, ok_up f _ hd (by omega)⟩
  rw [if_neg h3]
  by_cases h4 : f.next = 4
  · have h4' := I.n4 h4
    rw [if_pos h4, w64_id _ (by omega) (by omega), w64_id _ (by omega) (by omega)]
    have e : resid f s = pair f.degree (up f.n f.k (f.degree - 1) ((f.degree - 1 - (f.i + 1)).toNat + 1) f.i s) := by
      unfold resid; rw [if_neg h0, if_neg h1, if_neg h2, if_neg h3, if_pos h4, show (f.degree - 1 - f.i).toNat = (f.degree - 1 - (f.i + 1)).toNat + 1 from by omega]
    rw [e]
    unfold up
    rw [if_pos ⟨by omega, ho⟩, read_told _ s ho hp]
    simp only []
    by_cases c1 : f.k < told s
    · rw [if_pos c1, if_pos c1]
      exact ⟨by rw [resid_fin]; rfl, ok_fin _ _⟩
    · rw [if_neg c1, if_neg c1]
      exact ⟨(resid_up f _ _ hd (by omega)).symm, ok_up f _ hd (by omega)⟩
  rw [if_neg h4]
  have h5 : f.next = 5 := by omega
  have h5' := I.n5 h5
  rw [if_pos h5, w64_id _ (by omega) (by omega)]
  have e : resid f s = pair f.degree (down f.n f.k ((f.i - 1).toNat + 1) f.i s) := by
    unfold resid; rw [if_neg h0, if_neg h1, if_neg h2, if_neg h3, if_neg h4, if_pos h5, show f.i.toNat = (f.i - 1).toNat + 1 from by omega]
  rw [e]
  unfold down
  rw [if_pos ⟨by omega, ho⟩, read_told _ s ho hp]
  simp only []
  by_cases c1 : f.k < told s
  · rw [if_pos c1, if_neg (by omega)]
    exact ⟨(resid_down f _ _ (by omega)).symm, ok_down f _ hd (by omega)⟩
  · rw [if_neg c1, if_pos (by omega)]
    exact ⟨by rw [resid_fin]; rfl, ok_fin _ _⟩
end Go.Proofs.Ytilkkfpfcegncaa.R
