/- The way of a seek through an Inner: plain functions alone. -/
import Derived.Test.YtilkkfpfcegncaaSimRoute
import Derived.Test.YtilkkfpfcegncaaPureSeek
set_option linter.unusedVariables false
namespace Go.Proofs.Ytilkkfpfcegncaa.R

theorem guess_lt (a b k n : Int) (h1 : 2 ≤ n) (h2 : n ≤ 65536) (h3 : a ≤ k) (h4 : k < b) : guess a b k n ≤ n - 1 := by
  unfold guess
  rw [if_neg (by omega)]
  have hg1 : gap a k = k - a := by unfold gap; rw [if_neg (by omega)]
  have hg2 : gap a b = b - a := by unfold gap; rw [if_neg (by omega)]
  rw [hg1, hg2]
  unfold share
  rw [if_neg (by omega), if_pos (by omega)]
  have hm : (k - a) * (n - 1) < (n - 1) * (b - a) := by
    rw [Int.mul_comm (n - 1)]
    exact Int.mul_lt_mul_of_pos_right (by omega) (by omega)
  have := Int.ediv_lt_of_lt_mul (show 0 < b - a by omega) hm
  omega

/-- How many steps are left of a route over d - 1 keys. -/
def rem (d : Int) (f : IR) : Int := if f.next = 0 then d else if f.next = 1 then d - 1 else if f.next = 2 then d - 2 else if f.next = 3 then d - 3 else if f.next = 4 then d - 1 - f.i else if f.next = 5 then f.i - 1 else 0
structure Rt (at_ : Int → Int) (a d k : Int) (f : IR) : Prop where
  ok : IRok f
  hn : f.n = a
  hk : f.k = k
  hd : f.next ≠ 0 → f.degree = d
  q2 : f.next = 2 → f.first = at_ (keyAt a 1) ∧ at_ (keyAt a 1) ≤ k
  q3 : f.next = 3 → at_ (keyAt a 1) ≤ k ∧ k < at_ (keyAt a (d - 1)) ∧ f.i ≤ d - 2
  q4 : f.next = 4 → at_ (keyAt a (f.i - 1)) ≤ k ∧ k < at_ (keyAt a (d - 1))
  q5 : f.next = 5 → at_ (keyAt a 1) ≤ k ∧ k < at_ (keyAt a (f.i + 1))
  q6 : f.next = 6 → (0 ≤ f.child ∧ f.child ≤ d - 1) ∧ (1 ≤ f.child → at_ (keyAt a f.child) ≤ k) ∧ (f.child < d - 1 → k < at_ (keyAt a (f.child + 1)))

theorem rt_fin {at_ : Int → Int} {a d k : Int} (f : IR) (c : Int) (h1 : f.n = a) (h2 : f.k = k) (h3 : f.degree = d) (hc : (0 ≤ c ∧ c ≤ d - 1) ∧ (1 ≤ c → at_ (keyAt a c) ≤ k) ∧ (c < d - 1 → k < at_ (keyAt a (c + 1)))) : Rt at_ a d k (f.fin c) ∧ rem d (f.fin c) = 0 := by
  unfold IR.fin
  refine ⟨⟨ok_fin f c, h1, h2, fun _ => h3, fun h => absurd (show (6 : Int) = 2 from h) (by decide), fun h => absurd (show (6 : Int) = 3 from h) (by decide), fun h => absurd (show (6 : Int) = 4 from h) (by decide), fun h => absurd (show (6 : Int) = 5 from h) (by decide), fun _ => hc⟩, rfl⟩
theorem rt_up {at_ : Int → Int} {a d k : Int} (f : IR) (i : Int) (h1 : f.n = a) (h2 : f.k = k) (h3 : f.degree = d) (hd : 2 ≤ d ∧ d ≤ 65537) (hi : 2 ≤ i ∧ i ≤ d - 1) (hl : at_ (keyAt a (i - 1)) ≤ k) (hr : k < at_ (keyAt a (d - 1))) :
    Rt at_ a d k (f.up i) ∧ rem d (f.up i) ≤ (if i < d - 1 then d - 1 - i else 0) := by
  have hk : f.keys = d - 1 := by unfold IR.keys; rw [h3]; exact w64_id _ (by omega) (by omega)
  have ho := ok_up f i (by omega) hi.1
  unfold IR.up at ho ⊢
  rw [hk] at ho ⊢
  by_cases h : d - 1 ≤ i
  · rw [if_pos h, if_neg (by omega)]
    have e : i = d - 1 := by omega
    rw [w64_id _ (by omega) (by omega)]
    obtain ⟨x, y⟩ := rt_fin (at_ := at_) (a := a) (d := d) (k := k) ({ f with next := 4, i := i } : IR) (d - 1 - 1) h1 h2 h3 ⟨by omega, fun _ => by rw [← e]; exact hl, fun _ => by rw [show d - 1 - 1 + 1 = d - 1 from by omega]; exact hr⟩
    exact ⟨x, by omega⟩
  · rw [if_neg h] at ho ⊢
    rw [if_pos (by omega)]
    refine ⟨⟨ho, h1, h2, fun _ => h3, fun h => absurd (show (4 : Int) = 2 from h) (by decide), fun h => absurd (show (4 : Int) = 3 from h) (by decide), fun _ => ⟨hl, hr⟩, fun h => absurd (show (4 : Int) = 5 from h) (by decide), fun h => absurd (show (4 : Int) = 6 from h) (by decide)⟩, ?_⟩
    show d - 1 - i ≤ _
    omega
theorem rt_down {at_ : Int → Int} {a d k : Int} (f : IR) (i : Int) (h1 : f.n = a) (h2 : f.k = k) (h3 : f.degree = d) (hd : 2 ≤ d ∧ d ≤ 65537) (hi : 1 ≤ i ∧ i < d - 1) (hl : at_ (keyAt a 1) ≤ k) (hr : k < at_ (keyAt a (i + 1))) :
    Rt at_ a d k (f.down i) ∧ rem d (f.down i) ≤ i - 1 := by
  have ho := ok_down f i (by omega) (by omega)
  unfold IR.down at ho ⊢
  by_cases h : i ≤ 1
  · rw [if_pos h]
    have e : i = 1 := by omega
    obtain ⟨x, y⟩ := rt_fin (at_ := at_) (a := a) (d := d) (k := k) ({ f with next := 5, i := i } : IR) 1 h1 h2 h3 ⟨by omega, fun _ => hl, fun _ => by rw [e] at hr; exact hr⟩
    exact ⟨x, by omega⟩
  · rw [if_neg h] at ho ⊢
    refine ⟨⟨ho, h1, h2, fun _ => h3, fun h => absurd (show (5 : Int) = 2 from h) (by decide), fun h => absurd (show (5 : Int) = 3 from h) (by decide), fun h => absurd (show (5 : Int) = 4 from h) (by decide), fun _ => ⟨hl, hr⟩, fun h => absurd (show (5 : Int) = 6 from h) (by decide)⟩, ?_⟩
    show i - 1 ≤ i - 1
    omega

theorem rt_step {at_ : Int → Int} {a d k : Int} {f : IR} (R : Rt at_ a d k f) (h6 : f.next ≠ 6) (hd : at_ a = d) (hd1 : 1 ≤ d ∧ d ≤ 65537) :
    Rt at_ a d k (f.step (at_ f.addr)) ∧ rem d (f.step (at_ f.addr)) + 1 ≤ rem d f := by
  have r := R.ok.range
  obtain rfl : f.n = a := R.hn
  obtain rfl : f.k = k := R.hk
  unfold IR.addr IR.step
  by_cases h0 : f.next = 0
  · have e : rem d f = d := by unfold rem; rw [if_pos h0]
    rw [if_pos h0, if_pos h0, hd, e]
    split
    · obtain ⟨x, y⟩ := rt_fin (at_ := at_) (a := f.n) (d := d) (k := f.k) ({ f with degree := d, next := 1, i := 1 } : IR) 0 R.hn R.hk rfl ⟨by omega, by omega, by omega⟩
      exact ⟨x, by omega⟩
    · refine ⟨⟨?_, R.hn, R.hk, fun _ => rfl, fun h => absurd (show (1 : Int) = 2 from h) (by decide), fun h => absurd (show (1 : Int) = 3 from h) (by decide), fun h => absurd (show (1 : Int) = 4 from h) (by decide), fun h => absurd (show (1 : Int) = 5 from h) (by decide), fun h => absurd (show (1 : Int) = 6 from h) (by decide)⟩, ?_⟩
      · constructor <;> simp <;> omega
      · show d - 1 + 1 ≤ d; omega
  rw [if_neg h0, if_neg h0]
  have hdeg := R.hd h0
  have hd2 := R.ok.deg h0 h6
  have hk : f.keys = d - 1 := by unfold IR.keys; rw [hdeg]; exact w64_id _ (by omega) (by omega)
  rw [hdeg] at hd2
  unfold IR.key
  rw [hk]
  by_cases h1 : f.next = 1
  · have e : rem d f = d - 1 := by unfold rem; rw [if_neg h0, if_pos h1]
    have hi := R.ok.n1 h1
    rw [if_pos h1, e, hi]
    by_cases c1 : f.k < at_ (keyAt f.n 1)
    · rw [if_pos c1]
      obtain ⟨x, y⟩ := rt_fin (at_ := at_) (a := f.n) (d := d) (k := f.k) ({ f with first := at_ (keyAt f.n 1), next := 2, i := d - 1 } : IR) 0 R.hn R.hk hdeg ⟨by omega, by omega, fun _ => c1⟩
      exact ⟨x, by omega⟩
    rw [if_neg c1]
    by_cases c2 : d - 1 = 1
    · rw [if_pos c2]
      obtain ⟨x, y⟩ := rt_fin (at_ := at_) (a := f.n) (d := d) (k := f.k) ({ f with first := at_ (keyAt f.n 1), next := 2, i := d - 1 } : IR) 1 R.hn R.hk hdeg ⟨by omega, fun _ => by omega, by omega⟩
      exact ⟨x, by omega⟩
    rw [if_neg c2]
    refine ⟨⟨?_, R.hn, R.hk, fun _ => hdeg, fun _ => ⟨rfl, by omega⟩, fun h => absurd (show (2 : Int) = 3 from h) (by decide), fun h => absurd (show (2 : Int) = 4 from h) (by decide), fun h => absurd (show (2 : Int) = 5 from h) (by decide), fun h => absurd (show (2 : Int) = 6 from h) (by decide)⟩, ?_⟩
    · have := R.hk; constructor <;> simp <;> omega
    · show d - 2 + 1 ≤ d - 1; omega
  rw [if_neg h1]
  by_cases h2 : f.next = 2
  · have e : rem d f = d - 2 := by unfold rem; rw [if_neg h0, if_neg h1, if_pos h2]
    obtain ⟨i1, i2, i3⟩ := R.ok.n2 h2
    obtain ⟨f1, f2⟩ := R.q2 h2
    rw [if_pos h2, e, i1, hdeg]
    by_cases c1 : f.k < at_ (keyAt f.n (d - 1))
    · rw [if_pos c1]
      have g1 := guess_pos f.first (at_ (keyAt f.n (d - 1))) f.k (d - 1) (by omega) (by omega) (by omega) c1
      have g2 := guess_lt f.first (at_ (keyAt f.n (d - 1))) f.k (d - 1) (by omega) (by omega) (by omega) c1
      unfold IR.guess
      rw [hk]
      by_cases c2 : 1 < guess f.first (at_ (keyAt f.n (d - 1))) f.k (d - 1)
      · rw [if_pos c2]
        refine ⟨⟨?_, R.hn, R.hk, fun _ => hdeg, fun h => absurd (show (3 : Int) = 2 from h) (by decide), fun _ => ⟨f2, c1, by show guess _ _ _ _ ≤ d - 2; omega⟩, fun h => absurd (show (3 : Int) = 4 from h) (by decide), fun h => absurd (show (3 : Int) = 5 from h) (by decide), fun h => absurd (show (3 : Int) = 6 from h) (by decide)⟩, ?_⟩
        · constructor <;> simp <;> omega
        · show d - 3 + 1 ≤ d - 2; omega
      · rw [if_neg c2]
        obtain ⟨x, y⟩ := rt_up f 2 R.hn R.hk hdeg (by omega) (by omega) (by show at_ (keyAt f.n (2 - 1)) ≤ f.k; exact f2) c1
        refine ⟨x, ?_⟩
        split at y <;> omega
    · rw [if_neg c1]
      obtain ⟨x, y⟩ := rt_fin (at_ := at_) (a := f.n) (d := d) (k := f.k) f (d - 1) R.hn R.hk hdeg ⟨by omega, fun _ => by omega, by omega⟩
      exact ⟨x, by omega⟩
  rw [if_neg h2]
  by_cases h3 : f.next = 3
  · have e : rem d f = d - 3 := by unfold rem; rw [if_neg h0, if_neg h1, if_neg h2, if_pos h3]
    obtain ⟨i1, i2⟩ := R.ok.n3 h3
    obtain ⟨f1, f2, f3⟩ := R.q3 h3
    rw [if_pos h3, e, w64_id _ (by omega) (by omega), w64_id _ (by omega) (by omega)]
    by_cases c1 : f.k < at_ (keyAt f.n f.i)
    · rw [if_pos c1]
      obtain ⟨x, y⟩ := rt_down f (f.i - 1) R.hn R.hk hdeg (by omega) (by omega) f1 (by rw [show f.i - 1 + 1 = f.i from by omega]; exact c1)
      exact ⟨x, by omega⟩
    · rw [if_neg c1]
      obtain ⟨x, y⟩ := rt_up f (f.i + 1) R.hn R.hk hdeg (by omega) (by omega) (by rw [show f.i + 1 - 1 = f.i from by omega]; omega) f2
      refine ⟨x, ?_⟩
      split at y <;> omega
  rw [if_neg h3]
  by_cases h4 : f.next = 4
  · have e : rem d f = d - 1 - f.i := by unfold rem; rw [if_neg h0, if_neg h1, if_neg h2, if_neg h3, if_pos h4]
    obtain ⟨i1, i2⟩ := R.ok.n4 h4
    obtain ⟨f1, f2⟩ := R.q4 h4
    rw [if_pos h4, e, w64_id _ (by omega) (by omega), w64_id _ (by omega) (by omega)]
    by_cases c1 : f.k < at_ (keyAt f.n f.i)
    · rw [if_pos c1]
      obtain ⟨x, y⟩ := rt_fin (at_ := at_) (a := f.n) (d := d) (k := f.k) f (f.i - 1) R.hn R.hk hdeg ⟨by omega, fun _ => f1, fun _ => by rw [show f.i - 1 + 1 = f.i from by omega]; exact c1⟩
      exact ⟨x, by omega⟩
    · rw [if_neg c1]
      obtain ⟨x, y⟩ := rt_up f (f.i + 1) R.hn R.hk hdeg (by omega) (by omega) (by rw [show f.i + 1 - 1 = f.i from by omega]; omega) f2
      refine ⟨x, ?_⟩
      split at y <;> omega
  rw [if_neg h4]
  have h5 : f.next = 5 := by omega
  have e : rem d f = f.i - 1 := by unfold rem; rw [if_neg h0, if_neg h1, if_neg h2, if_neg h3, if_neg h4, if_pos h5]
  obtain ⟨i1, i2⟩ := R.ok.n5 h5
  obtain ⟨f1, f2⟩ := R.q5 h5
  rw [if_pos h5, e, w64_id _ (by omega) (by omega)]
  by_cases c1 : f.k < at_ (keyAt f.n f.i)
  · rw [if_pos c1]
    obtain ⟨x, y⟩ := rt_down f (f.i - 1) R.hn R.hk hdeg (by omega) (by omega) f1 (by rw [show f.i - 1 + 1 = f.i from by omega]; exact c1)
    exact ⟨x, by omega⟩
  · rw [if_neg c1]
    obtain ⟨x, y⟩ := rt_fin (at_ := at_) (a := f.n) (d := d) (k := f.k) f f.i R.hn R.hk hdeg ⟨by omega, fun _ => by omega, fun _ => f2⟩
    exact ⟨x, by omega⟩
end Go.Proofs.Ytilkkfpfcegncaa.R
