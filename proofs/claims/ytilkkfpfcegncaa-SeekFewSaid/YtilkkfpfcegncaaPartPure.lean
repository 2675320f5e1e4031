/- Roots, degrees, parts: plain functions. -/
import Derived.Test.YtilkkfpfcegncaaPure
set_option linter.unusedVariables false
namespace Go.Proofs.Ytilkkfpfcegncaa.R

def rootF (n : Nat) : Nat → Nat
  | 0 => 0
  | r + 1 => if (r + 1) * (r + 1) ≤ n then r + 1 else rootF n r
/-- The square root, rounded down (of numbers below 66049). -/
def root (n : Int) : Int := (rootF n.toNat 256 : Nat)
theorem rootF_eq (n : Nat) : ∀ (f r : Nat), r ≤ f → r * r ≤ n → n < (r + 1) * (r + 1) → rootF n f = r
  | 0, r, h, _, _ => by have : r = 0 := by omega
                        subst this; rfl
  | f + 1, r, h, h1, h2 => by
    unfold rootF
    by_cases hc : (f + 1) * (f + 1) ≤ n
    · rw [if_pos hc]
      rcases Nat.lt_or_ge r (f + 1) with h3 | h3
      · exfalso
        have h3' : r + 1 ≤ f + 1 := h3
        have := Nat.mul_le_mul h3' h3'
        omega
      · omega
    · rw [if_neg hc]
      have : r ≠ f + 1 := by rintro rfl; exact hc h1
      exact rootF_eq n f r (by omega) h1 h2
theorem root_eq (n r : Int) (hn : n ≤ 65535) (h0 : 0 ≤ r) (h1 : r * r ≤ n) (h2 : n < (r + 1) * (r + 1)) : root n = r := by
  obtain ⟨r, rfl⟩ := Int.eq_ofNat_of_zero_le h0
  have hn0 : 0 ≤ n := Int.le_trans (Int.mul_nonneg h0 h0) h1
  obtain ⟨n, rfl⟩ := Int.eq_ofNat_of_zero_le hn0
  have h1' : r * r ≤ n := by have : ((r * r : Nat) : Int) ≤ (n : Int) := by simpa using h1
                             omega
  have h2' : n < (r + 1) * (r + 1) := by have : (n : Int) < (((r + 1) * (r + 1) : Nat) : Int) := by simpa using h2
                                         omega
  have hr : r ≤ 256 := by
    rcases Nat.lt_or_ge 256 r with h | h
    · have := Nat.mul_le_mul h h
      omega
    · exact h
  unfold root
  rw [Int.toNat_natCast, rootF_eq n 256 r hr h1' h2']
theorem rootF_le (n : Nat) : ∀ f, rootF n f ≤ f ∧ rootF n f * rootF n f ≤ n
  | 0 => ⟨Nat.le_refl _, by show 0 * 0 ≤ n; omega⟩
  | f + 1 => by
    unfold rootF
    split
    · exact ⟨Nat.le_refl _, by assumption⟩
    · have := rootF_le n f; exact ⟨by omega, this.2⟩
def degree (n : Int) : Int := if n < 2 ∨ 16384 < n then 0 else if root n ≤ 2 then 2 else root n
def psize (n i : Int) : Int := if i < 0 ∨ degree n ≤ i then 0 else if i < n % degree n then n / degree n + 1 else n / degree n
def pfrom (n i : Int) : Int := if i < 0 ∨ degree n ≤ i then 0 else n / degree n * i + min i (n % degree n)
theorem root_bd (n : Int) (h : 0 ≤ n) : 0 ≤ root n ∧ root n ≤ 256 ∧ root n * root n ≤ n := by
  obtain ⟨m, rfl⟩ := Int.eq_ofNat_of_zero_le h
  unfold root
  rw [Int.toNat_natCast]
  obtain ⟨h1, h2⟩ := rootF_le m 256
  refine ⟨by omega, by omega, ?_⟩
  have : ((rootF m 256 * rootF m 256 : Nat) : Int) ≤ (m : Int) := by omega
  simpa using this
theorem degree_bd (n : Int) (h : 2 ≤ n) (h' : n ≤ 16384) : 2 ≤ degree n ∧ degree n ≤ 256 ∧ degree n ≤ n := by
  unfold degree
  rw [if_neg (by omega)]
  obtain ⟨h1, h2, h3⟩ := root_bd n (by omega)
  split
  · omega
  · refine ⟨by omega, by omega, ?_⟩
    have := Int.mul_le_mul (show 1 ≤ root n by omega) (Int.le_refl (root n)) h1 (by omega)
    omega
theorem psize_le (n i : Int) (h : 2 ≤ n) (h' : n ≤ 16384) : 0 ≤ psize n i ∧ psize n i < n := by
  obtain ⟨d1, d2, d3⟩ := degree_bd n h h'
  unfold psize
  have hd : n / degree n ≤ n / 2 := by
    obtain ⟨d, hd⟩ : ∃ d, degree n = d := ⟨_, rfl⟩
    rw [hd] at d1 ⊢
    have e1 := Int.ediv_mul_le n (show d ≠ 0 by omega)
    have e2 : 0 ≤ n / d := Int.ediv_nonneg (by omega) (by omega)
    have e3 := Int.mul_le_mul_of_nonneg_left d1 e2
    omega
  have hd0 : 0 ≤ n / degree n := Int.ediv_nonneg (by omega) (by omega)
  split
  · omega
  split
  · rename_i h1 h2
    refine ⟨by omega, ?_⟩
    rcases (by omega : n = 2 ∨ 3 ≤ n) with rfl | h3
    · have : degree 2 = 2 := by omega
      rw [this] at h2
      omega
    · omega
  · omega
def cellsF : Nat → Int → Int
  | 0, _ => 0
  | f + 1, n => if n < 0 ∨ 16384 < n then 0 else if n = 0 then 1 else if n = 1 then 2 else
    let all := w64 (w64 (4 + 2 * degree n) + w64 ((degree n - n % degree n) * cellsF f (n / degree n)))
    if 0 < n % degree n then w64 (all + w64 (n % degree n * cellsF f (n / degree n + 1))) else all
def depthF : Nat → Int → Int
  | 0, _ => 0
  | f + 1, n => if degree n = 0 then 0 else
    let deep := depthF f (n / degree n)
    w64 (1 + if 0 < n % degree n then max deep (depthF f (n / degree n + 1)) else deep)
/-- Of how many cells an ideal tree over n keys is. -/
def cells (n : Int) : Int := cellsF (n.toNat + 1) n
def depth (n : Int) : Int := depthF (n.toNat + 1) n
/-- A number of keys, parted. -/
theorem parted (n : Int) (h : 2 ≤ n) (h' : n ≤ 16384) : ∃ d Q r : Int, degree n = d ∧ n / d = Q ∧ n % d = r ∧ n.tdiv d = Q ∧ n.tmod d = r ∧ 2 ≤ d ∧ d ≤ 256 ∧ d ≤ n ∧ 0 ≤ Q ∧ Q ≤ 8192 ∧ 0 ≤ r ∧ r < d ∧ Q * d + r = n ∧ 1 ≤ Q := by
  obtain ⟨h1, h2, h3⟩ := degree_bd n h h'
  refine ⟨degree n, n / degree n, n % degree n, rfl, rfl, rfl, Int.tdiv_eq_ediv_of_nonneg (by omega), Int.tmod_eq_emod_of_nonneg (by omega), h1, h2, h3, Int.ediv_nonneg (by omega) (by omega), ?_, Int.emod_nonneg _ (by omega), Int.emod_lt_of_pos _ (by omega), ?_, ?_⟩
  · have e1 := Int.ediv_mul_le n (show degree n ≠ 0 by omega)
    have e2 : 0 ≤ n / degree n := Int.ediv_nonneg (by omega) (by omega)
    have e3 := Int.mul_le_mul_of_nonneg_left h1 e2
    omega
  · have := Int.mul_ediv_add_emod n (degree n); rw [Int.mul_comm] at this; exact this
  · exact (Int.le_ediv_iff_mul_le (by omega)).2 (by omega)
theorem w64_id' (n : Int) (h1 : -9223372036854775808 ≤ n) (h2 : n ≤ 9223372036854775807) : w64 n = n := by unfold w64; omega
theorem part_fits (n i : Int) (h : 2 ≤ n) (h' : n ≤ 16384) (i0 : 0 ≤ i) (i1 : i < degree n) : 0 ≤ pfrom n i ∧ 1 ≤ psize n i ∧ psize n i < n ∧ pfrom n i + psize n i ≤ n := by
  obtain ⟨d, Q, r, hd, hQ, hr, _, _, d1, d2, d3, q1, q2, r1, r2, e, q3⟩ := parted n h h'
  have h2 := (psize_le n i h h').2
  have hf : pfrom n i = Q * i + min i r := by unfold pfrom; rw [hd, if_neg (by omega), hQ, hr]
  have hs : psize n i = if i < r then Q + 1 else Q := by unfold psize; rw [hd, if_neg (by omega), hQ, hr]
  rw [hd] at i1
  have p0 : 0 ≤ Q * i := Int.mul_nonneg q1 i0
  have p1 : Q * (i + 1) ≤ Q * d := Int.mul_le_mul_of_nonneg_left (by omega) q1
  rw [Int.mul_add, Int.mul_one] at p1
  refine ⟨by rw [hf]; omega, by rw [hs]; split <;> omega, h2, ?_⟩
  rw [hf, hs]
  split <;> omega
/-- The parts of a list, laid one behind the other. -/
def partsF (lay : List (Int × Int) → MS → Int × MS) (l : List (Int × Int)) (n : Int) : Nat → Int → List Int → List Int → MS → List Int × List Int × MS
  | 0, _, K, C, M => (K, C, M)
  | g + 1, i, K, C, M =>
    partsF lay l n g (i + 1) (if 0 < i then K ++ [(l.getD (pfrom n i).toNat (0, 0)).1] else K)
      (C ++ [(lay ((l.drop (pfrom n i).toNat).take (psize n i).toNat) M).1]) (lay ((l.drop (pfrom n i).toNat).take (psize n i).toNat) M).2
def innerW (size : Int) (q c : List Int) : List Int := [(c.length : Int), size, 0, 0, 0] ++ q ++ c
/-- The ideal tree of a list, laid: its word; the cells behind it. -/
def layF : Nat → List (Int × Int) → MS → Int × MS
  | 0, _, M => (0, M)
  | f + 1, l, M =>
    if l.length = 0 then (of 1 (M.made [0]), M.make [0])
    else if l.length = 1 then (of 2 (M.made [(l.getD 0 (0, 0)).1, (l.getD 0 (0, 0)).2]), M.make [(l.getD 0 (0, 0)).1, (l.getD 0 (0, 0)).2])
    else
      let p := partsF (layF f) l l.length (degree l.length).toNat 0 [] [] M
      (of 3 (p.2.2.made (innerW l.length p.1 p.2.1)), p.2.2.make (innerW l.length p.1 p.2.1))
end Go.Proofs.Ytilkkfpfcegncaa.R
