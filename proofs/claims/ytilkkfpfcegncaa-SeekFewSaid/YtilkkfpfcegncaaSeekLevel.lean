/- A seek goes through a tree: plain functions alone. -/
import Derived.Test.YtilkkfpfcegncaaSeekFew
import Derived.Test.YtilkkfpfcegncaaPartPure
set_option linter.unusedVariables false
namespace Go.Proofs.Ytilkkfpfcegncaa.R

/-- One step over cells that stand still. -/
def ks (at_ : Int → Int) (f : IK) : IK := if f.next = 5 then f else f.step (at_ f.addr)
def itk (at_ : Int → Int) : Nat → IK → IK
  | 0, f => f
  | n + 1, f => itk at_ n (ks at_ f)
theorem itk_add (at_ : Int → Int) : ∀ (n m : Nat) (f : IK), itk at_ (n + m) f = itk at_ m (itk at_ n f)
  | 0, m, f => by rw [Nat.zero_add]; rfl
  | n + 1, m, f => by rw [show n + 1 + m = (n + m) + 1 from by omega]; exact itk_add at_ n m (ks at_ f)
theorem itk_done (at_ : Int → Int) (f : IK) (h : f.next = 5) : ∀ n, itk at_ n f = f
  | 0 => rfl
  | n + 1 => by show itk at_ n (ks at_ f) = f; rw [show ks at_ f = f from by unfold ks; rw [if_pos h]]; exact itk_done at_ f h n

theorem keyAt_in (a i : Int) (ha : 0 ≤ a ∧ a ≤ 65536) (hi : 0 ≤ i ∧ i ≤ 65537) : keyAt a i = a + 4 + i := by
  unfold keyAt; rw [if_pos ⟨(within_eq _).2 (by omega), (within_eq _).2 (by omega)⟩]
theorem childAt_in (a d i : Int) (ha : 0 ≤ a ∧ a ≤ 65536) (hd : 0 ≤ d ∧ d ≤ 65537) (hi : 0 ≤ i ∧ i ≤ 65537) : childAt a d i = a + 4 + d + i := by
  unfold childAt; rw [if_pos ⟨(within_eq _).2 (by omega), (within_eq _).2 (by omega), (within_eq _).2 (by omega)⟩]

theorem rem_nonneg {at_ : Int → Int} {a d k : Int} {f : IR} (hR : Rt at_ a d k f) (hd : 1 ≤ d ∧ d ≤ 65537) : 0 ≤ rem d f := by
  unfold rem
  split
  · omega
  split
  · omega
  split
  · rename_i h; have := hR.ok.n2 h; have := hR.hd (by omega); omega
  split
  · rename_i h; have := hR.ok.n3 h; have := hR.hd (by omega); have := hR.q3 h; omega
  split
  · rename_i h; have := hR.ok.n4 h; have := hR.hd (by omega); omega
  split
  · rename_i h; have := hR.ok.n5 h; omega
  · omega

/-- Routing: it ends with a child, and looks at it. -/
theorem routing (at_ : Int → Int) (a d k : Int) (hat : at_ a = d) (hd : 1 ≤ d ∧ d ≤ 65537) (N : Nat) : ∀ (g : IK), g.next = 0 → g.n = a → g.k = k → Rt at_ a d k g.route → g.route.next ≠ 6 → rem d g.route ≤ N →
    ∃ (t : Nat) (c : Int) (r : IR), (t : Int) ≤ rem d g.route ∧ 0 ≤ c ∧ c ≤ d - 1 ∧ (1 ≤ c → at_ (keyAt a c) ≤ k) ∧ (c < d - 1 → k < at_ (keyAt a (c + 1))) ∧
      itk at_ t g = { g with next := 1, route := r, has := true, peek := ⟨0, childAt a d c, 0, 0⟩ } := by
  induction N with
  | zero =>
    intro g h0 hn hk hR h6 hN
    have := (rt_step hR h6 hat hd).2
    have h2 : 0 ≤ rem d (g.route.step (at_ g.route.addr)) := rem_nonneg (rt_step hR h6 hat hd).1 hd
    omega
  | succ N ih =>
    intro g h0 hn hk hR h6 hN
    obtain ⟨R2, hr⟩ := rt_step hR h6 hat hd
    have h2 := rem_nonneg R2 hd
    have hs : ks at_ g = g.step (at_ g.route.addr) := by unfold ks IK.addr; rw [if_neg (by omega), if_pos h0]
    by_cases h : (g.route.step (at_ g.route.addr)).next = 6
    · have e : ks at_ g = { g with route := g.route.step (at_ g.route.addr), next := 1, has := true, peek := ⟨0, childAt g.n (g.route.step (at_ g.route.addr)).degree (g.route.step (at_ g.route.addr)).child, 0, 0⟩ } := by
        rw [hs]; unfold IK.step; rw [if_pos h0, if_pos h]
      obtain ⟨q1, q2, q3⟩ := R2.q6 h
      refine ⟨1, (g.route.step (at_ g.route.addr)).child, g.route.step (at_ g.route.addr), by omega, q1.1, q1.2, q2, q3, ?_⟩
      show itk at_ 0 (ks at_ g) = _
      show ks at_ g = _
      rw [e, hn, R2.hd (by omega)]
    · have e : ks at_ g = { g with route := g.route.step (at_ g.route.addr) } := by
        rw [hs]; unfold IK.step; rw [if_pos h0, if_neg h]
      obtain ⟨t, c, r, ht, c0, c1, c2, c3, hit⟩ := ih (ks at_ g) (by rw [e]; exact h0) (by rw [e]; exact hn) (by rw [e]; exact hk) (by rw [e]; exact R2) (by rw [e]; exact h) (by rw [e]; show rem d (g.route.step _) ≤ N; omega)
      refine ⟨t + 1, c, r, ?_, c0, c1, c2, c3, ?_⟩
      · rw [e] at ht
        have ht' : (t : Int) ≤ rem d (g.route.step (at_ g.route.addr)) := ht
        omega
      · show itk at_ t (ks at_ g) = _
        rw [hit, e]

theorem rt_start (at_ : Int → Int) (a d k : Int) : Rt at_ a d k ⟨0, a, k, 0, 0, 0, 0⟩ := by
  refine ⟨?_, rfl, rfl, fun h => absurd rfl h, fun h => absurd (show (0 : Int) = 2 from h) (by decide), fun h => absurd (show (0 : Int) = 3 from h) (by decide), fun h => absurd (show (0 : Int) = 4 from h) (by decide), fun h => absurd (show (0 : Int) = 5 from h) (by decide), fun h => absurd (show (0 : Int) = 6 from h) (by decide)⟩
  constructor <;> simp
/-- Through one Inner. -/
theorem level (at_ : Int → Int) (a d k : Int) (ha : 0 ≤ a ∧ a ≤ 65536) (hat : at_ a = d) (hd : 1 ≤ d ∧ d ≤ 65537) (h5 : ∀ c, 0 ≤ c → c ≤ d - 1 → kind (at_ (a + 4 + d + c)) ≠ 5) (g : IK) (h0 : g.next = 0) (hn : g.n = a) (hk : g.k = k) (hr : g.route = ⟨0, a, k, 0, 0, 0, 0⟩) :
    ∃ (t : Nat) (c : Int) (r : IR) (p : IP), (t : Int) ≤ d + 1 ∧ 0 ≤ c ∧ c ≤ d - 1 ∧ (1 ≤ c → at_ (a + 4 + c) ≤ k) ∧ (c < d - 1 → k < at_ (a + 4 + (c + 1))) ∧
      itk at_ t g = ({ g with next := 1, route := r, has := true, peek := p } : IK).meet (at_ (a + 4 + d + c)) := by
  obtain ⟨t, c, r, ht, c0, c1, c2, c3, hit⟩ := routing at_ a d k hat hd d.toNat g h0 hn hk (by rw [hr]; exact rt_start _ _ _ _) (by rw [hr]; show (0 : Int) ≠ 6; decide) (by rw [hr]; show d ≤ _; omega)
  rw [hr] at ht
  have ht' : (t : Int) ≤ d := ht
  have k5 := h5 c c0 c1
  obtain ⟨q, hq⟩ : ∃ q, at_ (a + 4 + d + c) = q := ⟨_, rfl⟩
  rw [hq] at k5
  refine ⟨t + 1, c, r, (⟨0, childAt a d c, 0, 0⟩ : IP).fin q, by omega, c0, c1, fun h => by have := c2 h; rwa [keyAt_in a c ha (by omega)] at this, fun h => by have := c3 h; rwa [keyAt_in a (c + 1) ha (by omega)] at this, ?_⟩
  rw [itk_add, hit, hq, show ∀ f, itk at_ 1 f = ks at_ f from fun _ => rfl]
  unfold ks
  rw [if_neg (by show (1 : Int) ≠ 5; decide)]
  have hadd : ({ g with next := 1, route := r, has := true, peek := ⟨0, childAt a d c, 0, 0⟩ } : IK).addr = a + 4 + d + c := by
    show childAt a d c = _
    exact childAt_in a d c ha (by omega) (by omega)
  rw [hadd, hq]
  have hst : (⟨0, childAt a d c, 0, 0⟩ : IP).step q = (⟨0, childAt a d c, 0, 0⟩ : IP).fin q := by
    unfold IP.step
    rw [if_pos rfl, if_neg k5]
  show (if ((⟨0, childAt a d c, 0, 0⟩ : IP).step q).next = 3 then ({ g with next := 1, route := r, has := true, peek := (⟨0, childAt a d c, 0, 0⟩ : IP).step q } : IK).meet ((⟨0, childAt a d c, 0, 0⟩ : IP).step q).word else _) = _
  rw [hst]
  rfl

/-- The part i of a list. -/
def part (l : List (Int × Int)) (i : Int) : List (Int × Int) := (l.drop (pfrom l.length i).toNat).take (psize l.length i).toNat
/-- The word x stands for the ideal tree of a list, in cells above L. -/
def Sub (at_ : Int → Int) (L : Int) : Nat → Int → List (Int × Int) → Prop
  | 0, _, _ => False
  | f + 1, x, l => L < addr x ∧ (l.length = 0 → kind x = 1) ∧ (l.length = 1 → kind x = 2 ∧ at_ (addr x) = (l.getD 0 (0, 0)).1 ∧ at_ (addr x + 1) = (l.getD 0 (0, 0)).2) ∧
      (2 ≤ l.length → kind x = 3 ∧ at_ (addr x) = degree l.length ∧ (∀ i, 0 ≤ i → i < degree l.length → Sub at_ L f (at_ (addr x + 4 + degree l.length + i)) (part l i)) ∧
        (∀ i, 1 ≤ i → i < degree l.length → at_ (addr x + 4 + i) = (l.getD (pfrom l.length i).toNat (0, 0)).1))
/-- So many steps, at most, from the meeting of a tree's word on. -/
def tw : Nat → Int → Int
  | 0, _ => 0
  | f + 1, n => if n < 2 then 2 else degree n + 1 + max (tw f (n / degree n)) (if 0 < n % degree n then tw f (n / degree n + 1) else 0)
theorem pfrom_next (n i : Int) (h : 2 ≤ n) (h' : n ≤ 16384) (i0 : 0 ≤ i) (i1 : i + 1 < degree n) : pfrom n (i + 1) = pfrom n i + psize n i := by
  obtain ⟨d, Q, r, hd, hQ, hr, _, _, d1, d2, d3, q1, q2, r1, r2, e, q3⟩ := parted n h h'
  rw [hd] at i1
  have hf : pfrom n i = Q * i + min i r := by unfold pfrom; rw [hd, if_neg (by omega), hQ, hr]
  have hf2 : pfrom n (i + 1) = Q * (i + 1) + min (i + 1) r := by unfold pfrom; rw [hd, if_neg (by omega), hQ, hr]
  have hs : psize n i = if i < r then Q + 1 else Q := by unfold psize; rw [hd, if_neg (by omega), hQ, hr]
  rw [hf, hf2, hs, Int.mul_add, Int.mul_one]
  split <;> omega
theorem pfrom_last (n i : Int) (h : 2 ≤ n) (h' : n ≤ 16384) (i1 : i + 1 = degree n) : pfrom n i + psize n i = n := by
  obtain ⟨d, Q, r, hd, hQ, hr, _, _, d1, d2, d3, q1, q2, r1, r2, e, q3⟩ := parted n h h'
  rw [hd] at i1
  have hf : pfrom n i = Q * i + min i r := by unfold pfrom; rw [hd, if_neg (by omega), hQ, hr]
  have hs : psize n i = if i < r then Q + 1 else Q := by unfold psize; rw [hd, if_neg (by omega), hQ, hr]
  have hm : Q * i + Q = Q * d := by rw [← i1, Int.mul_add, Int.mul_one]
  rw [hf, hs]
  split <;> omega
theorem pfrom_zero (n : Int) (h : 2 ≤ n) (h' : n ≤ 16384) : pfrom n 0 = 0 := by
  obtain ⟨d, Q, r, hd, hQ, hr, _, _, d1, d2, d3, q1, q2, r1, r2, e, q3⟩ := parted n h h'
  unfold pfrom; rw [hd, if_neg (by omega), hQ, hr]; simp; omega

def Asc (l : List (Int × Int)) : Prop := ∀ i j, i < j → j < l.length → (l.getD i (0, 0)).1 < (l.getD j (0, 0)).1
theorem part_length (l : List (Int × Int)) (i : Int) (h : 2 ≤ l.length) (h' : l.length ≤ 16384) (i0 : 0 ≤ i) (i1 : i < degree l.length) : ((part l i).length : Int) = psize l.length i := by
  obtain ⟨p0, p1, p2, p3⟩ := part_fits l.length i (by omega) (by omega) i0 i1
  unfold part
  rw [List.length_take, List.length_drop]
  omega
theorem part_getD (l : List (Int × Int)) (i : Int) (h : 2 ≤ l.length) (h' : l.length ≤ 16384) (i0 : 0 ≤ i) (i1 : i < degree l.length) (j : Nat) (hj : j < (part l i).length) : (part l i).getD j (0, 0) = l.getD ((pfrom l.length i).toNat + j) (0, 0) := by
  have hl := part_length l i h h' i0 i1
  unfold part
  rw [List.getD_eq_getElem?_getD, List.getD_eq_getElem?_getD, List.getElem?_take, if_pos (by omega), List.getElem?_drop]
theorem part_asc (l : List (Int × Int)) (i : Int) (h : 2 ≤ l.length) (h' : l.length ≤ 16384) (i0 : 0 ≤ i) (i1 : i < degree l.length) (hA : Asc l) : Asc (part l i) := by
  intro a b hab hb
  obtain ⟨p0, p1, p2, p3⟩ := part_fits l.length i (by omega) (by omega) i0 i1
  have hl := part_length l i h h' i0 i1
  rw [part_getD l i h h' i0 i1 a (by omega), part_getD l i h h' i0 i1 b hb]
  exact hA _ _ (by omega) (by omega)

theorem seek_sub (at_ : Int → Int) (L : Int) (F : Nat) : ∀ (l : List (Int × Int)) (x : Int) (g : IK) (j : Nat), Sub at_ L F x l → Asc l → j < l.length → l.length ≤ 16384 → g.k = (l.getD j (0, 0)).1 →
    ∃ t : Nat, (t : Int) ≤ tw F l.length ∧ (itk at_ t (g.meet x)).next = 5 ∧ (itk at_ t (g.meet x)).value = (l.getD j (0, 0)).2 ∧ (itk at_ t (g.meet x)).there = true := by
  induction F with
  | zero => intro l x g j h; exact h.elim
  | succ F ih =>
    intro l x g j hS hA hj hl hk
    obtain ⟨hL, _, h1, h2⟩ := hS
    rcases (by omega : l.length = 1 ∨ 2 ≤ l.length) with hn | hn
    · obtain ⟨k2, a1, a2⟩ := h1 hn
      have hj0 : j = 0 := by omega
      subst hj0
      have e : g.meet x = { g with at_ := addr x, next := 2 } := by unfold IK.meet; rw [if_pos k2]
      refine ⟨2, ?_, ?_⟩
      · unfold tw; rw [if_pos (by omega)]; omega
      · have e1 : ks at_ (g.meet x) = { g with at_ := addr x, next := 3 } := by
          rw [e]; unfold ks
          rw [if_neg (by show (2 : Int) ≠ 5; decide)]
          have : ({ g with at_ := addr x, next := 2 } : IK).addr = addr x := rfl
          rw [this, a1, ← hk]
          show (if g.k = g.k then _ else _) = _
          rw [if_pos rfl]
        have e2 : ks at_ ({ g with at_ := addr x, next := 3 } : IK) = { g with at_ := addr x, value := (l.getD 0 (0, 0)).2, there := true, next := 5 } := by
          unfold ks
          rw [if_neg (by show (3 : Int) ≠ 5; decide)]
          have : ({ g with at_ := addr x, next := 3 } : IK).addr = addr x + 1 := rfl
          rw [this, a2]
          rfl
        show (ks at_ (ks at_ (g.meet x))).next = 5 ∧ (ks at_ (ks at_ (g.meet x))).value = _ ∧ (ks at_ (ks at_ (g.meet x))).there = true
        rw [e1, e2]
        exact ⟨rfl, rfl, rfl⟩
    · obtain ⟨k3, a1, hc, hkeys⟩ := h2 hn
      obtain ⟨d1, d2, d3⟩ := degree_bd l.length (by omega) (by omega)
      have hb := addr_bd x
      have hlen : ∀ c, 0 ≤ c → c < degree l.length → 1 ≤ (part l c).length := fun c c0 c1 => by
        have := part_length l c hn hl c0 c1
        have := (part_fits l.length c (by omega) (by omega) c0 c1).2.1
        omega
      have h5 : ∀ c, 0 ≤ c → c ≤ degree l.length - 1 → kind (at_ (addr x + 4 + degree l.length + c)) ≠ 5 := by
        intro c c0 c1
        have hs := hc c c0 (by omega)
        have hp := hlen c c0 (by omega)
        cases F with
        | zero => exact hs.elim
        | succ F =>
          obtain ⟨_, _, s1, s2⟩ := hs
          rcases (by omega : (part l c).length = 1 ∨ 2 ≤ (part l c).length) with h | h
          · rw [(s1 h).1]; decide
          · rw [(s2 h).1]; decide
      have e : g.meet x = ({ g with at_ := addr x } : IK).enter (addr x) := by unfold IK.meet; rw [if_neg (by omega), if_pos k3]
      obtain ⟨t1, c, r, p, ht1, c0, c1, c2, c3, hit⟩ := level at_ (addr x) (degree l.length) g.k hb a1 (by omega) h5 (({ g with at_ := addr x } : IK).enter (addr x)) rfl rfl rfl rfl
      obtain ⟨p0, p1, p2, p3⟩ := part_fits l.length c (by omega) (by omega) c0 (by omega)
      have hpl := part_length l c hn hl c0 (by omega)
      have hj1 : (pfrom l.length c).toNat ≤ j := by
        rcases (by omega : c = 0 ∨ 1 ≤ c) with h | h
        · rw [h, pfrom_zero _ (by omega) (by omega)]; simp
        · have hk2 := c2 h
          rw [hkeys c h (by omega), hk] at hk2
          rcases Nat.lt_or_ge j (pfrom l.length c).toNat with h' | h'
          · have := hA j _ h' (by omega); omega
          · exact h'
      have hj2 : (j : Int) < pfrom l.length c + psize l.length c := by
        rcases (by omega : c + 1 = degree l.length ∨ c + 1 < degree l.length) with h | h
        · rw [pfrom_last _ _ (by omega) (by omega) h]; omega
        · have hk3 := c3 (by omega)
          rw [show addr x + 4 + (c + 1) = addr x + 4 + (c + 1) from rfl, hkeys (c + 1) (by omega) h, hk] at hk3
          rw [← pfrom_next _ _ (by omega) (by omega) c0 h]
          have q := part_fits l.length (c + 1) (by omega) (by omega) (by omega) h
          rcases Nat.lt_or_ge j (pfrom l.length (c + 1)).toNat with h' | h'
          · omega
          · exfalso
            rcases (by omega : (pfrom l.length (c + 1)).toNat = j ∨ (pfrom l.length (c + 1)).toNat < j) with h'' | h''
            · rw [h''] at hk3; omega
            · have := hA _ j h'' hj; omega
      have hjp : j - (pfrom l.length c).toNat < (part l c).length := by omega
      have hg := part_getD l c hn hl c0 (by omega) _ hjp
      rw [show (pfrom l.length c).toNat + (j - (pfrom l.length c).toNat) = j from by omega] at hg
      obtain ⟨t2, ht2, f1, f2, f3⟩ := ih (part l c) _ ({ (({ g with at_ := addr x } : IK).enter (addr x)) with next := 1, route := r, has := true, peek := p } : IK) _ (hc c c0 (by omega)) (part_asc l c hn hl c0 (by omega) hA) hjp (by omega) (by rw [hg]; exact hk)
      rw [hg] at f2
      refine ⟨t1 + t2, ?_, ?_⟩
      · have hT : tw F (part l c).length ≤ max (tw F (l.length / degree l.length)) (if 0 < (l.length : Int) % degree l.length then tw F (l.length / degree l.length + 1) else 0) := by
          rw [hpl]
          have hm0 := Int.emod_nonneg (l.length : Int) (show degree l.length ≠ 0 by omega)
          have hs : psize l.length c = if c < l.length % degree l.length then l.length / degree l.length + 1 else l.length / degree l.length := by unfold psize; rw [if_neg (by omega)]
          rw [hs]
          split
          · rw [if_pos (by omega)]; omega
          · omega
        unfold tw
        rw [if_neg (by omega)]
        omega
      · rw [e, itk_add, hit]
        exact ⟨f1, f2, f3⟩
end Go.Proofs.Ytilkkfpfcegncaa.R
