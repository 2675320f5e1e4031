/- Both memories: their records, and what is done to them. -/
import Derived.Test.YtfgkgmfcbhbomaaGreatRoute
import Derived.Maps.AppendAt
import Derived.OwnWalk
set_option linter.unusedVariables false
namespace Go.Proofs.YtfgkgmfcbhbomaaGreat
open Go.RowKit
open R (MS)

def ownOf (v : Value) : List Nat := v.ownBlock.toList
/-- The program's memory, at block b; v: the slice of its cells. -/
def MemAt (w : World) (b : Nat) (v : Value) (M : MS) : Prop :=
  Blk w b #[v, .int .i64 M.max, .int .i64 M.count, .int .i64 M.odd, .int .i64 M.refused] 71 ∧ w.ownsRow 0 2 1 v M.c.length (ints .i64 M.c) ∧ M.Ok
/-- The document's memory. -/
def RMemAt (w : World) (b : Nat) (v : Value) (M : MS) : Prop :=
  Blk w b #[.int .i64 M.max, v, .int .i64 M.count, .int .i64 M.odd, .int .i64 M.refused] 69 ∧ w.ownsRow 0 2 1 v M.c.length (ints .i64 M.c) ∧ M.Ok

/-- What is owned: nil, or a block whose head it is. -/
theorem own_form {w : World} {e : TypeId} {v : Value} {n : Nat} {xs : List Value} (h : w.ownsRow 0 e 1 v n xs) :
    (v = .slice none 0 0 ∧ n = 0 ∧ xs = []) ∨ ∃ g cap cur, v = .slice (some ⟨g, 0, none⟩) n cap ∧ Blk w g cur e ∧ n ≤ cap ∧ cap ≤ maxLen ∧ cur.size = cap ∧ cur.toList.take n = xs ∧ xs.length = n := by
  obtain ⟨h1, h2⟩ := h
  rcases h2 with ⟨rfl, rfl⟩ | ⟨g, cap, cur, rfl, _, hh, hn, hm, hs, ht⟩
  · exact .inl ⟨rfl, rfl, List.eq_nil_of_length_eq_zero (by simpa using h1)⟩
  · exact .inr ⟨g, cap, cur, rfl, hh, hn, hm, by simpa using hs, by simpa using ht, by simpa using h1⟩
theorem own_keep {w w' : World} {e : TypeId} {v : Value} {n : Nat} {xs : List Value} {S : List Nat} (h : w.ownsRow 0 e 1 v n xs) (hf : Fr S w w') (hn : ∀ g, v.ownBlock = some g → g ∉ S) : w'.ownsRow 0 e 1 v n xs := by
  obtain ⟨h1, h2⟩ := h
  refine ⟨h1, ?_⟩
  rcases h2 with h2 | ⟨g, cap, cur, rfl, hb, hh, r⟩
  · exact .inl h2
  · exact .inr ⟨g, cap, cur, rfl, hb, (Blk.keep hh hf (hn g rfl)), r⟩
theorem own_Rd {w : World} {e : TypeId} {v : Value} {n : Nat} {xs : List Value} (h : w.ownsRow 0 e 1 v n xs) : ∃ a cap, v = .slice a n cap ∧ Rd w e a xs := by
  rcases own_form h with ⟨rfl, rfl, rfl⟩ | ⟨g, cap, cur, rfl, hb, hn, _, hs, ht, hl⟩
  · exact ⟨none, 0, rfl, Rd.nil _ _ _⟩
  · refine ⟨_, cap, rfl, .inr ⟨g, 0, cur, (0, 0), rfl, hb, fun j hj => ?_⟩⟩
    rw [← ht, List.getElem?_take, if_pos (by omega)]
    simp
theorem own_cell {w : World} {e : TypeId} {v : Value} {k : IntKind} {xs : List Int} (h : w.ownsRow 0 e 1 v xs.length (ints k xs)) (j : Nat) (hj : j < xs.length) :
    ∃ g cap cur, v = .slice (some ⟨g, 0, none⟩) xs.length cap ∧ Blk w g cur e ∧ cur[j]? = some (.int k (xs.getD j 0)) := by
  rcases own_form h with ⟨_, h0, _⟩ | ⟨g, cap, cur, rfl, hb, hn, _, hs, ht, hl⟩
  · omega
  · refine ⟨g, cap, cur, rfl, hb, ?_⟩
    have e := ints_at k xs j hj
    rw [← ht, List.getElem?_take, if_pos (by omega)] at e
    simpa using e
theorem own_set {w : World} {e : TypeId} {g cap n : Nat} {k : IntKind} {xs : List Int} (h : w.ownsRow 0 e 1 (.slice (some ⟨g, 0, none⟩) n cap) n (ints k xs)) (j : Nat) (hj : j < n) (x : Int) :
    (w.setCell ⟨g, j, none⟩ (.int k x)).ownsRow 0 e 1 (.slice (some ⟨g, 0, none⟩) n cap) n (ints k (xs.set j x)) := by
  obtain ⟨h1, h2⟩ := h
  refine ⟨by simpa [ints] using h1, .inr ?_⟩
  rcases h2 with ⟨h2, _⟩ | ⟨g', cap', cur, he, hb, hh, hn, hm, hs, ht⟩
  · cases h2
  · injection he with h3 h4 h5
    injection h3 with h3
    injection h3 with h3
    subst h3 h5
    refine ⟨_, _, cur.setIfInBounds j (.int k x), rfl, hb, Blk.set hh j _, hn, hm, by simpa using hs, ?_⟩
    simp only [Nat.mul_one] at ht ⊢
    rw [Array.toList_setIfInBounds, List.take_set, ht]
    simp [ints, List.map_set]

theorem own_out {w : World} {e T : TypeId} {v : Value} {n : Nat} {xs : List Value} {b : Nat} {cs : Array Value} (ho : w.ownsRow 0 e 1 v n xs) (hb : Blk w b cs T) (hT : T ≠ e) : ∀ g, v.ownBlock = some g → g ∉ [b] := by
  intro g hg hm
  have : g = b := by simpa using hm
  subst this
  rcases own_form ho with ⟨rfl, _, _⟩ | ⟨g', cap, cur, rfl, hb', _⟩
  · simp [Value.ownBlock] at hg
  · have : g' = g := by simpa [Value.ownBlock] using hg
    subst this
    exact hb.ne hb' hT rfl
theorem own_lt {w : World} {e : TypeId} {v : Value} {n : Nat} {xs : List Value} (ho : w.ownsRow 0 e 1 v n xs) : ∀ g, v.ownBlock = some g → g < w.heap.size := by
  intro g hg
  rcases own_form ho with ⟨rfl, _, _⟩ | ⟨g', cap, cur, rfl, hb', _⟩
  · simp [Value.ownBlock] at hg
  · have : g' = g := by simpa [Value.ownBlock] using hg
    subst this
    exact hb'.lt
theorem getD_ok {M : MS} (h : M.Ok) (j : Nat) : -9223372036854775808 ≤ M.c.getD j 0 ∧ M.c.getD j 0 ≤ 9223372036854775807 := by
  rw [List.getD_eq_getElem?_getD]
  rcases Nat.lt_or_ge j M.c.length with h' | h'
  · rw [List.getElem?_eq_getElem h']; exact h.bd _ (List.getElem_mem h')
  · rw [List.getElem?_eq_none h']; exact ⟨by decide, by decide⟩
theorem at_ok {M : MS} (h : M.Ok) (a : Int) : -9223372036854775808 ≤ M.at_ a ∧ M.at_ a ≤ 9223372036854775807 := by
  unfold R.MS.at_; split
  · exact getD_ok h _
  · exact ⟨by decide, by decide⟩
theorem met_ok {M : MS} (h : M.Ok) (a : Int) : (M.met a).Ok := by unfold R.MS.met; split <;> exact ⟨h.max0, h.max1, h.len, h.bd⟩
theorem put_ok {M : MS} (h : M.Ok) (a x : Int) (x1 : -9223372036854775808 ≤ x) (x2 : x ≤ 9223372036854775807) : (M.put a x).Ok := by
  unfold R.MS.put; split
  · refine ⟨h.max0, h.max1, by simpa using h.len, fun y hy => ?_⟩
    rcases List.mem_or_eq_of_mem_set hy with hy | hy
    · exact h.bd _ hy
    · subst hy; exact ⟨x1, x2⟩
  · exact h

theorem info_i64 : (Tryz.prog.info? 2).map (fun i => (i.zero, i.size, i.bytes)) = some (some (.int .i64 0), 1, 8) := by kernel_rfl
theorem Rd.cells {w : World} {T : TypeId} {ad : Addr} {xs : List Value} (h : Rd w T (some ad) xs) : ∀ j u, xs[j]? = some u → w.cell? (ad.add j) = some u := by
  intro j u hj
  obtain ⟨ad', ha, hc⟩ := h.at_ j u hj
  injection ha with ha
  subst ha
  exact hc
theorem ints_one (k : IntKind) (xs : List Int) : ∀ u ∈ ints k xs, u.oneCell' = true := by
  intro u hu
  obtain ⟨x, _, rfl⟩ := List.mem_map.1 hu
  rfl
/-- 'append(v, ys...)' of int64s, v being owned. -/
theorem append_i64 (w : World) {ops : Array Oper} {rest : List Oper} {o : Oper} {a : Act} {Q : Exit → Act → World → Prop} (hgd : o.guard = none) (s x : Operand)
    (ho : o.op = .call { callee := .builtin .append, args := #[s, x], argTypes := #[22, 22] })
    (v : Value) (xs ys : List Int) (hs : a.eval s = v) (hown : w.ownsRow 0 2 1 v xs.length (ints .i64 xs)) (ad : Option Addr) (n c : Nat) (hx : a.eval x = .slice ad n c) (hn : n = ys.length)
    (HR : Rd w 2 ad (ints .i64 ys)) (hne : ys ≠ []) (hlen : xs.length + ys.length ≤ 17592186044416)
    (h : ∀ v' w', w'.ownsRow 0 2 1 v' (xs.length + ys.length) (ints .i64 (xs ++ ys)) → Fr (ownOf v) w w' → (v'.ownBlock = v.ownBlock ∨ v'.ownBlock = some w.heap.size) → wpList Tryz.prog ops Q rest (a.put o.dst v') w') :
    wpList Tryz.prog ops Q (o :: rest) a w := by
  obtain ⟨i0, hi, hzz⟩ := Option.map_eq_some_iff.1 info_i64
  simp only [Prod.mk.injEq] at hzz
  obtain ⟨hz0, hz1, hz2⟩ := hzz
  subst hn
  cases ad with
  | none =>
    exfalso
    rcases HR with h' | ⟨b, off, cs, fr, ha, _⟩
    · exact hne (by simpa [ints] using h')
    · cases ha
  | some ad =>
    refine wpList_append_own_at w hgd s x 22 ho 0 2 i0 (.int .i64 0) 1 8 Tryz.underlying22 hi hz0 hz1 hz2 rfl (by decide) v xs.length (ints .i64 xs) hs hown ad ys.length c (ints .i64 ys) hx (by simp [ints]) HR.cells (ints_one _ _) (by simp only [maxLen]; omega) (by omega) (Nat.zero_le _) ?_
    intro v' w' h1 h2 _ h4
    refine h v' w' (by simpa [ints] using h1) ⟨h2.os, h2.tape, h2.output, h2.size, fun k hk hn => h2.block k hk (fun e => hn ?_)⟩ h4
    unfold ownOf
    rw [← e]
    simp

theorem rhas_any (w : World) (b : Nat) (v : Value) (M : MS) (a : Int) (H : RMemAt w b v M) :
    Calls Tryz.prog 74 #[.pointer (some ⟨b, 0, none⟩), .int .i64 a] w fun e w' => e = .returned (.bool (decide (M.has a))) ∧ RMemAt w' b v (M.met a) ∧ Fr [b] w w' := by
  obtain ⟨hb, ho, hk⟩ := H
  have hko := met_ok hk a
  obtain ⟨sa, cap, rfl, hr⟩ := own_Rd ho
  have hc := hb.cell
  have hf := hb.free
  have h1 := hk.max1
  have h2 := hk.len
  go_enter Tryz.func74, Tryz.ntmps74
  go_wp2
  all_goals
    go_ret
    first
      | (have hh : M.has a := ⟨by omega, by omega⟩
         have F : Fr [b] w (w.setCell ⟨b, 2, none⟩ (.int .i64 (wrap64 (M.count + 1)))) := (Fr.refl _ _).setCell (.inl (by simp)) _
         refine ⟨ret_bool (by simp [hh]), ?_, F⟩
         unfold R.MS.met at hko ⊢
         rw [if_pos hh] at hko ⊢
         exact ⟨by rw [← w64_eq]; exact hb.set 2 _, own_keep ho F (own_out ho hb (by decide)), hko⟩)
      | (have hh : ¬ M.has a := fun h => by have := h.1; have := h.2; omega
         have F : Fr [b] w ((w.setCell ⟨b, 2, none⟩ (.int .i64 (wrap64 (M.count + 1)))).setCell ⟨b, 3, none⟩ (.int .i64 (wrap64 (M.odd + 1)))) := ((Fr.refl _ _).setCell (.inl (by simp)) _).setCell (.inl (by simp)) _
         refine ⟨ret_bool (by simp [hh]), ?_, F⟩
         unfold R.MS.met at hko ⊢
         rw [if_neg hh] at hko ⊢
         exact ⟨by rw [← w64_eq, ← w64_eq]; exact (hb.set 2 _).set 3 _, own_keep ho F (own_out ho hb (by decide)), hko⟩)

theorem met_c (M : MS) (a : Int) : (M.met a).c = M.c := by unfold R.MS.met; split <;> rfl
theorem met_max (M : MS) (a : Int) : (M.met a).max = M.max := by unfold R.MS.met; split <;> rfl

theorem rread_any (w : World) (b : Nat) (v : Value) (M : MS) (a : Int) (H : RMemAt w b v M) :
    Calls Tryz.prog 48 #[.pointer (some ⟨b, 0, none⟩), .int .i64 a] w fun e w' => e = .returned (.int .i64 (M.at_ a)) ∧ RMemAt w' b v (M.met a) ∧ Fr [b] w w' := by
  by_cases hh : M.has a
  · have hd : decide (M.has a) = true := by simpa using hh
    have hv : M.at_ a = M.c.getD (a - 1).toNat 0 := by unfold R.MS.at_; rw [if_pos hh]
    obtain ⟨X, hX⟩ : ∃ X, M.c.getD (a - 1).toNat 0 = X := ⟨_, rfl⟩
    rw [hv, hX]
    rw [hX] at hv
    have HX := Lib.hid hX
    clear hX hv
    go_enter Tryz.func48, Tryz.ntmps48
    go_wp2_with fail
    refine (rhas_any w b v M a H).mono ?_
    rintro e w1 ⟨rfl, H1, F⟩
    have HH := H1
    obtain ⟨hb, ho, hk⟩ := H1
    rw [met_c] at ho
    have h1 := hh.1
    have h2 := hh.2
    have h3 := hk.max1
    have h4 := hk.len
    rw [met_c] at h4
    obtain ⟨g, cap, cur, rfl, hg, hcell⟩ := own_cell ho (a - 1).toNat (by omega)
    rw [HX.out] at hcell
    have hne : b ≠ g := hb.ne hg (by decide)
    have hc := hb.cell
    have hc2 : w1.cell? ⟨g, (a - 1).toNat, none⟩ = some (.int .i64 X) := (hg.cell _).trans hcell
    rw [show (a - 1).toNat = a.toNat - 1 from by omega] at hc2
    clear hcell
    go_wp2_with fail
    go_ret
    exact ⟨rfl, HH, F⟩
  · have hd : decide (M.has a) = false := by simpa using hh
    have hv : M.at_ a = 0 := by unfold R.MS.at_; rw [if_neg hh]
    rw [hv]
    clear hv
    go_enter Tryz.func48, Tryz.ntmps48
    go_wp2_with fail
    refine (rhas_any w b v M a H).mono ?_
    rintro e w1 ⟨rfl, H1, F⟩
    go_wp2_with fail
    go_ret
    exact ⟨rfl, H1, F⟩
theorem met_has (M : MS) (a b : Int) : (M.met a).has b ↔ M.has b := by unfold R.MS.has; rw [met_c]
theorem ownBlock_slice (g n cap : Nat) : (Value.slice (some ⟨g, 0, none⟩) n cap).ownBlock = some g := rfl
theorem RMemAt.put {w : World} {b g cap n : Nat} {M : MS} (H : RMemAt w b (.slice (some ⟨g, 0, none⟩) n cap) M) (hn : n = M.c.length) (a x : Int) (ha : M.has a) (x1 : -9223372036854775808 ≤ x) (x2 : x ≤ 9223372036854775807) :
    RMemAt (w.setCell ⟨g, a.toNat - 1, none⟩ (.int .i64 x)) b (.slice (some ⟨g, 0, none⟩) n cap) (M.put a x) ∧ Fr [b, g] w (w.setCell ⟨g, a.toNat - 1, none⟩ (.int .i64 x)) := by
  obtain ⟨hb, ho, hk⟩ := H
  have hne : b ≠ g := fun e => own_out ho hb (by decide) g rfl (by simp [e])
  have hko := put_ok hk a x x1 x2
  subst hn
  have h1 := ha.1
  have h2 := ha.2
  refine ⟨?_, (Fr.refl _ _).setCell (.inl (by simp)) _⟩
  unfold R.MS.put at hko ⊢
  rw [if_pos ha] at hko ⊢
  have e : (a - 1).toNat = a.toNat - 1 := by omega
  rw [e] at hko ⊢
  exact ⟨hb.set_ne hne _, by simpa using own_set ho (a.toNat - 1) (by omega) x, hko⟩

theorem rwrite_any (w : World) (b : Nat) (v : Value) (M : MS) (a x : Int) (H : RMemAt w b v M) (x1 : -9223372036854775808 ≤ x) (x2 : x ≤ 9223372036854775807) :
    Calls Tryz.prog 49 #[.pointer (some ⟨b, 0, none⟩), .int .i64 a, .int .i64 x] w fun e w' => e = .returned (.tuple #[]) ∧ RMemAt w' b v ((M.met a).put a x) ∧ Fr (b :: ownOf v) w w' := by
  by_cases hh : M.has a
  · have hd : decide (M.has a) = true := by simpa using hh
    go_enter Tryz.func49, Tryz.ntmps49
    go_wp2_with fail
    refine (rhas_any w b v M a H).mono ?_
    rintro e w1 ⟨rfl, H1, F⟩
    have HH := H1
    obtain ⟨hb, ho, hk⟩ := H1
    rw [met_c] at ho
    have h1 := hh.1
    have h2 := hh.2
    have h3 := hk.max1
    have h4 := hk.len
    rw [met_c] at h4
    obtain ⟨g, cap, cur, rfl, hg, hcell⟩ := own_cell ho (a - 1).toNat (by omega)
    generalize M.c.getD (a - 1).toNat 0 = X at *
    have hne : b ≠ g := hb.ne hg (by decide)
    have hc := hb.cell
    have hc2 : w1.cell? ⟨g, (a - 1).toNat, none⟩ = some (.int .i64 X) := (hg.cell _).trans hcell
    have hf2 : w1.frozen? ⟨g, a.toNat - 1, none⟩ = false := hg.free _
    rw [show (a - 1).toNat = a.toNat - 1 from by omega] at hc2
    clear hcell
    go_wp2_with fail
    go_end0
    obtain ⟨P1, P2⟩ := HH.put (by rw [met_c]) a x ((met_has _ _ _).2 hh) x1 x2
    exact ⟨rfl, P1, (F.mono (by simp)).trans' P2 (by simp [ownOf, Value.ownBlock])⟩
  · have hd : decide (M.has a) = false := by simpa using hh
    go_enter Tryz.func49, Tryz.ntmps49
    go_wp2_with fail
    refine (rhas_any w b v M a H).mono ?_
    rintro e w1 ⟨rfl, H1, F⟩
    go_wp2_with fail
    go_end0
    refine ⟨rfl, ?_, F.mono (by simp)⟩
    unfold R.MS.put; rw [if_neg (fun h => hh ((met_has _ _ _).1 h))]
    exact H1

theorem at_has (M : MS) (a : Int) (hh : M.has a) : M.at_ a = M.c.getD (a - 1).toNat 0 := by unfold R.MS.at_; rw [if_pos hh]
theorem at_not (M : MS) (a : Int) (hh : ¬ M.has a) : M.at_ a = 0 := by unfold R.MS.at_; rw [if_neg hh]

theorem rcas_any (w : World) (b : Nat) (v : Value) (M : MS) (a o x : Int) (H : RMemAt w b v M) (x1 : -9223372036854775808 ≤ x) (x2 : x ≤ 9223372036854775807) :
    Calls Tryz.prog 50 #[.pointer (some ⟨b, 0, none⟩), .int .i64 a, .int .i64 o, .int .i64 x] w fun e w' => e = .returned (.bool (decide (M.has a ∧ M.at_ a = o))) ∧ RMemAt w' b v (if M.has a ∧ M.at_ a = o then (M.met a).put a x else M.met a) ∧ Fr (b :: ownOf v) w w' := by
  by_cases hh : M.has a
  · have hd : decide (M.has a) = true := by simpa using hh
    obtain ⟨X, hX⟩ : ∃ X, M.c.getD (a - 1).toNat 0 = X := ⟨_, rfl⟩
    have hv := at_has M a hh
    rw [hX] at hv
    have HX := Lib.hid hX
    have HV := Lib.hid hv
    clear hX hv
    by_cases hXo : X = o
    · have hx' : (X != o) = false := by simpa using hXo
      rw [decide_eq_true (show M.has a ∧ M.at_ a = o from ⟨hh, HV.out.trans hXo⟩), if_pos (show M.has a ∧ M.at_ a = o from ⟨hh, HV.out.trans hXo⟩)]
      clear hXo
      go_enter Tryz.func50, Tryz.ntmps50
      go_wp2_with fail
      refine (rhas_any w b v M a H).mono ?_
      rintro e w1 ⟨rfl, H1, F⟩
      have HH := H1
      obtain ⟨hb, ho, hk⟩ := H1
      rw [met_c] at ho
      have h1 := hh.1
      have h2 := hh.2
      have h3 := hk.max1
      have h4 := hk.len
      rw [met_c] at h4
      obtain ⟨g, cap, cur, rfl, hg, hcell⟩ := own_cell ho (a - 1).toNat (by omega)
      rw [HX.out] at hcell
      have hne : b ≠ g := hb.ne hg (by decide)
      have hc := hb.cell
      have hc2 : w1.cell? ⟨g, (a - 1).toNat, none⟩ = some (.int .i64 X) := (hg.cell _).trans hcell
      have hf2 : w1.frozen? ⟨g, a.toNat - 1, none⟩ = false := hg.free _
      rw [show (a - 1).toNat = a.toNat - 1 from by omega] at hc2
      clear hcell
      go_wp2_with fail
      go_ret
      obtain ⟨P1, P2⟩ := HH.put (by rw [met_c]) a x ((met_has _ _ _).2 hh) x1 x2
      exact ⟨rfl, P1, (F.mono (by simp)).trans' P2 (by simp [ownOf, Value.ownBlock])⟩
    · have hx' : (X != o) = true := by simpa using hXo
      have hn : ¬ (M.has a ∧ M.at_ a = o) := fun h => hXo (HV.out.symm.trans h.2)
      rw [decide_eq_false hn, if_neg hn]
      clear hXo hn
      go_enter Tryz.func50, Tryz.ntmps50
      go_wp2_with fail
      refine (rhas_any w b v M a H).mono ?_
      rintro e w1 ⟨rfl, H1, F⟩
      have HH := H1
      obtain ⟨hb, ho, hk⟩ := H1
      rw [met_c] at ho
      have h1 := hh.1
      have h2 := hh.2
      have h3 := hk.max1
      have h4 := hk.len
      rw [met_c] at h4
      obtain ⟨g, cap, cur, rfl, hg, hcell⟩ := own_cell ho (a - 1).toNat (by omega)
      rw [HX.out] at hcell
      have hne : b ≠ g := hb.ne hg (by decide)
      have hc := hb.cell
      have hc2 : w1.cell? ⟨g, (a - 1).toNat, none⟩ = some (.int .i64 X) := (hg.cell _).trans hcell
      have hf2 : w1.frozen? ⟨g, a.toNat - 1, none⟩ = false := hg.free _
      rw [show (a - 1).toNat = a.toNat - 1 from by omega] at hc2
      clear hcell
      go_wp2_with fail
      go_ret
      exact ⟨rfl, HH, F.mono (by simp)⟩
  · have hd : decide (M.has a) = false := by simpa using hh
    have hn : ¬ (M.has a ∧ M.at_ a = o) := fun h => hh h.1
    rw [decide_eq_false hn, if_neg hn]
    clear hn
    go_enter Tryz.func50, Tryz.ntmps50
    go_wp2_with fail
    refine (rhas_any w b v M a H).mono ?_
    rintro e w1 ⟨rfl, H1, F⟩
    go_wp2_with fail
    go_ret
    exact ⟨rfl, H1, F.mono (by simp)⟩

theorem radd_any (w : World) (b : Nat) (v : Value) (M : MS) (a d : Int) (H : RMemAt w b v M) :
    Calls Tryz.prog 51 #[.pointer (some ⟨b, 0, none⟩), .int .i64 a, .int .i64 d] w fun e w' => e = .returned (.int .i64 (M.at_ a)) ∧ RMemAt w' b v ((M.met a).put a (R.w64 (M.at_ a + d))) ∧ Fr (b :: ownOf v) w w' := by
  by_cases hh : M.has a
  · have hd : decide (M.has a) = true := by simpa using hh
    obtain ⟨X, hX⟩ : ∃ X, M.c.getD (a - 1).toNat 0 = X := ⟨_, rfl⟩
    have hv := at_has M a hh
    rw [hv, hX]
    have HX := Lib.hid hX
    clear hX hv
    go_enter Tryz.func51, Tryz.ntmps51
    go_wp2_with fail
    refine (rhas_any w b v M a H).mono ?_
    rintro e w1 ⟨rfl, H1, F⟩
    have HH := H1
    obtain ⟨hb, ho, hk⟩ := H1
    rw [met_c] at ho
    have h1 := hh.1
    have h2 := hh.2
    have h3 := hk.max1
    have h4 := hk.len
    rw [met_c] at h4
    obtain ⟨g, cap, cur, rfl, hg, hcell⟩ := own_cell ho (a - 1).toNat (by omega)
    rw [HX.out] at hcell
    have hne : b ≠ g := hb.ne hg (by decide)
    have hc := hb.cell
    have hc2 : w1.cell? ⟨g, (a - 1).toNat, none⟩ = some (.int .i64 X) := (hg.cell _).trans hcell
    have hf2 : w1.frozen? ⟨g, a.toNat - 1, none⟩ = false := hg.free _
    rw [show (a - 1).toNat = a.toNat - 1 from by omega] at hc2
    clear hcell
    go_wp2_with fail
    go_ret
    obtain ⟨P1, P2⟩ := HH.put (by rw [met_c]) a (wrap64 (X + d)) ((met_has _ _ _).2 hh) (by unfold wrap64; omega) (by unfold wrap64; omega)
    exact ⟨rfl, by rw [← w64_eq]; exact P1, (F.mono (by simp)).trans' P2 (by simp [ownOf, Value.ownBlock])⟩
  · have hd : decide (M.has a) = false := by simpa using hh
    rw [at_not M a hh]
    go_enter Tryz.func51, Tryz.ntmps51
    go_wp2_with fail
    refine (rhas_any w b v M a H).mono ?_
    rintro e w1 ⟨rfl, H1, F⟩
    go_wp2_with fail
    go_ret
    refine ⟨rfl, ?_, F.mono (by simp)⟩
    unfold R.MS.put; rw [if_neg (fun h => hh ((met_has _ _ _).1 h))]
    exact H1

theorem make_ok {M : MS} (h : M.Ok) (W : List Int) (hW : ∀ x ∈ W, -9223372036854775808 ≤ x ∧ x ≤ 9223372036854775807) : (M.make W).Ok := by
  unfold R.MS.make; split
  · rename_i hf
    refine ⟨h.max0, h.max1, ?_, ?_⟩
    · have := hf.2; simp only [List.length_append]; show ((M.c.length + W.length : Nat) : Int) ≤ M.max; omega
    · intro x hx; rcases List.mem_append.1 hx with hx | hx
      · exact h.bd x hx
      · exact hW x hx
  · exact ⟨h.max0, h.max1, h.len, h.bd⟩

set_option maxHeartbeats 1000000 in
theorem rmake_fits (w : World) (b : Nat) (v : Value) (M : MS) (W : List Int) (wa : Option Addr) (wc : Nat) (H : RMemAt w b v M) (HW : Rd w 2 wa (ints .i64 W)) (hko : (M.make W).Ok) (hfit : M.fits W) :
    Calls Tryz.prog 9 #[.pointer (some ⟨b, 0, none⟩), .slice wa W.length wc] w fun e w' => e = .returned (.tuple #[.int .i64 (M.c.length + 1), .bool true]) ∧ ∃ v', RMemAt w' b v' (M.make W) ∧ (v'.ownBlock = v.ownBlock ∨ v'.ownBlock = some w.heap.size) ∧ Fr (b :: ownOf v) w w' := by
  obtain ⟨hb, ho, hk⟩ := H
  obtain ⟨sa, cap, rfl, hr⟩ := own_Rd ho
  have hc := hb.cell
  have hf := hb.free
  have h1 := hk.max1
  have h2 := hk.len
  have hbl := hb.lt
  have g1 : ((W.length : Int) == 0) = false := by have := List.length_pos_iff.2 hfit.1; rw [beq_eq_false_iff_ne]; omega
  have g2 : (W.length : Int) ≤ M.max - M.c.length := hfit.2
  have F1 : Fr [b] w (w.setCell ⟨b, 2, none⟩ (.int .i64 (wrap64 (M.count + 1)))) := (Fr.refl _ _).setCell (.inl (by simp)) _
  have hb1 := hb.set 2 (.int .i64 (wrap64 (M.count + 1)))
  have ho1 := own_keep ho F1 (own_out ho hb (by decide))
  have HW1 := HW.keep F1 (hb.out (by decide))
  have hob := own_out ho hb (by decide)
  have g4 : decide (M.max - (M.c.length : Int) < (W.length : Int)) = false := by simp; omega
  have hbn : b ∉ ownOf (.slice sa M.c.length cap) := by
    intro hm
    exact hob b (by simpa [ownOf] using hm) (by simp)
  go_enter Tryz.func9, Tryz.ntmps9
  go_wp2
  go_quiet (fail)
  go_wp2_with (at_builtin; refine append_i64 _ rfl _ _ rfl (.slice sa M.c.length cap) M.c W rfl ho1 wa _ wc rfl rfl HW1 hfit.1 (by omega) ?_; intro v' w1 hown' F2 hat'; obtain ⟨sa', cap', rfl, hR'⟩ := own_Rd hown'; have hb2 := (hb1.drewN _).keep F2 hbn; have hc2 := hb2.cell; have hf2 := hb2.free; clear hc hf)
  go_ret2
  have F3 := (((F1.drewN _).mono (S' := b :: ownOf (.slice sa M.c.length cap)) (by simp)).trans (F2.mono (fun x hx => List.mem_cons_of_mem _ hx))).setCell (p := ⟨b, 1, none⟩) (.inl (by simp)) (.slice sa' (M.c.length + W.length) cap')
  unfold R.MS.make at hko ⊢
  rw [if_pos hfit] at hko ⊢
  refine ⟨rfl, _, ⟨?_, by rw [List.length_append]; exact own_keep hown' ((Fr.refl [b] _).setCell (.inl (by simp)) _) (own_out hown' hb2 (by decide)), hko⟩, by simpa [World.setCell] using hat', F3⟩
  have e := hb2.set 1 (.slice sa' (M.c.length + W.length) cap')
  rw [w64_eq] at e
  exact e

set_option maxHeartbeats 1000000 in
theorem rmake_not (w : World) (b : Nat) (v : Value) (M : MS) (W : List Int) (wa : Option Addr) (wc : Nat) (H : RMemAt w b v M) (hko : (M.make W).Ok) (hfit : ¬ M.fits W) :
    Calls Tryz.prog 9 #[.pointer (some ⟨b, 0, none⟩), .slice wa W.length wc] w fun e w' => e = .returned (.tuple #[.int .i64 0, .bool false]) ∧ ∃ v', RMemAt w' b v' (M.make W) ∧ (v'.ownBlock = v.ownBlock ∨ v'.ownBlock = some w.heap.size) ∧ Fr (b :: ownOf v) w w' := by
  obtain ⟨hb, ho, hk⟩ := H
  obtain ⟨sa, cap, rfl, hr⟩ := own_Rd ho
  have hc := hb.cell
  have hf := hb.free
  have h1 := hk.max1
  have h2 := hk.len
  have hbl := hb.lt
  have hob := own_out ho hb (by decide)
  have hfit' : W = [] ∨ (¬ W = [] ∧ M.max - (M.c.length : Int) < (W.length : Int)) := by
    by_cases h : W = []
    · exact .inl h
    · exact .inr ⟨h, Int.not_le.1 fun x => hfit ⟨h, x⟩⟩
  unfold R.MS.make at hko ⊢
  rw [if_neg hfit] at hko ⊢
  have F5 : ∀ n, Fr [b] w (((w.setCell ⟨b, 2, none⟩ (.int .i64 (wrap64 (M.count + 1)))).drewN n).setCell ⟨b, 4, none⟩ (.int .i64 (wrap64 (M.refused + 1)))) := fun n => (((Fr.refl _ _).setCell (.inl (by simp)) _).drewN n).setCell (.inl (by simp)) _
  rcases hfit' with h | ⟨h, h'⟩
  · have g1 : ((W.length : Int) == 0) = true := by rw [h]; rfl
    clear h
    go_enter Tryz.func9, Tryz.ntmps9
    go_wp2
    go_quiet (fail)
    go_wp2
    go_ret2
    refine ⟨rfl, _, ⟨?_, own_keep ho (F5 _) hob, hko⟩, .inl rfl, (F5 _).mono (by simp)⟩
    have e := ((hb.set 2 (.int .i64 (wrap64 (M.count + 1)))).drewN nq).set 4 (.int .i64 (wrap64 (M.refused + 1)))
    simp only [← w64_eq]
    exact e
  · have g4 : decide (M.max - (M.c.length : Int) < (W.length : Int)) = true := by simpa using h'
    have g1 : ((W.length : Int) == 0) = false := by have := List.length_pos_iff.2 h; rw [beq_eq_false_iff_ne]; omega
    clear h h'
    go_enter Tryz.func9, Tryz.ntmps9
    go_wp2
    go_quiet (fail)
    go_wp2
    go_ret2
    refine ⟨rfl, _, ⟨?_, own_keep ho (F5 _) hob, hko⟩, .inl rfl, (F5 _).mono (by simp)⟩
    have e := ((hb.set 2 (.int .i64 (wrap64 (M.count + 1)))).drewN nq).set 4 (.int .i64 (wrap64 (M.refused + 1)))
    simp only [← w64_eq]
    exact e

theorem rmake_any (w : World) (b : Nat) (v : Value) (M : MS) (W : List Int) (wa : Option Addr) (wc : Nat) (H : RMemAt w b v M) (HW : Rd w 2 wa (ints .i64 W)) (hW : ∀ x ∈ W, -9223372036854775808 ≤ x ∧ x ≤ 9223372036854775807) :
    Calls Tryz.prog 9 #[.pointer (some ⟨b, 0, none⟩), .slice wa W.length wc] w fun e w' => e = .returned (.tuple #[.int .i64 (M.made W), .bool (decide (M.fits W))]) ∧ ∃ v', RMemAt w' b v' (M.make W) ∧ (v'.ownBlock = v.ownBlock ∨ v'.ownBlock = some w.heap.size) ∧ Fr (b :: ownOf v) w w' := by
  have hko := make_ok H.2.2 W hW
  by_cases hfit : M.fits W
  · rw [show M.made W = (M.c.length : Int) + 1 from by unfold R.MS.made; rw [if_pos hfit], decide_eq_true hfit]
    exact rmake_fits w b v M W wa wc H HW hko hfit
  · rw [show M.made W = 0 from by unfold R.MS.made; rw [if_neg hfit], decide_eq_false hfit]
    exact rmake_not w b v M W wa wc H hko hfit
end Go.Proofs.YtfgkgmfcbhbomaaGreat
