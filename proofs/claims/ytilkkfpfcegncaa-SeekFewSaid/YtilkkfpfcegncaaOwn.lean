/- Rows that are owned; a memory's cells. -/
import Derived.Test.YtilkkfpfcegncaaBase
import Derived.Test.YtilkkfpfcegncaaNum
import Derived.Maps.AppendAt
import Derived.OwnWalk
set_option linter.unusedVariables false
namespace Go.Proofs.Ytilkkfpfcegncaa
open Go.RowKit
open R (MS)

theorem w64_eq (n : Int) : wrap64 n = R.w64 n := by unfold wrap64 R.w64; omega
theorem w64_bd (n : Int) : -9223372036854775808 ≤ R.w64 n ∧ R.w64 n ≤ 9223372036854775807 := by unfold R.w64; omega

def ownOf (v : Value) : List Nat := v.ownBlock.toList
/-- The program's memory, at block b; v: the slice of its cells. -/
def MemAt (w : World) (b : Nat) (v : Value) (M : MS) : Prop :=
  Blk w b #[v, .int .i64 M.max, .int .i64 M.count, .int .i64 M.odd, .int .i64 M.refused] 42 ∧ w.ownsRow 0 2 1 v M.c.length (ints .i64 M.c) ∧ M.Ok
/-- What is owned: nil, or a block whose head it is. -/
theorem own_form {w : World} {e : TypeId} {v : Value} {n : Nat} {xs : List Value} (h : w.ownsRow 0 e 1 v n xs) :
    (v = .slice none 0 0 ∧ n = 0 ∧ xs = []) ∨ ∃ g cap cur, v = .slice (some ⟨g, 0, none⟩) n cap ∧ Blk w g cur e ∧ n ≤ cap ∧ cap ≤ maxLen ∧ cur.size = cap ∧ cur.toList.take n = xs ∧ xs.length = n := by
  obtain ⟨h1, h2⟩ := h
  rcases h2 with ⟨rfl, rfl⟩ | ⟨g, cap, cur, rfl, _, hh, hn, hm, hs, ht⟩
  · exact .inl ⟨rfl, rfl, List.eq_nil_of_length_eq_zero (by simpa using h1)⟩
  · exact .inr ⟨g, cap, cur, rfl, hh, hn, hm, by simpa using hs, by simpa using ht, by simpa using h1⟩
theorem own_keep {w w' : World} {e : TypeId} {v : Value} {n : Nat} {xs : List Value} {S : List Nat} (h : w.ownsRow 0 e 1 v n xs) (hf : Fr S w w') (hn : ∀ g, v.ownBlock = some g → g ∉ S) : w'.ownsRow 0 e 1 v n xs := by
  obtain ⟨h1, h2⟩ := h
  refine ⟨h1, ?_⟩
  rcases h2 with h2 | ⟨g, cap, cur, rfl, hb, hh, r⟩
  · exact .inl h2
  · exact .inr ⟨g, cap, cur, rfl, hb, (Blk.keep hh hf (hn g rfl)), r⟩
theorem own_Rd {w : World} {e : TypeId} {v : Value} {n : Nat} {xs : List Value} (h : w.ownsRow 0 e 1 v n xs) : ∃ a cap, v = .slice a n cap ∧ Rd w e a xs := by
  rcases own_form h with ⟨rfl, rfl, rfl⟩ | ⟨g, cap, cur, rfl, hb, hn, _, hs, ht, hl⟩
  · exact ⟨none, 0, rfl, Rd.nil _ _ _⟩
  · refine ⟨_, cap, rfl, .inr ⟨g, 0, cur, (0, 0), rfl, hb, fun j hj => ?_⟩⟩
    rw [← ht, List.getElem?_take, if_pos (by omega)]
    simp
theorem own_cell {w : World} {e : TypeId} {v : Value} {k : IntKind} {xs : List Int} (h : w.ownsRow 0 e 1 v xs.length (ints k xs)) (j : Nat) (hj : j < xs.length) :
    ∃ g cap cur, v = .slice (some ⟨g, 0, none⟩) xs.length cap ∧ Blk w g cur e ∧ cur[j]? = some (.int k (xs.getD j 0)) := by
  rcases own_form h with ⟨_, h0, _⟩ | ⟨g, cap, cur, rfl, hb, hn, _, hs, ht, hl⟩
  · omega
  · refine ⟨g, cap, cur, rfl, hb, ?_⟩
    have e := ints_at k xs j hj
    rw [← ht, List.getElem?_take, if_pos (by omega)] at e
    simpa using e
theorem own_set {w : World} {e : TypeId} {g cap n : Nat} {k : IntKind} {xs : List Int} (h : w.ownsRow 0 e 1 (.slice (some ⟨g, 0, none⟩) n cap) n (ints k xs)) (j : Nat) (hj : j < n) (x : Int) :
    (w.setCell ⟨g, j, none⟩ (.int k x)).ownsRow 0 e 1 (.slice (some ⟨g, 0, none⟩) n cap) n (ints k (xs.set j x)) := by
  obtain ⟨h1, h2⟩ := h
  refine ⟨by simpa [ints] using h1, .inr ?_⟩
  rcases h2 with ⟨h2, _⟩ | ⟨g', cap', cur, he, hb, hh, hn, hm, hs, ht⟩
  · cases h2
  · injection he with h3 h4 h5
    injection h3 with h3
    injection h3 with h3
    subst h3 h5
    refine ⟨_, _, cur.setIfInBounds j (.int k x), rfl, hb, Blk.set hh j _, hn, hm, by simpa using hs, ?_⟩
    simp only [Nat.mul_one] at ht ⊢
    rw [Array.toList_setIfInBounds, List.take_set, ht]
    simp [ints, List.map_set]
theorem own_out {w : World} {e T : TypeId} {v : Value} {n : Nat} {xs : List Value} {b : Nat} {cs : Array Value} (ho : w.ownsRow 0 e 1 v n xs) (hb : Blk w b cs T) (hT : T ≠ e) : ∀ g, v.ownBlock = some g → g ∉ [b] := by
  intro g hg hm
  have : g = b := by simpa using hm
  subst this
  rcases own_form ho with ⟨rfl, _, _⟩ | ⟨g', cap, cur, rfl, hb', _⟩
  · simp [Value.ownBlock] at hg
  · have : g' = g := by simpa [Value.ownBlock] using hg
    subst this
    exact hb.ne hb' hT rfl
theorem own_lt {w : World} {e : TypeId} {v : Value} {n : Nat} {xs : List Value} (ho : w.ownsRow 0 e 1 v n xs) : ∀ g, v.ownBlock = some g → g < w.heap.size := by
  intro g hg
  rcases own_form ho with ⟨rfl, _, _⟩ | ⟨g', cap, cur, rfl, hb', _⟩
  · simp [Value.ownBlock] at hg
  · have : g' = g := by simpa [Value.ownBlock] using hg
    subst this
    exact hb'.lt
theorem getD_ok {M : MS} (h : M.Ok) (j : Nat) : -9223372036854775808 ≤ M.c.getD j 0 ∧ M.c.getD j 0 ≤ 9223372036854775807 := by
  rw [List.getD_eq_getElem?_getD]
  rcases Nat.lt_or_ge j M.c.length with h' | h'
  · rw [List.getElem?_eq_getElem h']; exact h.bd _ (List.getElem_mem h')
  · rw [List.getElem?_eq_none h']; exact ⟨by decide, by decide⟩
theorem at_ok {M : MS} (h : M.Ok) (a : Int) : -9223372036854775808 ≤ M.at_ a ∧ M.at_ a ≤ 9223372036854775807 := by
  unfold R.MS.at_; split
  · exact getD_ok h _
  · exact ⟨by decide, by decide⟩
theorem met_ok {M : MS} (h : M.Ok) (a : Int) : (M.met a).Ok := by unfold R.MS.met; split <;> exact ⟨h.max0, h.max1, h.len, h.bd⟩
theorem put_ok {M : MS} (h : M.Ok) (a x : Int) (x1 : -9223372036854775808 ≤ x) (x2 : x ≤ 9223372036854775807) : (M.put a x).Ok := by
  unfold R.MS.put; split
  · refine ⟨h.max0, h.max1, by simpa using h.len, fun y hy => ?_⟩
    rcases List.mem_or_eq_of_mem_set hy with hy | hy
    · exact h.bd _ hy
    · subst hy; exact ⟨x1, x2⟩
  · exact h
theorem info_i64 : (Try.prog.info? 2).map (fun i => (i.zero, i.size, i.bytes)) = some (some (.int .i64 0), 1, 8) := by kernel_rfl
theorem Rd.cells {w : World} {T : TypeId} {ad : Addr} {xs : List Value} (h : Rd w T (some ad) xs) : ∀ j u, xs[j]? = some u → w.cell? (ad.add j) = some u := by
  intro j u hj
  obtain ⟨ad', ha, hc⟩ := h.at_ j u hj
  injection ha with ha
  subst ha
  exact hc
theorem ints_one (k : IntKind) (xs : List Int) : ∀ u ∈ ints k xs, u.oneCell' = true := by
  intro u hu
  obtain ⟨x, _, rfl⟩ := List.mem_map.1 hu
  rfl
/-- 'append(v, ys...)' of int64s, v being owned. -/
theorem append_i64 (w : World) {ops : Array Oper} {rest : List Oper} {o : Oper} {a : Act} {Q : Exit → Act → World → Prop} (hgd : o.guard = none) (s x : Operand)
    (ho : o.op = .call { callee := .builtin .append, args := #[s, x], argTypes := #[40, 40] })
    (v : Value) (xs ys : List Int) (hs : a.eval s = v) (hown : w.ownsRow 0 2 1 v xs.length (ints .i64 xs)) (ad : Option Addr) (n c : Nat) (hx : a.eval x = .slice ad n c) (hn : n = ys.length)
    (HR : Rd w 2 ad (ints .i64 ys)) (hne : ys ≠ []) (hlen : xs.length + ys.length ≤ 17592186044416)
    (h : ∀ v' w', w'.ownsRow 0 2 1 v' (xs.length + ys.length) (ints .i64 (xs ++ ys)) → Fr (ownOf v) w w' → (v'.ownBlock = v.ownBlock ∨ v'.ownBlock = some w.heap.size) → wpList Try.prog ops Q rest (a.put o.dst v') w') :
    wpList Try.prog ops Q (o :: rest) a w := by
  obtain ⟨i0, hi, hzz⟩ := Option.map_eq_some_iff.1 info_i64
  simp only [Prod.mk.injEq] at hzz
  obtain ⟨hz0, hz1, hz2⟩ := hzz
  subst hn
  cases ad with
  | none =>
    exfalso
    rcases HR with h' | ⟨b, off, cs, fr, ha, _⟩
    · exact hne (by simpa [ints] using h')
    · cases ha
  | some ad =>
    refine wpList_append_own_at w hgd s x 40 ho 0 2 i0 (.int .i64 0) 1 8 Try.underlying40 hi hz0 hz1 hz2 rfl (by decide) v xs.length (ints .i64 xs) hs hown ad ys.length c (ints .i64 ys) hx (by simp [ints]) HR.cells (ints_one _ _) (by simp only [maxLen]; omega) (by omega) (Nat.zero_le _) ?_
    intro v' w' h1 h2 _ h4
    refine h v' w' (by simpa [ints] using h1) ⟨h2.os, h2.tape, h2.output, h2.size, fun k hk hn => h2.block k hk (fun e => hn ?_)⟩ h4
    unfold ownOf
    rw [← e]
    simp
theorem met_c (M : MS) (a : Int) : (M.met a).c = M.c := by unfold R.MS.met; split <;> rfl
theorem met_max (M : MS) (a : Int) : (M.met a).max = M.max := by unfold R.MS.met; split <;> rfl
theorem met_has (M : MS) (a b : Int) : (M.met a).has b ↔ M.has b := by unfold R.MS.has; rw [met_c]
theorem ownBlock_slice (g n cap : Nat) : (Value.slice (some ⟨g, 0, none⟩) n cap).ownBlock = some g := rfl
theorem at_has (M : MS) (a : Int) (hh : M.has a) : M.at_ a = M.c.getD (a - 1).toNat 0 := by unfold R.MS.at_; rw [if_pos hh]
theorem at_not (M : MS) (a : Int) (hh : ¬ M.has a) : M.at_ a = 0 := by unfold R.MS.at_; rw [if_neg hh]
theorem make_ok {M : MS} (h : M.Ok) (W : List Int) (hW : ∀ x ∈ W, -9223372036854775808 ≤ x ∧ x ≤ 9223372036854775807) : (M.make W).Ok := by
  unfold R.MS.make; split
  · rename_i hf
    refine ⟨h.max0, h.max1, ?_, ?_⟩
    · have := hf.2; simp only [List.length_append]; show ((M.c.length + W.length : Nat) : Int) ≤ M.max; omega
    · intro x hx; rcases List.mem_append.1 hx with hx | hx
      · exact h.bd x hx
      · exact hW x hx
  · exact ⟨h.max0, h.max1, h.len, h.bd⟩
/-- Two slices share no block. -/
def Apart (v v' : Value) : Prop := ∀ g, v.ownBlock = some g → v'.ownBlock ≠ some g
/-- A slice's block is the same as before, or new. -/
def Same (w : World) (v v' : Value) : Prop := v'.ownBlock = v.ownBlock ∨ ∃ g, v'.ownBlock = some g ∧ w.heap.size ≤ g
theorem R.i64_1 : R.I64 1 := ⟨by decide, by decide⟩
theorem own_mem {v : Value} {g : Nat} (h : v.ownBlock = some g) : g ∈ ownOf v := by simp [ownOf, h]
theorem mem_own {v : Value} {g : Nat} (h : g ∈ ownOf v) : v.ownBlock = some g := by simpa [ownOf] using h
theorem at_c (M X : MS) (h : M.c = X.c) (a : Int) : M.at_ a = X.at_ a := by
  have hh : M.has a ↔ X.has a := by unfold R.MS.has; rw [h]
  by_cases hx : X.has a
  · rw [at_has X a hx, at_has M a (hh.2 hx), h]
  · rw [at_not X a hx, at_not M a (fun h' => hx (hh.1 h'))]
theorem MemAt.drewN {w : World} {b : Nat} {v : Value} {M : MS} (H : MemAt w b v M) (n : Nat) : MemAt (w.drewN n) b v M := H
theorem Fr.of_drew {S : List Nat} {a b : World} (h : Fr S a.drew b) : Fr S a b := ⟨h.os, h.tape, h.output, h.size, h.keep⟩
theorem Fr.of_drewN {S : List Nat} {a b : World} {n : Nat} (h : Fr S (a.drewN n) b) : Fr S a b := ⟨h.os, h.tape, h.output, h.size, h.keep⟩
end Go.Proofs.Ytilkkfpfcegncaa
