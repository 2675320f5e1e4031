/- 'append' of whatever elements; slices of pairs. -/
import Derived.Test.YtilkkfpfcegncaaSlices
import Derived.Deep.AppendLies
set_option linter.unusedVariables false
namespace Go.Proofs.Ytilkkfpfcegncaa
open Go.RowKit

/-- What the table says of an element type. -/
structure Elem (t e : TypeId) (z : Value) (size bytes : Nat) : Prop where
  under : Try.prog.underlying t = some (.slice e)
  info : (Try.prog.info? e).map (fun i => (i.zero, i.size, i.bytes)) = some (some z, size, bytes)
  cells : z.cells.size = size
  pos : 0 < size
  bytes_pos : 0 < bytes

theorem owns_form {w : World} {e : TypeId} {size : Nat} {v : Value} {n : Nat} {xs : List Value} (h : w.ownsRow 0 e size v n xs) :
    (v = .slice none 0 0 ∧ n = 0 ∧ xs = []) ∨ ∃ g cap cur, v = .slice (some ⟨g, 0, none⟩) n cap ∧ Blk w g cur e ∧ n ≤ cap ∧ cap ≤ maxLen ∧ cur.size = cap * size ∧ cur.toList.take (n * size) = xs ∧ xs.length = n * size := by
  obtain ⟨h1, h2⟩ := h
  rcases h2 with ⟨rfl, rfl⟩ | ⟨g, cap, cur, rfl, _, hh, hn, hm, hs, ht⟩
  · exact .inl ⟨rfl, rfl, List.eq_nil_of_length_eq_zero (by simpa using h1)⟩
  · exact .inr ⟨g, cap, cur, rfl, hh, hn, hm, hs, ht, h1⟩
theorem owns_keep {w w' : World} {e : TypeId} {size : Nat} {v : Value} {n : Nat} {xs : List Value} {S : List Nat} (h : w.ownsRow 0 e size v n xs) (hf : Fr S w w') (hn : ∀ g, v.ownBlock = some g → g ∉ S) : w'.ownsRow 0 e size v n xs := by
  obtain ⟨h1, h2⟩ := h
  refine ⟨h1, ?_⟩
  rcases h2 with h2 | ⟨g, cap, cur, rfl, hb, hh, r⟩
  · exact .inl h2
  · exact .inr ⟨g, cap, cur, rfl, hb, (Blk.keep hh hf (hn g rfl)), r⟩
theorem owns_Rd {w : World} {e : TypeId} {size : Nat} {v : Value} {n : Nat} {xs : List Value} (h : w.ownsRow 0 e size v n xs) : ∃ a cap, v = .slice a n cap ∧ n ≤ cap ∧ Rd w e a xs := by
  rcases owns_form h with ⟨rfl, rfl, rfl⟩ | ⟨g, cap, cur, rfl, hb, hn, _, hs, ht, hl⟩
  · exact ⟨none, 0, rfl, Nat.le_refl _, Rd.nil _ _ _⟩
  · refine ⟨_, cap, rfl, hn, .inr ⟨g, 0, cur, (0, 0), rfl, hb, fun j hj => ?_⟩⟩
    rw [← ht, List.getElem?_take, if_pos (by omega)]
    simp
theorem owns_out {w : World} {e T : TypeId} {size : Nat} {v : Value} {n : Nat} {xs : List Value} {b : Nat} {cs : Array Value} (ho : w.ownsRow 0 e size v n xs) (hb : Blk w b cs T) (hT : T ≠ e) : ∀ g, v.ownBlock = some g → g ∉ [b] := by
  intro g hg hm
  have : g = b := by simpa using hm
  subst this
  rcases owns_form ho with ⟨rfl, _, _⟩ | ⟨g', cap, cur, rfl, hb', _⟩
  · simp [Value.ownBlock] at hg
  · have : g' = g := by simpa [Value.ownBlock] using hg
    subst this
    exact hb.ne hb' hT rfl
theorem owns_lt {w : World} {e : TypeId} {size : Nat} {v : Value} {n : Nat} {xs : List Value} (ho : w.ownsRow 0 e size v n xs) : ∀ g, v.ownBlock = some g → g < w.heap.size := by
  intro g hg
  rcases owns_form ho with ⟨rfl, _, _⟩ | ⟨g', cap, cur, rfl, hb', _⟩
  · simp [Value.ownBlock] at hg
  · have : g' = g := by simpa [Value.ownBlock] using hg
    subst this
    exact hb'.lt
/-- An empty slice of one's own, just made. -/
theorem owns_empty (w : World) (e : TypeId) (size : Nat) : (w.alloc (.cells #[] e)).ownsRow 0 e size (.slice (some ⟨w.heap.size, 0, none⟩) 0 0) 0 [] :=
  ⟨by simp, .inr ⟨w.heap.size, 0, #[], rfl, Nat.zero_le _, heap_alloc_new _ _, Nat.le_refl _, by simp, by simp, by simp⟩⟩

theorem run_append_none {t e : TypeId} {z : Value} {size bytes : Nat} (E : Elem t e z size bytes) (w : World) (ty : TypeId) (base : Option Addr) (n cap c : Nat) (hn : n ≤ cap) :
    (Builtin.append_ #[t, t] ty #[.slice base n cap, .slice none 0 c]).run Try.prog w = .ok (.slice base n cap) w := by
  obtain ⟨i0, hi, hzz⟩ := Option.map_eq_some_iff.1 E.info
  simp only [Prod.mk.injEq] at hzz
  obtain ⟨hz0, hz1, hz2⟩ := hzz
  have hu := fun w : World => run_underlying (P := Try.prog) (w := w) E.under
  have hsz : (sizeOf e).run Try.prog w = .ok size w := by simp [sizeOf, typeInfo, hi, hz1]
  unfold Builtin.append_
  simp [hu, hsz, Builtin.lenOf, Builtin.firstCells, hn]
  cases base <;> simp [storeCells]

/-- 'append(v, x...)', v being owned, x maybe nil. -/
theorem append_gen {t e : TypeId} {z : Value} {size bytes : Nat} (E : Elem t e z size bytes) (w : World) {ops : Array Oper} {rest : List Oper} {o : Oper} {a : Act} {Q : Exit → Act → World → Prop} (hgd : o.guard = none) (s x : Operand)
    (ho : o.op = .call { callee := .builtin .append, args := #[s, x], argTypes := #[t, t] })
    (v : Value) (n : Nat) (xs news : List Value) (hs : a.eval s = v) (hown : w.ownsRow 0 e size v n xs) (ad : Option Addr) (m c : Nat) (hx : a.eval x = .slice ad m c) (hm : news.length = m * size)
    (HR : Rd w e ad news) (h1 : ∀ u ∈ news, u.oneCell' = true) (hlen : (n + m) * bytes ≤ 140737488355328)
    (h : ∀ v' w', w'.ownsRow 0 e size v' (n + m) (xs ++ news) → Fr (ownOf v) w w' → (v'.ownBlock = v.ownBlock ∨ v'.ownBlock = some w.heap.size) → wpList Try.prog ops Q rest (a.put o.dst v') w') :
    wpList Try.prog ops Q (o :: rest) a w := by
  have hnm : n + m ≤ 140737488355328 := Nat.le_trans (Nat.le_mul_of_pos_right _ E.bytes_pos) hlen
  cases ad with
  | none =>
    have hn : news = [] := by
      rcases HR with h' | ⟨b, off, cs, fr, ha, _⟩
      · exact h'
      · cases ha
    subst hn
    have hm0 : m = 0 := by
      rcases Nat.eq_zero_or_pos m with h0 | h0
      · exact h0
      · have := Nat.mul_pos h0 E.pos; simp at hm; omega
    subst hm0
    refine wpList_plain hgd fun K hK => ?_
    obtain ⟨sa, cap, rfl, hc, hr⟩ := owns_Rd hown
    unfold Oper.wp execOp
    simp only [ho, resolve, invoke, builtin, Sem.run_bind, Sem.run_pure, Result.andThen_ok, List.map_toArray, List.map_cons, List.map_nil, hs, hx, run_append_none E w o.type sa n cap c hc]
    exact hK _ _ (h _ w (by simpa using hown) (Fr.refl _ _) (.inl rfl))
  | some ad =>
    obtain ⟨i0, hi, hzz⟩ := Option.map_eq_some_iff.1 E.info
    simp only [Prod.mk.injEq] at hzz
    obtain ⟨hz0, hz1, hz2⟩ := hzz
    refine wpList_append_own_at w hgd s x t ho 0 e i0 z size bytes E.under hi hz0 hz1 hz2 E.cells E.pos v n xs hs hown ad m c news hx hm HR.cells h1 (by simp only [maxLen]; omega) hlen (Nat.zero_le _) ?_
    intro v' w' h1 h2 _ h4
    refine h v' w' h1 ⟨h2.os, h2.tape, h2.output, h2.size, fun k hk hn => h2.block k hk (fun e => hn ?_)⟩ h4
    unfold ownOf
    rw [← e]
    simp

def pcells (l : List (Int × Int)) : List Value := l.flatMap fun p => [.int .i64 p.1, .int .i64 p.2]
theorem elem_pair : Elem 23 25 (.agg #[.int .i64 0, .int .i64 0]) 2 16 := ⟨Try.underlying23, by kernel_rfl, rfl, by decide, by decide⟩
theorem pcells_length (l : List (Int × Int)) : (pcells l).length = l.length * 2 := by induction l with | nil => rfl | cons p l ih => simp [pcells] at ih ⊢; omega
theorem pcells_append (l m : List (Int × Int)) : pcells (l ++ m) = pcells l ++ pcells m := by simp [pcells]
theorem pcells_flat (l : List (Int × Int)) : ∀ u ∈ pcells l, u.oneCell' = true := by
  intro u hu
  obtain ⟨p, _, hp⟩ := List.mem_flatMap.1 hu
  simp at hp
  rcases hp with rfl | rfl <;> rfl
theorem pcells_at (l : List (Int × Int)) : ∀ (j : Nat) (p : Int × Int), l[j]? = some p → (pcells l)[j * 2]? = some (.int .i64 p.1) ∧ (pcells l)[j * 2 + 1]? = some (.int .i64 p.2) := by
  induction l with
  | nil => intro j p h; simp at h
  | cons q l ih =>
    intro j p h
    cases j with
    | zero => simp at h; subst h; simp [pcells]
    | succ j =>
      have e : pcells (q :: l) = .int .i64 q.1 :: .int .i64 q.2 :: pcells l := by simp [pcells]
      rw [e, show (j + 1) * 2 = j * 2 + 2 from by omega]
      simpa using ih j p (by simpa using h)
theorem Rd.pref {w : World} {T : TypeId} {a : Option Addr} {xs ys : List Value} (h : Rd w T a xs) (hp : ys <+: xs) : Rd w T a ys := by
  obtain ⟨zs, rfl⟩ := hp
  exact h.take
theorem pcells_take (l : List (Int × Int)) (n : Nat) : pcells (l.take n) <+: pcells l := by
  conv => rhs; rw [← List.take_append_drop n l, pcells_append]
  exact List.prefix_append _ _
theorem Rd.shift {w : World} {T : TypeId} {b off : Nat} {xs ys : List Value} (h : Rd w T (some ⟨b, off, none⟩) (xs ++ ys)) : Rd w T (some ⟨b, off + xs.length, none⟩) ys := by
  rcases h with h | ⟨b', off', cs, fr, ha, hb, hc⟩
  · exact .inl (List.append_eq_nil_iff.1 h).2
  · injection ha with ha
    injection ha with h1 h2
    subst h1 h2
    refine .inr ⟨b, off + xs.length, cs, fr, rfl, hb, fun j hj => ?_⟩
    have := hc (xs.length + j) (by simp; omega)
    rw [List.getElem?_append_right (by omega)] at this
    rw [Nat.add_assoc, this]
    congr 1
    omega

theorem rd_drop {w : World} {b off : Nat} {l : List (Int × Int)} {d : Nat} (h : Rd w 25 (some ⟨b, off, none⟩) (pcells l)) (hd : d ≤ l.length) : Rd w 25 (some ⟨b, off + d * 2, none⟩) (pcells (l.drop d)) := by
  have e : pcells l = pcells (l.take d) ++ pcells (l.drop d) := by rw [← pcells_append, List.take_append_drop]
  rw [e] at h
  have := h.shift
  rw [pcells_length, List.length_take, Nat.min_eq_left hd] at this
  exact this
end Go.Proofs.Ytilkkfpfcegncaa
