/- Whole structs, loaded and stored: their cells are not looked at one by one. -/
import Derived.Test.YtfgkgmfcbhbomaaGreatBase
import Derived.Laws.Rows
set_option linter.unusedVariables false
namespace Go.Proofs.YtfgkgmfcbhbomaaGreat
open Go.RowKit

def isRec (d : TypeDesc) : Bool := match d with | .struct _ | .array _ _ => true | _ => false

section
variable {P : Program}

theorem run_loadVar_agg (w : World) (g off n : Nat) (ty : TypeId) (d : TypeDesc) (T : TypeId) (cs xs : Array Value) (hg : Blk w g cs T) (hu : P.underlying ty = some d) (hd : isRec d = true) (hi : (P.info? ty).map (·.size) = some n)
    (hn : xs.size = n) (hx : ∀ j, j < n → cs[off + j]? = xs[j]?) : (loadVar ty ⟨g, off, none⟩).run P w = .ok (.agg xs) w := by
  have hl : (loadCells ⟨g, off, none⟩ xs.toList.length).run P w = .ok xs.toList.toArray w :=
    run_loadCells_list (P := P) w ⟨g, off, none⟩ xs.toList (fun j v hv => by
      have hadd : (⟨g, off, none⟩ : Addr).add j = ⟨g, off + j, none⟩ := by unfold Addr.add; split <;> simp_all
      have hj : j < xs.size := by
        rcases Nat.lt_or_ge j xs.size with h | h
        · exact h
        · rw [List.getElem?_eq_none (by simpa using h)] at hv; cases hv
      rw [hadd, hg.cell, hx j (by omega)]
      simpa using hv)
  rw [Array.length_toList, hn] at hl
  simp only [Array.toArray_toList] at hl
  obtain ⟨i, hi1, hi2⟩ := Option.map_eq_some_iff.1 hi
  have hs : (sizeOf ty).run P w = .ok n w := by simp [sizeOf, typeInfo, hi1, hi2]
  have ha : (isAgg ty).run P w = .ok true w := by
    unfold isAgg
    simp only [Sem.run_bind, run_underlying hu, Result.andThen_ok]
    cases d <;> simp_all [isRec]
  unfold loadVar
  simp only [Sem.run_bind, ha, Result.andThen_ok, if_true, hs, hl, Sem.run_pure]

theorem load_agg {ops : Array Oper} {rest : List Oper} {o : Oper} {a : Act} {w : World} {Q : Exit → Act → World → Prop} (hgd : o.guard = none) (ty : TypeId) (x : Operand) (ho : o.op = .load ty x)
    (g off n : Nat) (hx : a.eval x = .pointer (some ⟨g, off, none⟩)) (d : TypeDesc) (T : TypeId) (cs xs : Array Value) (hg : Blk w g cs T) (hu : P.underlying ty = some d) (hd : isRec d = true) (hi : (P.info? ty).map (·.size) = some n)
    (hn : xs.size = n) (hxs : ∀ j, j < n → cs[off + j]? = xs[j]?) (h : wpList P ops Q rest (a.put o.dst (.agg xs)) w) : wpList P ops Q (o :: rest) a w := by
  refine wpList_plain hgd fun K hK => ?_
  unfold Oper.wp execOp
  simp only [ho, hx, Instr.loadAt, Instr.sureAddr, Sem.run_bind, Sem.run_pure, Result.andThen_ok, run_loadVar_agg w g off n ty d T cs xs hg hu hd hi hn hxs]
  exact hK _ _ h

/-- Cells written over others, from off on. -/
def over (cs : Array Value) (off : Nat) (vs : List Value) : Array Value := (cs.toList.take off ++ vs ++ cs.toList.drop (off + vs.length)).toArray

theorem over_cons (cs : Array Value) (off : Nat) (v : Value) (vs : List Value) (h : off < cs.size) : over (cs.setIfInBounds off v) (off + 1) vs = over cs off (v :: vs) := by
  unfold over
  congr 1
  have hl : (cs.toList.take off).length = off := by simp; omega
  have e1 : (cs.setIfInBounds off v).toList.take (off + 1) = cs.toList.take off ++ [v] := by
    rw [Array.toList_setIfInBounds, List.take_set, List.take_succ_eq_append_getElem (by simpa using h)]
    rw [List.set_append]
    simp [hl]
  have e2 : (cs.setIfInBounds off v).toList.drop (off + 1 + vs.length) = cs.toList.drop (off + (vs.length + 1)) := by
    rw [Array.toList_setIfInBounds, List.drop_set, if_pos (by omega)]
    congr 1; omega
  rw [e1, e2]
  simp

theorem run_storeCells (g : Nat) (T : TypeId) (vs : List Value) (h1 : ∀ u ∈ vs, u.oneCell' = true) : ∀ (i off : Nat) (w : World) (cs : Array Value), Blk w g cs T → off + i + vs.length ≤ cs.size →
    ∃ w', (storeCells ⟨g, off, none⟩ vs i).run P w = .ok () w' ∧ Blk w' g (over cs (off + i) vs) T ∧ Fr [g] w w' ∧ w'.heap.size = w.heap.size ∧ w'.drawn = w.drawn := by
  induction vs with
  | nil =>
    intro i off w cs hb hs
    refine ⟨w, by simp [storeCells], ?_, Fr.refl _ _, rfl, rfl⟩
    simpa [over] using hb
  | cons v vs ih =>
    intro i off w cs hb hs
    simp only [List.length_cons] at hs
    have hadd : (⟨g, off, none⟩ : Addr).add i = ⟨g, off + i, none⟩ := by unfold Addr.add; split <;> simp_all
    have hlt : off + i < cs.size := by omega
    have hst : (store ⟨g, off + i, none⟩ v).run P w = .ok () (w.setCell ⟨g, off + i, none⟩ v) := by
      rw [run_store P w _ _ _ (h1 v (by simp)), hb.cell, Array.getElem?_eq_getElem hlt]
      simp [hb.free]
    obtain ⟨w', hr, hb', hf, hz, hdr⟩ := ih (fun u hu => h1 u (by simp [hu])) (i + 1) off (w.setCell ⟨g, off + i, none⟩ v) _ (hb.set (off + i) v) (by simp; omega)
    refine ⟨w', ?_, ?_, ((Fr.refl _ _).setCell (.inl (by simp)) _).trans hf, by rw [hz]; simp [World.setCell], by rw [hdr]; rfl⟩
    · simp only [storeCells, Sem.run_bind, hadd, hst, Result.andThen_ok, hr]
    · rw [← Nat.add_assoc, over_cons _ _ _ _ hlt] at hb'
      exact hb'

theorem fold_list (off : Nat) (vs : List Value) : ∀ (i : Nat) (cs : Array Value), off + i + vs.length ≤ cs.size → (vs.zipIdx i).foldl (fun cs x => cs.setIfInBounds (off + x.2) x.1) cs = over cs (off + i) vs := by
  induction vs with
  | nil => intro i cs h; simp [over]
  | cons v vs ih =>
    intro i cs h
    simp only [List.length_cons] at h
    simp only [List.zipIdx_cons, List.foldl_cons]
    rw [ih (i + 1) _ (by simp; omega), ← Nat.add_assoc, over_cons _ _ _ _ (by omega)]
theorem fold_over (off n : Nat) (vs cs : Array Value) (hn : n = vs.size) (h : off + vs.size ≤ cs.size) :
    Array.foldl (fun cs x => cs.setIfInBounds (off + x.2) x.1) cs vs.zipIdx 0 n = over cs off vs.toList := by
  subst hn
  have := fold_list off vs.toList 0 cs (by simpa using h)
  rw [Nat.add_zero] at this
  rw [← this]
  have e : vs.size = vs.zipIdx.size := by simp
  rw [e, ← Array.foldl_toList]
  simp

theorem store_agg {ops : Array Oper} {rest : List Oper} {o : Oper} {a : Act} {w : World} {Q : Exit → Act → World → Prop} (hgd : o.guard = none) (ty : TypeId) (x y : Operand) (ho : o.op = .store ty x y)
    (g off n : Nat) (hx : a.eval x = .pointer (some ⟨g, off, none⟩)) (vs : Array Value) (hy : a.eval y = .agg vs) (T : TypeId) (cs : Array Value) (hg : Blk w g cs T) (hi : (P.info? ty).map (·.size) = some n)
    (hn : vs.size = n) (hs : off + n ≤ cs.size) (h1 : ∀ u ∈ vs.toList, u.oneCell' = true)
    (h : ∀ w', Blk w' g (over cs off vs.toList) T → Fr [g] w w' → w'.heap.size = w.heap.size → w'.drawn = w.drawn → wpList P ops Q rest (a.put o.dst undef) w') : wpList P ops Q (o :: rest) a w := by
  refine wpList_plain hgd fun K hK => ?_
  obtain ⟨i, hi1, hi2⟩ := Option.map_eq_some_iff.1 hi
  have hsz : ∀ w : World, (sizeOf ty).run P w = .ok n w := fun w => by simp [sizeOf, typeInfo, hi1, hi2]
  obtain ⟨w', hr, hb', hf, hz, hdr⟩ := run_storeCells (P := P) g T vs.toList h1 0 off w cs hg (by simpa [hn] using hs)
  unfold Oper.wp execOp
  have hsv : (storeVar ty ⟨g, off, none⟩ (.agg vs)).run P w = .ok () w' := by
    unfold storeVar
    simp [hsz, Value.cells, hn, hr]
  simp only [ho, hx, hy, Instr.storeAt, Instr.sureAddr, Sem.run_bind, Sem.run_pure, Result.andThen_ok, hsv]
  exact hK _ _ (h w' (by simpa using hb') hf hz hdr)
end
end Go.Proofs.YtfgkgmfcbhbomaaGreat
