/- Small laws on worlds: frames ('Fr'), blocks known whole ('Blk'), rows that are read ('Rd'), rows that are owned. -/
import Derived.Test.YtilkkfpfcegncaaProg
import Derived.WalkKit
import Derived.BigQuiet
import Derived.Deep.QuietTactic
import Derived.Lib.Hide
import Derived.IntWalk
namespace Go.Proofs.Ytilkkfpfcegncaa
open Go.RowKit

theorem ret_int {k : IntKind} {a b : Int} (h : a = b) : Ending.returned (.int k a) = .returned (.int k b) := by rw [h]
theorem ret_bool {a b : Bool} (h : a = b) : Ending.returned (.bool a) = .returned (.bool b) := by rw [h]

/-- Old blocks but those of S are as they were. -/
structure Fr (S : List Nat) (w w' : World) : Prop where
  os : w'.os = w.os
  tape : w'.tape = w.tape
  output : w'.output = w.output
  size : w.heap.size ≤ w'.heap.size
  keep : ∀ c, c < w.heap.size → c ∉ S → w'.heap[c]? = w.heap[c]?

theorem Fr.refl (S : List Nat) (w : World) : Fr S w w := ⟨rfl, rfl, rfl, Nat.le_refl _, fun _ _ _ => rfl⟩
theorem Fr.trans' {S S' : List Nat} {a b c : World} (h : Fr S a b) (k : Fr S' b c) (hS : ∀ x, x ∈ S' → x ∈ S ∨ a.heap.size ≤ x) : Fr S a c :=
  ⟨k.os.trans h.os, k.tape.trans h.tape, k.output.trans h.output, Nat.le_trans h.size k.size, fun x hx hn =>
    (k.keep x (Nat.lt_of_lt_of_le hx h.size) (fun hm => (hS x hm).elim hn (fun hl => absurd hx (by omega)))).trans (h.keep x hx hn)⟩
theorem Fr.trans {S : List Nat} {a b c : World} (h : Fr S a b) (k : Fr S b c) : Fr S a c := h.trans' k fun _ hx => .inl hx
theorem Fr.mono {S S' : List Nat} {a b : World} (h : Fr S a b) (hS : ∀ x, x ∈ S → x ∈ S') : Fr S' a b :=
  ⟨h.os, h.tape, h.output, h.size, fun x hx hn => h.keep x hx (fun hm => hn (hS x hm))⟩
theorem Fr.drewN {S : List Nat} {a b : World} (h : Fr S a b) (n : Nat) : Fr S a (b.drewN n) := ⟨h.os, h.tape, h.output, h.size, h.keep⟩
theorem Fr.drew {S : List Nat} {a b : World} (h : Fr S a b) : Fr S a b.drew := ⟨h.os, h.tape, h.output, h.size, h.keep⟩
theorem Fr.alloc {S : List Nat} {a b : World} (h : Fr S a b) (o : Obj) : Fr S a (b.alloc o) :=
  ⟨h.os, h.tape, h.output, Nat.le_trans h.size (by simp), fun x hx hn => (Below.heap_alloc b o x (Nat.lt_of_lt_of_le hx h.size)).trans (h.keep x hx hn)⟩
theorem Fr.setCell {S : List Nat} {a b : World} (h : Fr S a b) {p : Addr} (hp : p.block ∈ S ∨ a.heap.size ≤ p.block) (u : Value) : Fr S a (b.setCell p u) :=
  ⟨h.os, h.tape, h.output, by simpa [World.setCell] using h.size, fun x hx hn => (Below.heap_setCell b p u x (by
    rintro rfl
    rcases hp with hp | hp
    · exact hn hp
    · omega)).trans (h.keep x hx hn)⟩
theorem Fr.of_below {a b : World} (h : Below a.heap.size a b) (S : List Nat) : Fr S a b := ⟨h.os, h.tape, h.output, h.size, fun x hx _ => h.block x hx⟩
theorem Fr.below {a b : World} (h : Fr [] a b) : Below a.heap.size a b := ⟨h.os, h.tape, h.output, h.size, fun x hx => h.keep x hx (by simp)⟩

theorem Fr.new {S : List Nat} {a b : World} (h : Fr S a b) (hS : ∀ x, x ∈ S → a.heap.size ≤ x) : Fr [] a b :=
  ⟨h.os, h.tape, h.output, h.size, fun x hx _ => h.keep x hx (fun hm => by have := hS x hm; omega)⟩
theorem Fr.old {S : List Nat} {a b : World} (h : Fr [] a b) : Fr S a b := h.mono (by simp)

/-- A block, known whole. -/
def Blk (w : World) (b : Nat) (cs : Array Value) (T : TypeId) : Prop := w.heap[b]? = some (.cells cs T (0, 0))
theorem Blk.lt {w : World} {b : Nat} {cs : Array Value} {T : TypeId} (h : Blk w b cs T) : b < w.heap.size := (Array.getElem?_eq_some_iff.1 h).1
theorem Blk.cell {w : World} {b : Nat} {cs : Array Value} {T : TypeId} (h : Blk w b cs T) : ∀ i, w.cell? ⟨b, i, none⟩ = cs[i]? := by
  intro i; unfold Blk at h; simp [World.cell?, h]
theorem Blk.free {w : World} {b : Nat} {cs : Array Value} {T : TypeId} (h : Blk w b cs T) : ∀ i, w.frozen? ⟨b, i, none⟩ = false := by
  intro i; unfold Blk at h; simp [World.frozen?, h]
theorem Blk.keep {w w' : World} {b : Nat} {cs : Array Value} {T : TypeId} {S : List Nat} (h : Blk w b cs T) (hf : Fr S w w') (hn : b ∉ S) : Blk w' b cs T :=
  (hf.keep b h.lt hn).trans h
theorem Blk.drewN {w : World} {b : Nat} {cs : Array Value} {T : TypeId} (h : Blk w b cs T) (n : Nat) : Blk (w.drewN n) b cs T := h
theorem Blk.drew {w : World} {b : Nat} {cs : Array Value} {T : TypeId} (h : Blk w b cs T) : Blk w.drew b cs T := h
theorem Blk.alloc {w : World} {b : Nat} {cs : Array Value} {T : TypeId} (h : Blk w b cs T) (o : Obj) : Blk (w.alloc o) b cs T := (Below.heap_alloc w o b h.lt).trans h
theorem Blk.new (w : World) (cs : Array Value) (T : TypeId) : Blk (w.alloc (.cells cs T)) w.heap.size cs T := by
  show (w.heap.push _)[w.heap.size]? = _
  simp
theorem Blk.set {w : World} {b : Nat} {cs : Array Value} {T : TypeId} (h : Blk w b cs T) (i : Nat) (v : Value) : Blk (w.setCell ⟨b, i, none⟩ v) b (cs.setIfInBounds i v) T := by
  unfold Blk at *
  simp [World.setCell, Array.getElem?_modify, h]
theorem Blk.set_ne {w : World} {b : Nat} {cs : Array Value} {T : TypeId} (h : Blk w b cs T) {p : Addr} (hp : b ≠ p.block) (v : Value) : Blk (w.setCell p v) b cs T :=
  (Below.heap_setCell w p v b hp).trans h
theorem Blk.ne {w : World} {b b' : Nat} {cs cs' : Array Value} {T T' : TypeId} (h : Blk w b cs T) (h' : Blk w b' cs' T') (hT : T ≠ T') : b ≠ b' := by
  rintro rfl
  have e := Option.some.inj (h.symm.trans h')
  injection e with _ e2
  exact hT e2
theorem Blk.eq {w : World} {b : Nat} {cs cs' : Array Value} {T T' : TypeId} (h : Blk w b cs T) (h' : Blk w b cs' T') : cs = cs' := by
  have e := Option.some.inj (h.symm.trans h')
  injection e

/-- A row of cells of element type T that reads as xs (cells, one behind the other), from an address on. -/
def Rd (w : World) (T : TypeId) (a : Option Addr) (xs : List Value) : Prop :=
  xs = [] ∨ ∃ b off cs fr, a = some ⟨b, off, none⟩ ∧ w.heap[b]? = some (.cells cs T fr) ∧ ∀ j, j < xs.length → cs[off + j]? = xs[j]?
theorem Rd.nil (w : World) (T : TypeId) (a : Option Addr) : Rd w T a [] := .inl rfl
theorem Rd.keep {w w' : World} {T : TypeId} {a : Option Addr} {xs : List Value} {S : List Nat} (h : Rd w T a xs) (hf : Fr S w w')
    (hS : ∀ b cs fr, w.heap[b]? = some (.cells cs T fr) → b ∉ S) : Rd w' T a xs := by
  rcases h with h | ⟨b, off, cs, fr, ha, hb, hc⟩
  · exact .inl h
  · exact .inr ⟨b, off, cs, fr, ha, (hf.keep b (Array.getElem?_eq_some_iff.1 hb).1 (hS b cs fr hb)).trans hb, hc⟩
theorem Rd.grow {w w' : World} {T : TypeId} {a : Option Addr} {xs : List Value} (h : Rd w T a xs) (hf : Fr [] w w') : Rd w' T a xs := h.keep hf fun _ _ _ _ => by simp
theorem Rd.at_ {w : World} {T : TypeId} {a : Option Addr} {xs : List Value} (h : Rd w T a xs) (j : Nat) (v : Value) (hj : xs[j]? = some v) : ∃ ad, a = some ad ∧ w.cell? (ad.add j) = some v := by
  have hlt : j < xs.length := by
    rcases Nat.lt_or_ge j xs.length with h' | h'
    · exact h'
    · rw [List.getElem?_eq_none h'] at hj; cases hj
  rcases h with h | ⟨b, off, cs, fr, ha, hb, hc⟩
  · subst h; simp at hlt
  · refine ⟨_, ha, ?_⟩
    have e := hc j hlt
    rw [hj] at e
    have : (⟨b, off, none⟩ : Addr).add j = ⟨b, off + j, none⟩ := by unfold Addr.add; split <;> simp_all
    rw [this]
    simp [World.cell?, hb, e]
theorem Rd.take {w : World} {T : TypeId} {a : Option Addr} {xs ys : List Value} (h : Rd w T a (xs ++ ys)) : Rd w T a xs := by
  rcases h with h | ⟨b, off, cs, fr, ha, hb, hc⟩
  · exact .inl (List.append_eq_nil_iff.1 h).1
  · exact .inr ⟨b, off, cs, fr, ha, hb, fun j hj => (hc j (by simp; omega)).trans (by rw [List.getElem?_append_left hj])⟩
/-- S has only blocks of types other than T. -/
theorem Blk.out {w : World} {r : Nat} {cs : Array Value} {T T' : TypeId} (h : Blk w r cs T') (hT : T' ≠ T) : ∀ b cs fr, w.heap[b]? = some (.cells cs T fr) → b ∉ [r] := by
  intro b cs fr hb hm
  have : b = r := by simpa using hm
  subst this
  have e := Option.some.inj (h.symm.trans hb)
  injection e with _ e2
  exact hT e2
theorem Blk.out2 {w : World} {r r2 : Nat} {cs cs2 : Array Value} {T T' T2 : TypeId} (h : Blk w r cs T') (h2 : Blk w r2 cs2 T2) (hT : T' ≠ T) (hT2 : T2 ≠ T) : ∀ b cs fr, w.heap[b]? = some (.cells cs T fr) → b ∉ [r, r2] := by
  intro b cs fr hb hm
  rcases List.mem_cons.1 hm with hm | hm
  · exact h.out hT b cs fr hb (by simp [hm])
  · exact h2.out hT2 b cs fr hb hm
def ints (k : IntKind) (xs : List Int) : List Value := xs.map (.int k)
theorem ints_at (k : IntKind) (xs : List Int) (j : Nat) (h : j < xs.length) : (ints k xs)[j]? = some (.int k (xs.getD j 0)) := by
  simp [ints, List.getElem?_eq_getElem h, List.getD_eq_getElem?_getD]
theorem Rd.open_ {w : World} {T T' : TypeId} {a : Option Addr} {k : IntKind} {xs : List Int} (h : Rd w T a (ints k xs)) (j : Nat) (x : Int) (hj : j < xs.length) (hx : x = xs.getD j 0)
    {r : Nat} {cs : Array Value} (hr : Blk w r cs T') (hT : T' ≠ T) :
    ∃ b off, a = some ⟨b, off, none⟩ ∧ w.cell? ⟨b, off + j, none⟩ = some (.int k x) ∧ r ≠ b ∧ b < w.heap.size := by
  rcases h with h | ⟨b, off, cs', fr, ha, hb, hc⟩
  · have : xs = [] := by simpa [ints] using h
    subst this; simp at hj
  · refine ⟨b, off, ha, ?_, ?_, (Array.getElem?_eq_some_iff.1 hb).1⟩
    · have e := hc j (by simpa [ints] using hj)
      rw [ints_at _ _ _ hj] at e
      simp [World.cell?, hb, e, hx]
    · rintro rfl
      exact hr.out hT _ cs' fr hb (by simp)
end Go.Proofs.Ytilkkfpfcegncaa
