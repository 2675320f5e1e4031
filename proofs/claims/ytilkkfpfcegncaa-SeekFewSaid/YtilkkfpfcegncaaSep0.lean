/- Blocks are apart by their types. -/
import Derived.Test.YtilkkfpfcegncaaApp
set_option linter.unusedVariables false
namespace Go.Proofs.Ytilkkfpfcegncaa
open Go.RowKit
open R (MS)

/-- Each block of S is known whole, of one of the types Ts. -/
def Typed (w : World) (S : List Nat) (Ts : List TypeId) : Prop := ∀ b, b ∈ S → ∃ cs T, Blk w b cs T ∧ T ∈ Ts
theorem Typed.nil (w : World) (Ts : List TypeId) : Typed w [] Ts := fun b h => by cases h
theorem Typed.cons {w : World} {b : Nat} {cs : Array Value} {T : TypeId} {S : List Nat} {Ts : List TypeId} (h : Blk w b cs T) (hT : T ∈ Ts) (hS : Typed w S Ts) : Typed w (b :: S) Ts := by
  intro x hx
  rcases List.mem_cons.1 hx with rfl | hx
  · exact ⟨cs, T, h, hT⟩
  · exact hS x hx
theorem own_blk {w : World} {e : TypeId} {sz : Nat} {v : Value} {n : Nat} {xs : List Value} (ho : w.ownsRow 0 e sz v n xs) {g : Nat} (hg : v.ownBlock = some g) : ∃ cur, Blk w g cur e := by
  rcases owns_form ho with ⟨rfl, _, _⟩ | ⟨g', cap, cur, rfl, hb', _⟩
  · simp [Value.ownBlock] at hg
  · have : g' = g := by simpa [Value.ownBlock] using hg
    subst this
    exact ⟨cur, hb'⟩
theorem Typed.own {w : World} {e : TypeId} {sz : Nat} {v : Value} {n : Nat} {xs : List Value} {S : List Nat} {Ts : List TypeId} (ho : w.ownsRow 0 e sz v n xs) (hT : e ∈ Ts) (hS : Typed w S Ts) : Typed w (ownOf v ++ S) Ts := by
  intro x hx
  rcases List.mem_append.1 hx with hx | hx
  · obtain ⟨cur, h⟩ := own_blk ho (mem_own hx)
    exact ⟨cur, e, h, hT⟩
  · exact hS x hx
theorem Typed.own' {w : World} {e : TypeId} {sz : Nat} {v : Value} {n : Nat} {xs : List Value} {Ts : List TypeId} (ho : w.ownsRow 0 e sz v n xs) (hT : e ∈ Ts) : Typed w (ownOf v) Ts := by
  have := Typed.own (S := []) ho hT (Typed.nil w Ts)
  rwa [List.append_nil] at this
theorem Blk.sep {w : World} {b : Nat} {cs : Array Value} {T : TypeId} {S : List Nat} {Ts : List TypeId} (h : Blk w b cs T) (hS : Typed w S Ts) (hT : T ∉ Ts) : b ∉ S := by
  intro hm
  obtain ⟨cs', T', h1, h2⟩ := hS b hm
  exact h.ne h1 (fun e => hT (e ▸ h2)) rfl
theorem own_sep {w : World} {e : TypeId} {sz : Nat} {v : Value} {n : Nat} {xs : List Value} {S : List Nat} {Ts : List TypeId} (ho : w.ownsRow 0 e sz v n xs) (hS : Typed w S Ts) (hT : e ∉ Ts) : ∀ g, v.ownBlock = some g → g ∉ S := by
  intro g hg
  obtain ⟨cur, h⟩ := own_blk ho hg
  exact h.sep hS hT
theorem MemAt.keep {w w' : World} {b : Nat} {v : Value} {M : MS} {S : List Nat} (H : MemAt w b v M) (hf : Fr S w w') (h1 : b ∉ S) (h2 : ∀ g, v.ownBlock = some g → g ∉ S) : MemAt w' b v M := ⟨H.1.keep hf h1, own_keep H.2.1 hf h2, H.2.2⟩
theorem MemAt.sep {w w' : World} {b : Nat} {v : Value} {M : MS} {S : List Nat} {Ts : List TypeId} (H : MemAt w b v M) (hf : Fr S w w') (hS : Typed w S Ts) (hT : 42 ∉ Ts ∧ 2 ∉ Ts) : MemAt w' b v M := H.keep hf (H.1.sep hS hT.1) (own_sep H.2.1 hS hT.2)
theorem Apart.symm {v v' : Value} (h : Apart v v') : Apart v' v := fun g hg hg' => h g hg' hg
theorem apart_same {w : World} {v u u' : Value} (h : Apart v u) (hs : Same w u u') (hv : ∀ g, v.ownBlock = some g → g < w.heap.size) : Apart v u' := by
  intro g hg hg'
  rcases hs with e | ⟨y, e, hy⟩
  · exact h g hg (e ▸ hg')
  · rw [e] at hg'; injection hg' with hg'
    have := hv g hg; omega
theorem same_ge {w : World} {u u' : Value} {B : Nat} (hs : Same w u u') (h : ∀ g, u.ownBlock = some g → B ≤ g) (hB : B ≤ w.heap.size) : ∀ g, u'.ownBlock = some g → B ≤ g := by
  intro g hg
  rcases hs with e | ⟨y, e, hy⟩
  · exact h g (e ▸ hg)
  · rw [e] at hg; injection hg with hg; omega
theorem apart_out {v u : Value} (h : Apart v u) : ∀ g, v.ownBlock = some g → g ∉ ownOf u := fun g hg hm => h g hg (mem_own hm)
end Go.Proofs.Ytilkkfpfcegncaa
