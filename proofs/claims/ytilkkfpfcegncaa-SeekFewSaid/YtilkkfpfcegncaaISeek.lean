/- The program's seek. -/
import Derived.Test.YtilkkfpfcegncaaIPeek
import Derived.Test.YtilkkfpfcegncaaPureSeek
import Derived.Test.YtilkkfpfcegncaaChild
import Derived.Deep.RegionHeld3
set_option linter.unusedVariables false
namespace Go.Proofs.Ytilkkfpfcegncaa
open Go.RowKit
open R (MS IR IP)

open R (IK)

def ikCells (f : IK) (rb : Nat) (pp : Value) : Array Value := #[.int .i64 f.next, .int .i64 f.k, .int .i64 f.n, .pointer (some ⟨rb, 0, none⟩), pp, .int .i64 f.at_, .int .i64 f.value, .bool f.there]
/-- The seek f at block b; S: the blocks that are its own. -/
structure IKAt (w : World) (b rb : Nat) (pp : Value) (S : List Nat) (f : IK) : Prop where
  blk : Blk w b (ikCells f rb pp) 56
  route : IRAt w rb f.route
  peek : (f.has = false ∧ pp = .pointer none ∧ S = [b, rb]) ∨ ∃ pb, f.has = true ∧ pp = .pointer (some ⟨pb, 0, none⟩) ∧ IPAt w pb f.peek ∧ S = [b, rb, pb]
  k : R.I64 f.k
  n : R.I64 f.n
  rn : R.I64 f.route.n
  at0 : 0 ≤ f.at_ ∧ f.at_ ≤ 65536
  val : R.I64 f.value
  rng : 0 ≤ f.next ∧ f.next ≤ 5
  hasp : f.next = 1 → f.has = true
  live : f.next = 0 → f.route.next ≠ 6
  livep : f.next = 1 → f.peek.next ≠ 3
def IKS (w : World) (b : Nat) (S : List Nat) (f : IK) : Prop := ∃ rb pp, IKAt w b rb pp S f
/-- New blocks, or some of those. -/
def Within (w : World) (S S' : List Nat) : Prop := ∀ x, x ∈ S' → x ∈ S ∨ w.heap.size ≤ x

theorem IKAt.typed {w : World} {b rb : Nat} {pp : Value} {S : List Nat} {f : IK} (h : IKAt w b rb pp S f) : Typed w S [56, 74, 76] := by
  rcases h.peek with ⟨_, _, rfl⟩ | ⟨pb, _, _, hp, rfl⟩
  · exact Typed.cons h.blk (by simp) (Typed.cons h.route.blk (by simp) (Typed.nil _ _))
  · exact Typed.cons h.blk (by simp) (Typed.cons h.route.blk (by simp) (Typed.cons hp.blk (by simp) (Typed.nil _ _)))
theorem IKAt.keep {w w' : World} {b rb : Nat} {pp : Value} {S X : List Nat} {f : IK} (h : IKAt w b rb pp S f) (hf : Fr X w w') (hX : ∀ x ∈ S, x ∉ X) : IKAt w' b rb pp S f := by
  have hS : b ∈ S ∧ rb ∈ S := by rcases h.peek with ⟨_, _, rfl⟩ | ⟨pb, _, _, _, rfl⟩ <;> simp
  refine ⟨h.blk.keep hf (hX b hS.1), h.route.keep hf (hX rb hS.2), ?_, h.k, h.n, h.rn, h.at0, h.val, h.rng, h.hasp, h.live, h.livep⟩
  rcases h.peek with h1 | ⟨pb, h1, h2, h3, rfl⟩
  · exact .inl h1
  · exact .inr ⟨pb, h1, h2, h3.keep hf (hX pb (by simp)), rfl⟩

theorem isenter_any (w : World) (b : Nat) (c0 c2 c3 c4 c5 c6 c7 : Value) (k n : Int) (hk : R.I64 k) (hb : Blk w b #[c0, .int .i64 k, c2, c3, c4, c5, c6, c7] 56) :
    Calls Try.prog 25 #[.pointer (some ⟨b, 0, none⟩), .int .i64 n] w fun e w' => e = .returned (.tuple #[]) ∧ Blk w' b #[.int .i64 0, .int .i64 k, .int .i64 n, .pointer (some ⟨w.heap.size, 0, none⟩), c4, c5, c6, c7] 56 ∧ IRAt w' w.heap.size ⟨0, n, k, 0, 0, 0, 0⟩ ∧ Fr [b] w w' := by
  have d1 : w.cell? ⟨b, 1, none⟩ = some (.int .i64 k) := hb.cell 1
  have hl := hb.lt
  go_enter Try.func25, Try.ntmps25
  go_wp2_with fail
  refine (irnew_any _ n k hk).mono ?_
  rintro e w1 ⟨rfl, H1, F1⟩
  have hb1 := hb.keep F1 (by simp)
  have e0 : w1.cell? ⟨b, 0, none⟩ = some c0 := hb1.cell 0
  have e2 : w1.cell? ⟨b, 2, none⟩ = some c2 := hb1.cell 2
  have e3 : w1.cell? ⟨b, 3, none⟩ = some c3 := hb1.cell 3
  have ff := hb1.free
  clear d1
  go_wp2
  go_end0
  have F2 : Fr [b] w1 (((w1.setCell ⟨b, 0, none⟩ (.int .i64 0)).setCell ⟨b, 2, none⟩ (.int .i64 n)).setCell ⟨b, 3, none⟩ (.pointer (some ⟨w.heap.size, 0, none⟩))) := (((Fr.refl _ _).setCell (.inl (by simp)) _).setCell (.inl (by simp)) _).setCell (.inl (by simp)) _
  exact ⟨rfl, ((hb1.set 0 _).set 2 _).set 3 _, H1.keep F2 (by simp; omega), F1.old.trans F2⟩

theorem isnew_any (w : World) (k : Int) (hk : R.I64 k) :
    Calls Try.prog 9 #[.int .i64 k] w fun e w' => e = .returned (.pointer (some ⟨w.heap.size, 0, none⟩)) ∧ ∃ S, IKS w' w.heap.size S (IK.start k) ∧ Within w [] S ∧ Fr [] w w' := by
  go_enter Try.func9, Try.ntmps9
  go_wp2_with fail
  refine (isenter_any _ w.heap.size _ _ _ _ _ _ _ k 1 hk (Blk.new w _ _)).mono ?_
  rintro e w1 ⟨rfl, hb, hr, F1⟩
  go_wp2
  go_ret
  refine ⟨rfl, [w.heap.size, (w.alloc _).heap.size], ⟨_, .pointer none, hb, hr, .inl ⟨rfl, rfl, rfl⟩, hk, R.i64_1, R.i64_1, ⟨Int.le_refl 0, by show (0 : Int) ≤ 65536; decide⟩, R.i64_0, ⟨Int.le_refl 0, by show (0 : Int) ≤ 5; decide⟩, fun h => absurd (show (0 : Int) = 1 from h) (by decide), fun _ => by show (0 : Int) ≠ 6; decide, fun h => absurd (show (0 : Int) = 1 from h) (by decide)⟩, ?_, ?_⟩
  · intro x hx; simp at hx; right; omega
  · exact ((Fr.refl [] w).alloc _).trans' F1 (fun x hx => by simp at hx; right; omega)

theorem isdone_any (w : World) (b rb : Nat) (pp : Value) (f : IK) (hb : Blk w b (ikCells f rb pp) 56) :
    Calls Try.prog 36 #[.pointer (some ⟨b, 0, none⟩)] w fun e w' => e = .returned (.bool (f.next == 5)) ∧ w = w' := by
  have c0 : w.cell? ⟨b, 0, none⟩ = some (.int .i64 f.next) := hb.cell 0
  go_enter Try.func36, Try.ntmps36
  go_wp2
  go_ret
  exact ⟨rfl, rfl⟩
theorem isvalue_any (w : World) (b rb : Nat) (pp : Value) (f : IK) (hb : Blk w b (ikCells f rb pp) 56) :
    Calls Try.prog 11 #[.pointer (some ⟨b, 0, none⟩)] w fun e w' => e = .returned (.tuple #[.int .i64 f.value, .bool f.there]) ∧ ∃ m, w' = w.drewN m := by
  have c6 : w.cell? ⟨b, 6, none⟩ = some (.int .i64 f.value) := hb.cell 6
  have c7 : w.cell? ⟨b, 7, none⟩ = some (.bool f.there) := hb.cell 7
  go_enter Try.func11, Try.ntmps11
  go_wp2_with fail
  go_quiet (fail)
  go_wp2
  go_ret2
  exact ⟨rfl, _, rfl⟩

def ismeetPost (w : World) (b rb : Nat) (pp : Value) (f g : IK) (K A : Int) (e : Ending) (w' : World) : Prop :=
  e = .returned (.tuple #[]) ∧ ∃ rb', Blk w' b (ikCells g rb' pp) 56 ∧ ((K ≠ 3 ∧ rb' = rb) ∨ (K = 3 ∧ w.heap.size ≤ rb' ∧ IRAt w' rb' ⟨0, A, f.k, 0, 0, 0, 0⟩)) ∧ Fr [b] w w'
theorem ismeet_any (w : World) (b rb : Nat) (pp : Value) (f : IK) (x : Int) (hk : R.I64 f.k) (hb : Blk w b (ikCells f rb pp) 56) :
    Calls Try.prog 32 #[.pointer (some ⟨b, 0, none⟩), .int .i64 x] w (ismeetPost w b rb pp f (f.meet x) (R.kind x) (R.addr x)) := by
  have hl := hb.lt
  have c0 : w.cell? ⟨b, 0, none⟩ = some (.int .i64 f.next) := hb.cell 0
  have c5 : w.cell? ⟨b, 5, none⟩ = some (.int .i64 f.at_) := hb.cell 5
  have ff := hb.free
  obtain ⟨K, hK⟩ : ∃ K, R.kind x = K := ⟨_, rfl⟩
  obtain ⟨A, hA⟩ : ∃ A, R.addr x = A := ⟨_, rfl⟩
  obtain ⟨O, hO⟩ : ∃ O, f.meet x = O := ⟨_, rfl⟩
  rw [hO, hK, hA]
  unfold R.IK.meet at hO
  rw [hK, hA] at hO
  have HK := Lib.hid hK
  have HA := Lib.hid hA
  clear hK hA
  have b5 := hb.set 5 (.int .i64 A)
  have Fa : Fr [b] w (w.setCell ⟨b, 5, none⟩ (.int .i64 A)) := (Fr.refl _ _).setCell (.inl (by simp)) _
  by_cases h2 : K = 2
  · rw [if_pos h2] at hO
    subst h2
    have E := Lib.hid hO
    clear hO
    go_enter Try.func32, Try.ntmps32
    go_wp2_with fail
    refine (iaddr_any _ _).mono ?_
    rintro e w' ⟨rfl, rfl⟩
    rw [HA.out]
    go_wp2_with fail
    refine (ikind_any _ _).mono ?_
    rintro e w' ⟨rfl, rfl⟩
    rw [HK.out]
    go_wp2
    go_end0
    have e := E.out; subst e
    exact ⟨rfl, rb, b5.set 0 _, .inl ⟨by decide, rfl⟩, Fa.setCell (.inl (by simp)) _⟩
  rw [if_neg h2] at hO
  by_cases h3 : K = 3
  · rw [if_pos h3] at hO
    subst h3
    have E := Lib.hid hO
    clear hO h2
    have b5' : Blk (w.setCell ⟨b, 5, none⟩ (.int .i64 A)) b #[.int .i64 f.next, .int .i64 f.k, .int .i64 f.n, .pointer (some ⟨rb, 0, none⟩), pp, .int .i64 A, .int .i64 f.value, .bool f.there] 56 := b5
    go_enter Try.func32, Try.ntmps32
    go_wp2_with fail
    refine (iaddr_any _ _).mono ?_
    rintro e w' ⟨rfl, rfl⟩
    rw [HA.out]
    go_wp2_with fail
    refine (ikind_any _ _).mono ?_
    rintro e w' ⟨rfl, rfl⟩
    rw [HK.out]
    go_wp2_with fail
    refine (isenter_any _ b _ _ _ _ _ _ _ f.k A hk b5').mono ?_
    rintro e w3 ⟨rfl, hb3, hr3, F3⟩
    go_wp2
    go_end0
    have e := E.out; subst e
    exact ⟨rfl, _, hb3, .inr ⟨rfl, by simp [World.setCell], hr3⟩, Fa.trans F3⟩
  rw [if_neg h3] at hO
  by_cases h4 : K = 4
  · rw [if_pos h4] at hO
    subst h4
    have E := Lib.hid hO
    clear hO h2 h3
    go_enter Try.func32, Try.ntmps32
    go_wp2_with fail
    refine (iaddr_any _ _).mono ?_
    rintro e w' ⟨rfl, rfl⟩
    rw [HA.out]
    go_wp2_with fail
    refine (ikind_any _ _).mono ?_
    rintro e w' ⟨rfl, rfl⟩
    rw [HK.out]
    go_wp2
    go_end0
    have e := E.out; subst e
    exact ⟨rfl, rb, b5.set 0 _, .inl ⟨by decide, rfl⟩, Fa.setCell (.inl (by simp)) _⟩
  · rw [if_neg h4] at hO
    have t2 : (K == 2) = false := by simpa using h2
    have t3 : (K == 3) = false := by simpa using h3
    have t4 : (K == 4) = false := by simpa using h4
    have H3 := Lib.hid h3
    have E := Lib.hid hO
    clear hO h2 h3 h4
    go_enter Try.func32, Try.ntmps32
    go_wp2_with fail
    refine (iaddr_any _ _).mono ?_
    rintro e w' ⟨rfl, rfl⟩
    rw [HA.out]
    go_wp2_with fail
    refine (ikind_any _ _).mono ?_
    rintro e w' ⟨rfl, rfl⟩
    rw [HK.out]
    go_wp2
    go_end0
    have e := E.out; subst e
    exact ⟨rfl, rb, b5.set 0 _, .inl ⟨H3.out, rfl⟩, Fa.setCell (.inl (by simp)) _⟩
end Go.Proofs.Ytilkkfpfcegncaa
