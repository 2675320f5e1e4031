/- slices.Clone, Concat of []int64; node's records. -/
import Derived.Test.YtilkkfpfcegncaaIMem
import Derived.WalkSpells
import Derived.Lib.AppendZeros
set_option linter.unusedVariables false
namespace Go.Proofs.Ytilkkfpfcegncaa
open Go.RowKit

theorem run_append_nil (w : World) (ty : TypeId) (base : Option Addr) (n cap c : Nat) (hn : n ≤ cap) :
    (Builtin.append_ #[40, 40] ty #[.slice base n cap, .slice none 0 c]).run Try.prog w = .ok (.slice base n cap) w := by
  obtain ⟨i0, hi, hzz⟩ := Option.map_eq_some_iff.1 info_i64
  simp only [Prod.mk.injEq] at hzz
  obtain ⟨hz0, hz1, hz2⟩ := hzz
  have hu := fun w : World => run_underlying (P := Try.prog) (w := w) Try.underlying40
  have hsz : (sizeOf 2).run Try.prog w = .ok 1 w := by simp [sizeOf, typeInfo, hi, hz1]
  unfold Builtin.append_
  simp [hu, hsz, Builtin.lenOf, Builtin.firstCells, hn]
  cases base <;> simp [storeCells]

/-- 'append(v, ys...)' of int64s, v being owned, ys maybe none or nil. -/
theorem append_any (w : World) {ops : Array Oper} {rest : List Oper} {o : Oper} {a : Act} {Q : Exit → Act → World → Prop} (hgd : o.guard = none) (s x : Operand)
    (ho : o.op = .call { callee := .builtin .append, args := #[s, x], argTypes := #[40, 40] })
    (v : Value) (xs ys : List Int) (hs : a.eval s = v) (hown : w.ownsRow 0 2 1 v xs.length (ints .i64 xs)) (ad : Option Addr) (n c : Nat) (hx : a.eval x = .slice ad n c) (hn : n = ys.length)
    (HR : Rd w 2 ad (ints .i64 ys)) (hlen : xs.length + ys.length ≤ 17592186044416)
    (h : ∀ v' w', w'.ownsRow 0 2 1 v' (xs.length + ys.length) (ints .i64 (xs ++ ys)) → Fr (ownOf v) w w' → (v'.ownBlock = v.ownBlock ∨ v'.ownBlock = some w.heap.size) → wpList Try.prog ops Q rest (a.put o.dst v') w') :
    wpList Try.prog ops Q (o :: rest) a w := by
  by_cases hne : ys = []
  · subst hne
    simp only [List.length_nil] at hn
    subst hn
    cases ad with
    | none =>
      refine wpList_plain hgd fun K hK => ?_
      obtain ⟨sa, cap, rfl, hr⟩ := own_Rd hown
      have hc : xs.length ≤ cap := by
        rcases own_form hown with ⟨e, h0, _⟩ | ⟨g, cap', cur, e, _, hn, _⟩
        · omega
        · injection e with _ _ e; omega
      unfold Oper.wp execOp
      simp only [ho, resolve, invoke, builtin, Sem.run_bind, Sem.run_pure, Result.andThen_ok, List.map_toArray, List.map_cons, List.map_nil, hs, hx, run_append_nil w o.type sa xs.length cap c hc]
      exact hK _ _ (h _ w (by simpa using hown) (Fr.refl _ _) (.inl rfl))
    | some ad =>
      obtain ⟨i0, hi, hzz⟩ := Option.map_eq_some_iff.1 info_i64
      simp only [Prod.mk.injEq] at hzz
      obtain ⟨hz0, hz1, hz2⟩ := hzz
      refine wpList_append_own_at w hgd s x 40 ho 0 2 i0 (.int .i64 0) 1 8 Try.underlying40 hi hz0 hz1 hz2 rfl (by decide) v xs.length (ints .i64 xs) hs hown ad 0 c [] hx rfl (by simp) (by simp) (by simp at hlen; simp only [maxLen]; omega) (by simp at hlen; omega) (Nat.zero_le _) ?_
      intro v' w' h1 h2 _ h4
      refine h v' w' (by simpa using h1) ⟨h2.os, h2.tape, h2.output, h2.size, fun k hk hn => h2.block k hk (fun e => hn ?_)⟩ h4
      unfold ownOf
      rw [← e]
      simp
  · exact append_i64 w hgd s x ho v xs ys hs hown ad n c hx hn HR hne hlen h

theorem under_int : Try.prog.underlying 3 = some (.int .i64) := Try.underlying3
set_option maxRecDepth 100000 in
theorem grow_any (w : World) (n : Nat) (hn : n ≤ 17592186044416) :
    Calls Try.prog 57 #[.slice none 0 0, .int .i64 (n : Int)] w fun e w' => ∃ v', e = .returned v' ∧ w'.ownsRow 0 2 1 v' 0 [] ∧ (∀ g, v'.ownBlock = some g → w.heap.size ≤ g) ∧ Fr [] w w' := by
  obtain ⟨i0, hi, hzz⟩ := Option.map_eq_some_iff.1 info_i64
  simp only [Prod.mk.injEq] at hzz
  obtain ⟨hz0, hz1, hz2⟩ := hzz
  rcases Nat.eq_zero_or_pos n with h0 | h0
  · subst h0
    go_enter Try.func57, Try.ntmps57
    go_wp2
    go_ret
    exact ⟨.slice none 0 0, rfl, ⟨rfl, .inl ⟨rfl, rfl⟩⟩, by simp [Value.ownBlock], Fr.refl _ _⟩
  · have hrun := Lib.run_append_nil_zeros (P := Try.prog) w 40 3 40 2 i0 (.int .i64 0) .i64 .i64 Try.underlying40 under_int hi hz0 n h0 (by omega) (by omega) (by rw [hz2]; omega)
    have H := Lib.hid hrun
    clear hrun hz0 hz1 hz2 hi
    have hpos : 0 < (n : Int) := by omega
    go_enter Try.func57, Try.ntmps57
    go_wp2_with (at_builtin; refine Lib.wpList_append_run _ rfl _ _ 40 3 rfl (.slice none 0 0) (.int .i64 n) rfl rfl _ _ H.out ?_)
    go_ret
    have hg := grownCap_ge w n 0 2
    have hm := grownCap_le_maxLen w n 0 2 (by simp only [maxLen]; omega)
    refine ⟨.slice (some ⟨w.heap.size, 0, none⟩) 0 (grownCap w n 0 2), rfl, ⟨rfl, .inr ⟨w.heap.size, grownCap w n 0 2, _, rfl, Nat.zero_le _, heap_alloc_new w.drew _, Nat.zero_le _, hm, ?_, rfl⟩⟩, ?_, ((Fr.refl [] w).drew).alloc _⟩
    · simp [Builtin.zeroCells]; omega
    · intro g hg
      have hg' : some w.heap.size = some g := hg
      injection hg' with e
      omega

def acc3 (x0 x1 x2 : List Int) : Nat → List Int
  | 0 => []
  | 1 => x0
  | 2 => x0 ++ x1
  | _ => x0 ++ x1 ++ x2
def len3 (n0 n1 n2 : Nat) : Nat → Nat
  | 0 => 0
  | 1 => n0
  | 2 => n0 + n1
  | _ => n0 + n1 + n2
set_option maxRecDepth 100000 in
theorem concat_any (w : World) (b cap : Nat) (a0 a1 a2 : Option Addr) (c0 c1 c2 : Nat) (x0 x1 x2 : List Int) (cs : Array Value) (T : TypeId) (hb : Blk w b cs T)
    (h0 : cs[0]? = some (.slice a0 x0.length c0)) (h1 : cs[1]? = some (.slice a1 x1.length c1)) (h2 : cs[2]? = some (.slice a2 x2.length c2))
    (R0 : Rd w 2 a0 (ints .i64 x0)) (R1 : Rd w 2 a1 (ints .i64 x1)) (R2 : Rd w 2 a2 (ints .i64 x2)) (hl : x0.length + x1.length + x2.length ≤ 17592186044416) :
    Calls Try.prog 40 #[.slice (some ⟨b, 0, none⟩) 3 cap] w fun e w' => ∃ v', e = .returned v' ∧ w'.ownsRow 0 2 1 v' (x0 ++ x1 ++ x2).length (ints .i64 (x0 ++ x1 ++ x2)) ∧ (∀ g, v'.ownBlock = some g → w.heap.size ≤ g) ∧ Fr [] w w' := by
  have e0 : w.cell? ⟨b, 0, none⟩ = some (.slice a0 x0.length c0) := (hb.cell _).trans h0
  have e1 : w.cell? ⟨b, 1, none⟩ = some (.slice a1 x1.length c1) := (hb.cell _).trans h1
  have e2 : w.cell? ⟨b, 2, none⟩ = some (.slice a2 x2.length c2) := (hb.cell _).trans h2
  have hlt := hb.lt
  go_enter Try.func40, Try.ntmps40
  go_wp2
  go_loop [3, 11] (fun s i => ∃ k : Nat, k ≤ 3 ∧ i = .int .i64 (k : Int) ∧ s = .int .i64 (len3 x0.length x1.length x2.length k : Nat)) (fun _ i => 3 - (intOf i).toNat)
  case atStart => exact ⟨0, by omega, rfl, rfl⟩
  case round =>
    obtain ⟨k, hk, rfl, rfl⟩ := hrel
    rcases (by omega : k = 0 ∨ k = 1 ∨ k = 2 ∨ k = 3) with rfl | rfl | rfl | rfl
    · simp only [len3]
      go_wp2
      go_round
      case rel => exact ⟨1, by omega, rfl, rfl⟩
      case measure => simp [intOf]
    · simp only [len3]
      go_wp2
      go_round
      case rel => exact ⟨2, by omega, rfl, rfl⟩
      case measure => simp [intOf]
    · simp only [len3]
      go_wp2
      go_round
      case rel => exact ⟨3, by omega, rfl, rfl⟩
      case measure => simp [intOf]
    · simp only [len3]
      go_wp2_with fail
      rw [show (x0.length : Int) + x1.length + x2.length = ((x0.length + x1.length + x2.length : Nat) : Int) from by omega]
      refine (grow_any w _ hl).mono ?_
      rintro e w2 ⟨v0, rfl, o0, hv0, F0⟩
      have k0 : w2.cell? ⟨b, 0, none⟩ = some (.slice a0 x0.length c0) := ((hb.keep F0 (by simp)).cell _).trans h0
      have k1 : w2.cell? ⟨b, 1, none⟩ = some (.slice a1 x1.length c1) := ((hb.keep F0 (by simp)).cell _).trans h1
      have k2 : w2.cell? ⟨b, 2, none⟩ = some (.slice a2 x2.length c2) := ((hb.keep F0 (by simp)).cell _).trans h2
      go_wp2_with fail
      go_loopw [6, 27] (fun v i wr => ∃ k : Nat, k ≤ 3 ∧ i = .int .i64 (k : Int) ∧ wr.ownsRow 0 2 1 v (acc3 x0 x1 x2 k).length (ints .i64 (acc3 x0 x1 x2 k)) ∧ (∀ g, v.ownBlock = some g → w.heap.size ≤ g) ∧ Fr [] w wr) (fun _ i _ => 3 - (intOf i).toNat)
      case atStart => exact ⟨0, by omega, rfl, o0, hv0, F0⟩
      case round =>
        obtain ⟨k, hk, rfl, ov, hv, Fw⟩ := hrel
        clear k0 k1 k2 e0 e1 e2
        have k0 : wr.cell? ⟨b, 0, none⟩ = some (.slice a0 x0.length c0) := ((hb.keep Fw (by simp)).cell _).trans h0
        have k1 : wr.cell? ⟨b, 1, none⟩ = some (.slice a1 x1.length c1) := ((hb.keep Fw (by simp)).cell _).trans h1
        have k2 : wr.cell? ⟨b, 2, none⟩ = some (.slice a2 x2.length c2) := ((hb.keep Fw (by simp)).cell _).trans h2
        rcases (by omega : k = 0 ∨ k = 1 ∨ k = 2 ∨ k = 3) with rfl | rfl | rfl | rfl
        · simp only [acc3] at ov
          obtain ⟨sv, cv, rfl, hRv⟩ := own_Rd ov
          have RR := R0.grow Fw
          go_wp2_with (at_builtin; refine append_any _ rfl _ _ rfl (.slice sv _ cv) ([]) x0 rfl ov a0 _ c0 rfl rfl RR (by first | omega | (simp only [List.length_nil]; omega)) ?_; intro v' w1 o1 F1 hb1; obtain ⟨sa, sc, rfl, hR1⟩ := own_Rd o1; have F2 := Fw.trans' F1 (fun x hx => Or.inr (hv x (mem_own hx))); have hs1 := F2.size)
          go_roundw
          case rel =>
            refine ⟨1, by omega, rfl, by simpa [acc3, Nat.add_assoc] using o1, ?_, F2⟩
            intro g hg
            have hs := Fw.size
            rcases hb1 with e | e
            · exact hv g (by rw [← e]; simpa [Value.ownBlock] using hg)
            · have e' : some g = some wr.heap.size := hg.symm.trans (by simpa [Value.ownBlock] using e)
              injection e' with e'; omega
          case measure => simp [intOf]
        · simp only [acc3] at ov
          obtain ⟨sv, cv, rfl, hRv⟩ := own_Rd ov
          have RR := R1.grow Fw
          go_wp2_with (at_builtin; refine append_any _ rfl _ _ rfl (.slice sv _ cv) (x0) x1 rfl ov a1 _ c1 rfl rfl RR (by first | omega | (simp only [List.length_append, List.length_nil]; omega)) ?_; intro v' w1 o1 F1 hb1; obtain ⟨sa, sc, rfl, hR1⟩ := own_Rd o1; have F2 := Fw.trans' F1 (fun x hx => Or.inr (hv x (mem_own hx))); have hs1 := F2.size)
          go_roundw
          case rel =>
            refine ⟨2, by omega, rfl, by simpa [acc3, Nat.add_assoc] using o1, ?_, F2⟩
            intro g hg
            have hs := Fw.size
            rcases hb1 with e | e
            · exact hv g (by rw [← e]; simpa [Value.ownBlock] using hg)
            · have e' : some g = some wr.heap.size := hg.symm.trans (by simpa [Value.ownBlock] using e)
              injection e' with e'; omega
          case measure => simp [intOf]
        · simp only [acc3] at ov
          obtain ⟨sv, cv, rfl, hRv⟩ := own_Rd ov
          have RR := R2.grow Fw
          go_wp2_with (at_builtin; refine append_any _ rfl _ _ rfl (.slice sv _ cv) (x0 ++ x1) x2 rfl ov a2 _ c2 rfl rfl RR (by first | omega | (simp only [List.length_append]; omega)) ?_; intro v' w1 o1 F1 hb1; obtain ⟨sa, sc, rfl, hR1⟩ := own_Rd o1; have F2 := Fw.trans' F1 (fun x hx => Or.inr (hv x (mem_own hx))); have hs1 := F2.size)
          go_roundw
          case rel =>
            refine ⟨3, by omega, rfl, by simpa [acc3, Nat.add_assoc] using o1, ?_, F2⟩
            intro g hg
            have hs := Fw.size
            rcases hb1 with e | e
            · exact hv g (by rw [← e]; simpa [Value.ownBlock] using hg)
            · have e' : some g = some wr.heap.size := hg.symm.trans (by simpa [Value.ownBlock] using e)
              injection e' with e'; omega
          case measure => simp [intOf]
        · simp only [acc3] at ov
          go_wp2
          go_ret
          exact ⟨_, rfl, ov, hv, Fw⟩
end Go.Proofs.Ytilkkfpfcegncaa
