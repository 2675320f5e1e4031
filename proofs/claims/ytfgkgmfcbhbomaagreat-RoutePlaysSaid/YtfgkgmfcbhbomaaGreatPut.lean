/- ordinateref1.Place, Put; hand.Cut. -/
import Derived.Test.YtfgkgmfcbhbomaaGreatApp
set_option linter.unusedVariables false
namespace Go.Proofs.YtfgkgmfcbhbomaaGreat
open Go.RowKit

theorem Rd.cells_at {w : World} {T : TypeId} {a : Option Addr} {xs : List Value} (h : Rd w T a xs) (hne : xs ≠ []) : ∃ b off, a = some ⟨b, off, none⟩ ∧ ∀ j v, xs[j]? = some v → w.cell? ⟨b, off + j, none⟩ = some v := by
  rcases h with h | ⟨b, off, cs, fr, ha, hb, hc⟩
  · exact absurd h hne
  · refine ⟨b, off, ha, fun j v hj => ?_⟩
    have hlt : j < xs.length := by
      rcases Nat.lt_or_ge j xs.length with h' | h'
      · exact h'
      · rw [List.getElem?_eq_none h'] at hj; cases hj
    have e := hc j hlt
    rw [hj] at e
    simp [World.cell?, hb, e]

theorem cut_any (w : World) (n k : Int) (hk : 0 < k) (hk2 : k ≤ 9223372036854775807) :
    Calls Tryz.prog 5 #[.int .i64 n, .int .i64 k] w fun e w' => e = .returned (.int .i64 (R.cut n k)) ∧ w = w' := by
  have hk0 : (k == 0) = false := by rw [beq_eq_false_iff_ne]; omega
  have h1 := Int.tmod_lt_of_pos n hk
  have h2 : -k < n.tmod k := by have := Int.lt_tmod_of_pos n hk; omega
  have h3 : R.cut n k = if n.tmod k < 0 then n.tmod k + k else n.tmod k := by
    have e := Int.tmod_add_mul_tdiv n k
    generalize n.tmod k = t at *
    unfold R.cut
    rw [← e]
    split
    · rw [show t + k * n.tdiv k = (t + k) + k * (n.tdiv k - 1) from by rw [Int.mul_sub]; omega, Int.add_mul_emod_self_left]
      exact Int.emod_eq_of_lt (by omega) (by omega)
    · rw [Int.add_mul_emod_self_left]
      exact Int.emod_eq_of_lt (by omega) (by omega)
  obtain ⟨O, hO⟩ : ∃ O, R.cut n k = O := ⟨_, rfl⟩
  rw [hO]
  rw [hO] at h3
  have E := Lib.hid h3
  clear h3 hO
  go_enter Tryz.func5, Tryz.ntmps5
  go_wp2
  all_goals
    go_ret
    have e := E.out
    first
      | (rw [if_pos (by assumption)] at e; subst e; exact ⟨rfl, rfl⟩)
      | (rw [if_neg (by omega)] at e; subst e; exact ⟨rfl, rfl⟩)

theorem place_any (w : World) (a : Option Addr) (cap : Nat) (l : List (Int × Int)) (k : Int) (HR : Rd w 52 a (pcells l)) (hl : l.length ≤ 140737488351232) :
    Calls Tryz.prog 35 #[.slice a l.length cap, .int .i64 k] w fun e w' => e = .returned (.int .i64 (R.place k l : Int)) ∧ w = w' := by
  obtain ⟨O, hO⟩ : ∃ O, R.place k l = O := ⟨_, rfl⟩
  rw [hO]
  have E := Lib.hid hO
  clear hO
  go_enter Tryz.func35, Tryz.ntmps35
  go_wp2
  go_loop [5] (fun n => ∃ m : Nat, m ≤ l.length ∧ n = .int .i64 (m : Int) ∧ Hid (R.place k (l.drop m) + m = O)) (fun n => l.length - (intOf n).toNat)
  case atStart => exact ⟨0, by omega, rfl, E⟩
  case round =>
    obtain ⟨m, hm, rfl, I⟩ := hrel
    rcases Nat.lt_or_ge m l.length with h | h
    · obtain ⟨p, hp⟩ : ∃ p, l[m]? = some p := ⟨_, List.getElem?_eq_getElem h⟩
      obtain ⟨b, off, rfl, hc⟩ := HR.cells_at (by intro e; have := pcells_length l; rw [e] at this; simp at this; omega)
      have c0 := hc _ _ (pcells_at l m p hp).1
      rw [R.place_drop k l m p hp] at I
      have h' : (m : Int) < (l.length : Int) := by omega
      have HP := Lib.hid hp
      clear hc hp
      rcases Int.lt_or_le p.1 k with h2 | h2
      · rw [if_pos h2] at I
        go_wp2
        go_round
        case rel => exact ⟨m + 1, by omega, by go_num, (by have := I.out; omega : R.place k (l.drop (m + 1)) + (m + 1) = O)⟩
        case measure => simp [intOf]; omega
      · rw [if_neg (by omega)] at I
        go_wp2
        go_ret
        have e := I.out
        exact ⟨ret_int (by omega), rfl⟩
    · have h' : (l.length : Int) ≤ (m : Int) := by omega
      have e := I.out
      rw [List.drop_eq_nil_of_le (by omega)] at e
      unfold R.place at e
      have E2 := Lib.hid e
      clear e
      go_wp2
      go_ret
      have e := E2.out
      exact ⟨ret_int (by omega), rfl⟩

theorem Rd.prefix {w : World} {T : TypeId} {a : Option Addr} {xs ys : List Value} (h : Rd w T a xs) (hp : ys <+: xs) : Rd w T a ys := by
  obtain ⟨zs, rfl⟩ := hp
  exact h.take
theorem pcells_take (l : List (Int × Int)) (n : Nat) : pcells (l.take n) <+: pcells l := by
  conv => rhs; rw [← List.take_append_drop n l, pcells_append]
  exact List.prefix_append _ _
theorem Rd.shift {w : World} {T : TypeId} {b off : Nat} {xs ys : List Value} (h : Rd w T (some ⟨b, off, none⟩) (xs ++ ys)) : Rd w T (some ⟨b, off + xs.length, none⟩) ys := by
  rcases h with h | ⟨b', off', cs, fr, ha, hb, hc⟩
  · exact .inl (List.append_eq_nil_iff.1 h).2
  · injection ha with ha
    injection ha with h1 h2
    subst h1 h2
    refine .inr ⟨b, off + xs.length, cs, fr, rfl, hb, fun j hj => ?_⟩
    have := hc (xs.length + j) (by simp; omega)
    rw [List.getElem?_append_right (by omega)] at this
    rw [Nat.add_assoc, this]
    congr 1
    omega

theorem put_fin0 {w : World} {v' : Value} {l O : List (Int × Int)} {k v : Int} {n d : Nat} (hn : n ≤ l.length) (hd : l.length ≤ d) (hO : O = l.take n ++ [(k, v)] ++ l.drop d)
    (o : w.ownsRow 0 52 2 v' (n + 1) (pcells (l.take n) ++ pcells [(k, v)])) : w.ownsRow 0 52 2 v' O.length (pcells O) := by
  rw [List.drop_eq_nil_of_le hd, List.append_nil] at hO
  have hlen : O.length = n + 1 := by rw [hO]; simp; omega
  rw [hlen, hO, pcells_append]
  exact o
theorem rd_drop {w : World} {b off : Nat} {l : List (Int × Int)} {d : Nat} (h : Rd w 52 (some ⟨b, off, none⟩) (pcells l)) (hd : d ≤ l.length) : Rd w 52 (some ⟨b, off + d * 2, none⟩) (pcells (l.drop d)) := by
  have e : pcells l = pcells (l.take d) ++ pcells (l.drop d) := by rw [← pcells_append, List.take_append_drop]
  rw [e] at h
  have := h.shift
  rw [pcells_length, List.length_take, Nat.min_eq_left hd] at this
  exact this
theorem put_fin {w : World} {v' : Value} {l O : List (Int × Int)} {k v : Int} {n d : Nat} (hn : n ≤ l.length) (hd : d ≤ l.length) (hO : O = l.take n ++ [(k, v)] ++ l.drop d)
    (o : w.ownsRow 0 52 2 v' (n + 1 + (l.length - d)) (pcells (l.take n) ++ (pcells [(k, v)] ++ pcells (l.drop d)))) : w.ownsRow 0 52 2 v' O.length (pcells O) := by
  have hlen : O.length = n + 1 + (l.length - d) := by rw [hO]; simp; omega
  rw [hlen, hO, pcells_append, pcells_append, List.append_assoc]
  exact o

set_option maxHeartbeats 4000000 in
set_option maxRecDepth 100000 in
theorem put_any (w : World) (a : Option Addr) (cap : Nat) (l : List (Int × Int)) (k v : Int) (HR : Rd w 52 a (pcells l)) (hl : l.length ≤ 1000000) (hcap : l.length ≤ cap) :
    Calls Tryz.prog 19 #[.slice a l.length cap, .int .i64 k, .int .i64 v] w fun e w' => ∃ v', e = .returned v' ∧ w'.ownsRow 0 52 2 v' (R.put l k v).length (pcells (R.put l k v)) ∧ (∀ g, v'.ownBlock = some g → w.heap.size ≤ g) ∧ Fr [] w w' := by
  obtain ⟨O, hO⟩ : ∃ O, R.put l k v = O := ⟨_, rfl⟩
  rw [hO]
  unfold R.put at hO
  obtain ⟨n, hn⟩ : ∃ n, R.place k l = n := ⟨_, rfl⟩
  have hnl := R.place_le k l
  rw [hn] at hO hnl
  have HN := Lib.hid hn
  have E := Lib.hid hO
  clear hn hO
  have hn0 : (0 : Int) ≤ (n : Int) := by omega
  have hn1 : (n : Int) ≤ (cap : Int) := by omega
  have hn2 : (n : Int) ≤ (l.length : Int) := by omega
  go_enter Tryz.func19, Tryz.ntmps19
  go_wp2_with fail
  refine (place_any w a cap l k HR (by omega)).mono ?_
  rintro e w' ⟨rfl, rfl⟩
  rw [HN.out]
  have F0 : Fr [] w (w.alloc (.cells #[] 52)) := (Fr.refl [] w).alloc _
  have o0 := owns_empty w 52 2
  have R0 : Rd (w.alloc (.cells #[] 52)) 52 a (pcells (l.take n)) := (HR.prefix (pcells_take l n)).grow F0
  go_wp2_with (at_builtin; refine append_gen elem_pair _ rfl _ _ rfl (.slice (some ⟨w.heap.size, 0, none⟩) 0 0) 0 [] (pcells (l.take n)) rfl o0 a n _ rfl (by rw [pcells_length, List.length_take]; omega) R0 (pcells_flat _) (by omega) ?_)
  intro v1 w1 o1 F1 hb1
  obtain ⟨sa1, sc1, rfl, hc1, R1⟩ := owns_Rd o1
  have hv1 : ∀ g, (Value.slice sa1 n sc1).ownBlock = some g → w.heap.size ≤ g := by
    intro g hg
    rcases hb1 with e | e
    · rw [e] at hg
      have hg' : some w.heap.size = some g := hg
      injection hg' with e2; omega
    · rw [e] at hg; injection hg with hg; first | omega | (simp at hg; omega)
  have F2 : Fr [] w w1 := F0.trans' F1 (fun x hx => .inr (by
    have hx' : some w.heap.size = some x := mem_own hx
    injection hx' with e2; omega))
  have F3 : Fr [] w1 (w1.alloc (.cells #[.int .i64 k, .int .i64 v] 52)) := (Fr.refl [] w1).alloc _
  have o1' := owns_keep o1 F3 (by simp)
  have R2 : Rd (w1.alloc (.cells #[.int .i64 k, .int .i64 v] 52)) 52 (some ⟨w1.heap.size, 0, none⟩) (pcells [(k, v)]) :=
    .inr ⟨w1.heap.size, 0, _, (0, 0), rfl, Blk.new w1 _ _, fun j hj => by
      have hj' : j < 2 := by simpa [pcells] using hj
      rcases (by omega : j = 0 ∨ j = 1) with rfl | rfl <;> rfl⟩
  clear hb1 R0 o0
  go_wp2_with (at_builtin; refine append_gen elem_pair _ rfl _ _ rfl (.slice sa1 n sc1) n (pcells (l.take n)) (pcells [(k, v)]) rfl o1' (some ⟨w1.heap.size, 0, none⟩) 1 1 rfl rfl R2 (pcells_flat _) (by omega) ?_)
  intro v2 w2 o2 F4 hb2
  obtain ⟨sa2, sc2, rfl, hc2, R3⟩ := owns_Rd o2
  have F5 : Fr [] w w2 := (F2.trans F3).trans' F4 (fun x hx => .inr (hv1 x (mem_own hx)))
  have hv2 : ∀ g, (Value.slice sa2 (n + 1) sc2).ownBlock = some g → w.heap.size ≤ g := by
    intro g hg
    have hs := F2.size
    rcases hb2 with e | e
    · exact hv1 g (by rw [← e]; exact hg)
    · rw [e] at hg; injection hg with hg; first | omega | (simp at hg; omega)
  clear hb2 o1' R1 R2 R3 o1 F3 F4
  rcases Nat.lt_or_ge n l.length with h | h
  · obtain ⟨p, hp⟩ : ∃ p, l[n]? = some p := ⟨_, List.getElem?_eq_getElem h⟩
    have HR2 := HR.grow F5
    obtain ⟨b, off, rfl, hcell⟩ := HR2.cells_at (by intro e; have := pcells_length l; rw [e] at this; simp at this; omega)
    have q0 := hcell _ _ (pcells_at l n p hp).1
    have h' : (n : Int) < (l.length : Int) := by omega
    have HP := Lib.hid hp
    clear hcell hp
    by_cases hk : p.1 = k
    · have t : (p.1 == k) = true := by simpa using hk
      have HK := Lib.hid hk
      clear hk
      by_cases hcd : cap = n + 1
      · subst hcd
        go_wp2_with (at_builtin; refine append_gen elem_pair _ rfl _ _ rfl (.slice sa2 (n + 1) sc2) (n + 1) (pcells (l.take n) ++ pcells [(k, v)]) [] rfl o2 _ 0 _ rfl (by simp) (Rd.nil _ _ _) (by simp) (by omega) ?_)
        · intro v3 w3 o3 F6 hb3
          obtain ⟨sa3, sc3, rfl, hc3, _⟩ := owns_Rd o3
          have F7 : Fr [] w w3 := F5.trans' F6 (fun x hx => .inr (hv2 x (mem_own hx)))
          go_wp2
          go_ret
          refine ⟨_, rfl, put_fin0 (d := n + 1) (by omega) (by omega) ?_ (by simpa using o3), ?_, F7⟩
          · have e := E.out
            rw [HP.out] at e; simp only [Option.map_some, HK.out, if_true] at e; exact e.symm
          · intro g hg
            have hs := F5.size
            rcases hb3 with e | e
            · exact hv2 g (by rw [← e]; exact hg)
            · have hg' : some w2.heap.size = some g := e.symm.trans hg
              injection hg' with e2; omega
      · have hcd' : (n : Int) + 1 < (cap : Int) := by omega
        go_wp2_with (at_builtin; refine append_gen elem_pair _ rfl _ _ rfl (.slice sa2 (n + 1) sc2) (n + 1) (pcells (l.take n) ++ pcells [(k, v)]) (pcells (l.drop (n + 1))) rfl o2 _ (l.length - (n + 1)) _ rfl (by rw [pcells_length, List.length_drop]) ?_ (pcells_flat _) (by omega) ?_)
        · first
            | (rw [List.drop_eq_nil_of_le (by omega)]; exact Rd.nil _ _ _)
            | exact rd_drop (HR.grow F5) (by omega)
        · intro v3 w3 o3 F6 hb3
          obtain ⟨sa3, sc3, rfl, hc3, _⟩ := owns_Rd o3
          have F7 : Fr [] w w3 := F5.trans' F6 (fun x hx => .inr (hv2 x (mem_own hx)))
          go_wp2
          go_ret
          refine ⟨_, rfl, put_fin (d := n + 1) (by omega) (by omega) ?_ o3, ?_, F7⟩
          · have e := E.out
            rw [HP.out] at e; simp only [Option.map_some, HK.out, if_true] at e; exact e.symm
          · intro g hg
            have hs := F5.size
            rcases hb3 with e | e
            · exact hv2 g (by rw [← e]; exact hg)
            · have hg' : some w2.heap.size = some g := e.symm.trans hg
              injection hg' with e2; omega
    · have t : (p.1 == k) = false := by simpa using hk
      have HK := Lib.hid hk
      clear hk
      have hcd : ¬ cap = n := by omega
      have hcd' : (n : Int) < (cap : Int) := by omega
      go_wp2_with (at_builtin; refine append_gen elem_pair _ rfl _ _ rfl (.slice sa2 (n + 1) sc2) (n + 1) (pcells (l.take n) ++ pcells [(k, v)]) (pcells (l.drop (n))) rfl o2 _ (l.length - (n)) _ rfl (by rw [pcells_length, List.length_drop]) ?_ (pcells_flat _) (by omega) ?_)
      · first
          | (rw [List.drop_eq_nil_of_le (by omega)]; exact Rd.nil _ _ _)
          | exact rd_drop (HR.grow F5) (by omega)
      · intro v3 w3 o3 F6 hb3
        obtain ⟨sa3, sc3, rfl, hc3, _⟩ := owns_Rd o3
        have F7 : Fr [] w w3 := F5.trans' F6 (fun x hx => .inr (hv2 x (mem_own hx)))
        go_wp2
        go_ret
        refine ⟨_, rfl, put_fin (d := n) (by omega) (by omega) ?_ o3, ?_, F7⟩
        · have e := E.out
          rw [HP.out] at e; simp only [Option.map_some, Option.some.injEq, HK.out, if_false, Nat.add_zero] at e; exact e.symm
        · intro g hg
          have hs := F5.size
          rcases hb3 with e | e
          · exact hv2 g (by rw [← e]; exact hg)
          · have hg' : some w2.heap.size = some g := e.symm.trans hg
            injection hg' with e2; omega
  · have hnl2 : n = l.length := by omega
    have h' : (l.length : Int) ≤ (n : Int) := by omega
    have HL := Lib.hid hnl2
    clear hnl2
    by_cases hcd : cap = n
    · obtain rfl : n = cap := hcd.symm
      cases a with
      | none =>
        go_wp2_with (at_builtin; refine append_gen elem_pair _ rfl _ _ rfl (.slice sa2 (n + 1) sc2) (n + 1) (pcells (l.take n) ++ pcells [(k, v)]) [] rfl o2 _ 0 _ rfl (by simp) (Rd.nil _ _ _) (by simp) (by omega) ?_)
        · intro v3 w3 o3 F6 hb3
          obtain ⟨sa3, sc3, rfl, hc3, _⟩ := owns_Rd o3
          have F7 : Fr [] w w3 := F5.trans' F6 (fun x hx => .inr (hv2 x (mem_own hx)))
          go_wp2
          go_ret
          refine ⟨_, rfl, put_fin0 (d := n) (by omega) (by omega) ?_ (by simpa using o3), ?_, F7⟩
          · have e := E.out
            rw [List.getElem?_eq_none (by omega)] at e; simp only [Option.map_none, reduceCtorEq, if_false, Nat.add_zero] at e; exact e.symm
          · intro g hg
            have hs := F5.size
            rcases hb3 with e | e
            · exact hv2 g (by rw [← e]; exact hg)
            · have hg' : some w2.heap.size = some g := e.symm.trans hg
              injection hg' with e2; omega
      | some ad =>
        go_wp2_with (at_builtin; refine append_gen elem_pair _ rfl _ _ rfl (.slice sa2 (n + 1) sc2) (n + 1) (pcells (l.take n) ++ pcells [(k, v)]) [] rfl o2 _ 0 _ rfl (by simp) (Rd.nil _ _ _) (by simp) (by omega) ?_)
        · intro v3 w3 o3 F6 hb3
          obtain ⟨sa3, sc3, rfl, hc3, _⟩ := owns_Rd o3
          have F7 : Fr [] w w3 := F5.trans' F6 (fun x hx => .inr (hv2 x (mem_own hx)))
          go_wp2
          go_ret
          refine ⟨_, rfl, put_fin0 (d := n) (by omega) (by omega) ?_ (by simpa using o3), ?_, F7⟩
          · have e := E.out
            rw [List.getElem?_eq_none (by omega)] at e; simp only [Option.map_none, reduceCtorEq, if_false, Nat.add_zero] at e; exact e.symm
          · intro g hg
            have hs := F5.size
            rcases hb3 with e | e
            · exact hv2 g (by rw [← e]; exact hg)
            · have hg' : some w2.heap.size = some g := e.symm.trans hg
              injection hg' with e2; omega
    · have hcd' : (n : Int) < (cap : Int) := by omega
      cases a with
      | none =>
        go_wp2_with (at_builtin; refine append_gen elem_pair _ rfl _ _ rfl (.slice sa2 (n + 1) sc2) (n + 1) (pcells (l.take n) ++ pcells [(k, v)]) [] rfl o2 _ 0 _ rfl (by simp) (Rd.nil _ _ _) (by simp) (by omega) ?_)
        · intro v3 w3 o3 F6 hb3
          obtain ⟨sa3, sc3, rfl, hc3, _⟩ := owns_Rd o3
          have F7 : Fr [] w w3 := F5.trans' F6 (fun x hx => .inr (hv2 x (mem_own hx)))
          go_wp2
          go_ret
          refine ⟨_, rfl, put_fin0 (d := n) (by omega) (by omega) ?_ (by simpa using o3), ?_, F7⟩
          · have e := E.out
            rw [List.getElem?_eq_none (by omega)] at e; simp only [Option.map_none, reduceCtorEq, if_false, Nat.add_zero] at e; exact e.symm
          · intro g hg
            have hs := F5.size
            rcases hb3 with e | e
            · exact hv2 g (by rw [← e]; exact hg)
            · have hg' : some w2.heap.size = some g := e.symm.trans hg
              injection hg' with e2; omega
      | some ad =>
        go_wp2_with (at_builtin; refine append_gen elem_pair _ rfl _ _ rfl (.slice sa2 (n + 1) sc2) (n + 1) (pcells (l.take n) ++ pcells [(k, v)]) [] rfl o2 _ 0 _ rfl (by simp) (Rd.nil _ _ _) (by simp) (by omega) ?_)
        · intro v3 w3 o3 F6 hb3
          obtain ⟨sa3, sc3, rfl, hc3, _⟩ := owns_Rd o3
          have F7 : Fr [] w w3 := F5.trans' F6 (fun x hx => .inr (hv2 x (mem_own hx)))
          go_wp2
          go_ret
          refine ⟨_, rfl, put_fin0 (d := n) (by omega) (by omega) ?_ (by simpa using o3), ?_, F7⟩
          · have e := E.out
            rw [List.getElem?_eq_none (by omega)] at e; simp only [Option.map_none, reduceCtorEq, if_false, Nat.add_zero] at e; exact e.symm
          · intro g hg
            have hs := F5.size
            rcases hb3 with e | e
            · exact hv2 g (by rw [← e]; exact hg)
            · have hg' : some w2.heap.size = some g := e.symm.trans hg
              injection hg' with e2; omega
end Go.Proofs.YtfgkgmfcbhbomaaGreat
