/- hand.Wide. -/
import Derived.Test.YtfgkgmfcbhbomaaGreatCells
set_option linter.unusedVariables false
namespace Go.Proofs.YtfgkgmfcbhbomaaGreat.R
def wideP (l : List Int) : List (Int × Int) := l.foldl (fun p x => put p x 0) []
theorem wideP_succ (l : List Int) (k : Nat) (h : k < l.length) : wideP (l.take (k + 1)) = put (wideP (l.take k)) (l.getD k 0) 0 := by
  unfold wideP
  rw [List.take_succ_eq_append_getElem h, List.foldl_append, List.getD_eq_getElem?_getD, List.getElem?_eq_getElem h]
  rfl
theorem put_length (l : List (Int × Int)) (k v : Int) : (put l k v).length ≤ l.length + 1 := by
  unfold put
  have := place_le k l
  simp only [List.length_append, List.length_take, List.length_drop, List.length_cons, List.length_nil]
  split <;> omega
theorem wideP_length (l : List Int) : (wideP l).length ≤ l.length := by
  have : ∀ (l : List Int) (p : List (Int × Int)), (l.foldl (fun p x => put p x 0) p).length ≤ p.length + l.length := by
    intro l
    induction l with
    | nil => intro p; simp
    | cons x l ih => intro p; have := ih (put p x 0); have := put_length p x 0; simp only [List.foldl_cons, List.length_cons]; omega
  have h := this l []
  simp only [List.length_nil, Nat.zero_add] at h
  exact h
theorem put_mem (l : List (Int × Int)) (k v : Int) : ∀ p ∈ put l k v, p ∈ l ∨ p = (k, v) := by
  intro p hp
  unfold put at hp
  rcases List.mem_append.1 hp with hp | hp
  · rcases List.mem_append.1 hp with hp | hp
    · exact .inl (List.mem_of_mem_take hp)
    · exact .inr (by simpa using hp)
  · exact .inl (List.mem_of_mem_drop hp)
theorem wideP_mem (l : List Int) : ∀ p ∈ wideP l, p.1 ∈ l := by
  have : ∀ (l : List Int) (p0 : List (Int × Int)), ∀ p ∈ l.foldl (fun p x => put p x 0) p0, p ∈ p0 ∨ p.1 ∈ l := by
    intro l
    induction l with
    | nil => intro p0 p hp; exact .inl hp
    | cons x l ih =>
      intro p0 p hp
      rcases ih _ p hp with h | h
      · rcases put_mem _ _ _ p h with h | h
        · exact .inl h
        · exact .inr (by rw [h]; simp)
      · exact .inr (List.mem_cons_of_mem _ h)
  intro p hp
  rcases this l [] p hp with h | h
  · cases h
  · exact h
end Go.Proofs.YtfgkgmfcbhbomaaGreat.R
namespace Go.Proofs.YtfgkgmfcbhbomaaGreat
open Go.RowKit
open R (MS)

set_option maxHeartbeats 2000000 in
theorem wide_any (T : TypeId) (w : World) (a : Option Addr) (c : Nat) (xs : List Int) (HR : Rd w T a (ints .i64 xs)) (hl : xs.length ≤ 9223372036854775807) :
    Calls Tryz.prog 4 #[.slice a xs.length c] w fun e w' => ∃ v', e = .returned v' ∧ w'.ownsRow 0 2 1 v' (R.wideP (xs.take 80)).length (ints .i64 ((R.wideP (xs.take 80)).map (·.1))) ∧ (∀ g, v'.ownBlock = some g → w.heap.size ≤ g) ∧ Fr [] w w' := by
  go_enter Tryz.func4, Tryz.ntmps4
  go_wp2
  go_loopw [3, 4] (fun p i wr => ∃ k : Nat, k ≤ xs.length ∧ k ≤ 80 ∧ i = .int .i64 (k : Int) ∧ wr.ownsRow 0 52 2 p (R.wideP (xs.take k)).length (pcells (R.wideP (xs.take k))) ∧ (∀ g, p.ownBlock = some g → w.heap.size ≤ g) ∧ Fr [] w wr) (fun p i _ => 80 - (intOf i).toNat)
  case atStart => exact ⟨0, by omega, by omega, rfl, ⟨rfl, .inl ⟨rfl, rfl⟩⟩, by simp [Value.ownBlock], Fr.refl _ _⟩
  case round =>
    obtain ⟨k, hk, hk2, rfl, o1, hg, F1⟩ := hrel
    by_cases hlt : k < xs.length ∧ k < 80
    · obtain ⟨h, h8⟩ := hlt
      obtain ⟨sa, sc, rfl, hcap, hR⟩ := owns_Rd o1
      obtain ⟨x, hx⟩ : ∃ x, xs.getD k 0 = x := ⟨_, rfl⟩
      have HR1 := HR.grow F1
      obtain ⟨ab, ao, rfl, hca⟩ := HR1.cells_at (by intro e; have := congrArg List.length e; simp only [ints, List.length_map, List.length_nil] at this; omega)
      have c0 := hca _ _ (ints_at .i64 xs k h)
      rw [hx] at c0
      have HX := Lib.hid hx
      have h0 : (0 : Int) ≤ (k : Int) := by omega
      have h1 : (k : Int) < (xs.length : Int) := by omega
      have h2 : (k : Int) < 80 := by omega
      have hpl := R.wideP_length (xs.take k)
      rw [List.length_take] at hpl
      clear hca hx
      go_wp2_with fail
      refine (put_any wr sa sc _ x 0 hR (by omega) hcap).mono ?_
      rintro e w2 ⟨v2, rfl, o2, hg2, F2⟩
      go_wp2
      go_roundw
      case rel =>
        refine ⟨k + 1, by omega, by omega, by go_num, ?_, ?_, F1.trans' F2 (by simp)⟩
        · rw [R.wideP_succ _ _ h, HX.out]; exact o2
        · intro g hg'; have := hg2 g hg'; have := F1.size; omega
      case measure => simp [intOf]; omega
    · have hE : R.wideP (xs.take k) = R.wideP (xs.take 80) := by
        congr 1
        rcases Nat.lt_or_ge k xs.length with h | h
        · have : k = 80 := by omega
          rw [this]
        · rw [List.take_of_length_le h, List.take_of_length_le (by omega)]
      rw [hE] at o1
      clear hE
      have hpl := R.wideP_length (xs.take 80)
      rw [List.length_take] at hpl
      obtain ⟨ps, hps⟩ : ∃ ps, R.wideP (xs.take 80) = ps := ⟨_, rfl⟩
      rw [hps] at o1 hpl
      have HP := Lib.hid hps
      have hor : (xs.length : Int) ≤ (k : Int) ∨ ((k : Int) < (xs.length : Int) ∧ (80 : Int) ≤ (k : Int)) := by omega
      clear hps hlt
      obtain ⟨sa, sc, rfl, hcap, hR⟩ := owns_Rd o1
      rcases hor with h' | ⟨h', h''⟩
      all_goals
        go_wp2
        go_loopw [5, 6] (fun o i wq => ∃ j : Nat, j ≤ ps.length ∧ i = .int .i64 (j : Int) ∧ wq.ownsRow 0 2 1 o j (ints .i64 ((ps.take j).map (·.1))) ∧ (∀ g, o.ownBlock = some g → wr.heap.size ≤ g) ∧ Fr [] wr wq) (fun o i _ => 80 - (intOf i).toNat)
        case atStart => exact ⟨0, by omega, rfl, ⟨rfl, .inl ⟨rfl, rfl⟩⟩, by simp [Value.ownBlock], Fr.refl _ _⟩
        case round =>
          obtain ⟨j, hj, rfl, o3, hg3, F3⟩ := hrel
          rcases Nat.lt_or_ge j ps.length with hl1 | hl1
          · obtain ⟨p, hp⟩ : ∃ p, ps[j]? = some p := ⟨_, List.getElem?_eq_getElem hl1⟩
            have hRq := hR.grow F3
            obtain ⟨pb, po, rfl, hca⟩ := hRq.cells_at (by intro e; have := congrArg List.length e; rw [pcells_length, List.length_nil] at this; omega)
            have c0 := hca _ _ (pcells_at ps j p hp).1
            have q0 : (0 : Int) ≤ (j : Int) := by omega
            have q1 : (j : Int) < (ps.length : Int) := by omega
            have F4 := (Fr.refl [] wr).alloc (.cells #[.int .i64 p.1] 2)
            have o3' := own_keep o3 F4 (by simp)
            have HP2 := Lib.hid hp
            have R2 : Rd (wr.alloc (.cells #[.int .i64 p.1] 2)) 2 (some ⟨wr.heap.size, 0, none⟩) (ints .i64 [p.1]) :=
              .inr ⟨wr.heap.size, 0, _, (0, 0), rfl, Blk.new wr _ _, fun j hj => by
                have hj' : j < 1 := by simpa [ints] using hj
                rcases (by omega : j = 0) with rfl; rfl⟩
            have hjl : (((ps.take j).map (·.1)).length) = j := by rw [List.length_map, List.length_take]; omega
            obtain ⟨L, hL⟩ : ∃ L, (ps.take j).map (·.1) = L := ⟨_, rfl⟩
            rw [hL] at o3' hjl o3
            have HL := Lib.hid hL
            obtain ⟨sb, sd, rfl, hS⟩ := own_Rd o3
            clear hca hp hL
            replace o3' : (wr.alloc (.cells #[.int .i64 p.1] 2)).ownsRow 0 2 1 (.slice sb j sd) L.length (ints .i64 L) := by rw [hjl]; exact o3'
            go_wp2_with (at_builtin; refine append_any _ rfl _ _ rfl (.slice sb j sd) L [p.1] (by rfl) o3' (some ⟨wr.heap.size, 0, none⟩) 1 1 rfl rfl R2 (by simp; omega) ?_)
            intro v2 w2 o4 F5 hb5
            go_wp2
            go_roundw
            case rel =>
              have e1 : (ps.take (j + 1)).map (·.1) = L ++ [p.1] := by
                rw [List.take_add_one, HP2.out, List.map_append, HL.out]; rfl
              refine ⟨j + 1, by omega, by go_num, ?_, ?_, ?_⟩
              · rw [e1]
                exact o4
              · intro g hg'
                have z4 := F3.size
                rcases hb5 with e | e
                · exact hg3 g (e ▸ hg')
                · have e' : some (wr.heap.size + 1) = some g := e.symm.trans hg'
                  injection e' with e2
                  omega
              · exact (F3.trans F4).trans' F5 (fun x hx => .inr (hg3 x (mem_own hx)))
            case measure => simp [intOf]; omega
          · have hq : (ps.length : Int) ≤ (j : Int) := by omega
            go_wp2
            have hjl : j = ps.length := by omega
            go_ret
            subst hjl
            rw [List.take_length] at o3
            rw [HP.out]
            exact ⟨_, rfl, o3, fun g hg' => by have := hg3 g hg'; have := F1.size; omega, F1.trans' F3 (by simp)⟩
end Go.Proofs.YtfgkgmfcbhbomaaGreat
