/- plant.lay. -/
import Derived.Test.YtilkkfpfcegncaaPlant
import Derived.Deep.RegionHeld3
import Derived.Deep.DeepCutAuto
set_option linter.unusedVariables false
namespace Go.Proofs.Ytilkkfpfcegncaa
open Go.RowKit
open R (MS)

theorem innerW_eq (n : Int) (q c : List Int) : R.innerW n q c = innerWords n q c := rfl
theorem of_i64 (k a : Int) : R.I64 (R.of k a) := by
  unfold R.of; split <;> constructor <;> omega

/-- Pairs of int64s. -/
def PI (l : List (Int × Int)) : Prop := ∀ p ∈ l, R.I64 p.1 ∧ R.I64 p.2
theorem PI.getD {l : List (Int × Int)} (h : PI l) (j : Nat) : R.I64 (l.getD j (0, 0)).1 ∧ R.I64 (l.getD j (0, 0)).2 := by
  rw [List.getD_eq_getElem?_getD]
  rcases Nat.lt_or_ge j l.length with h' | h'
  · rw [List.getElem?_eq_getElem h']; exact h _ (List.getElem_mem h')
  · rw [List.getElem?_eq_none h']; exact ⟨R.i64_0, R.i64_0⟩
theorem PI.sub {l : List (Int × Int)} (h : PI l) (a b : Nat) : PI ((l.drop a).take b) := fun p hp => h p (List.mem_of_mem_drop (List.mem_of_mem_take hp))
theorem same_trans {w w1 : World} {u v x : Value} (h1 : Same w u v) (h2 : Same w1 v x) (hz : w.heap.size ≤ w1.heap.size) : Same w u x := by
  rcases h2 with e | ⟨y, e, hy⟩
  · rcases h1 with e' | ⟨y, e', hy⟩
    · exact .inl (e.trans e')
    · exact .inr ⟨y, e.trans e', hy⟩
  · exact .inr ⟨y, e, by omega⟩
theorem same_old {w : World} {u v : Value} (h : v.ownBlock = u.ownBlock ∨ v.ownBlock = some w.heap.size) : Same w u v := by
  rcases h with h | h
  · exact .inl h
  · exact .inr ⟨_, h, Nat.le_refl _⟩
theorem partsF_len (lay : List (Int × Int) → MS → Int × MS) (l : List (Int × Int)) (n : Int) : ∀ (g : Nat) (i : Int) (K C : List Int) (M : MS), 0 ≤ i → (0 < i → C.length = K.length + 1) → (i = 0 → C = [] ∧ K = []) → 0 < g + i.toNat → (R.partsF lay l n g i K C M).2.1.length = (R.partsF lay l n g i K C M).1.length + 1 := by
  intro g
  induction g with
  | zero => intro i K C M h0 h1 h2 h3; exact h1 (by omega)
  | succ g ih =>
    intro i K C M h0 h1 h2 h3
    unfold R.partsF
    refine ih _ _ _ _ (by omega) (fun _ => ?_) (fun h => by omega) (by omega)
    rcases (by omega : i = 0 ∨ 0 < i) with hi | hi
    · obtain ⟨rfl, rfl⟩ := h2 hi
      rw [if_neg (by omega)]; rfl
    · rw [if_pos hi]
      have := h1 hi
      simp; omega

theorem one_row (w : World) (x : Int) : Rd (w.alloc (.cells #[.int .i64 x] 2)) 2 (some ⟨w.heap.size, 0, none⟩) (ints .i64 [x]) :=
  .inr ⟨w.heap.size, 0, _, (0, 0), rfl, Blk.new w _ _, fun j hj => by
    have hj' : j < 1 := by simpa [ints] using hj
    rcases (by omega : j = 0) with rfl; rfl⟩

theorem rd_mem {w w' : World} {T : TypeId} {a : Option Addr} {xs : List Value} {mb : Nat} {mv : Value} {M : MS} (h : Rd w T a xs) (HM : MemAt w mb mv M) (hF : Fr (mb :: ownOf mv) w w') (h1 : T ≠ 42) (h2 : T ≠ 2) : Rd w' T a xs := by
  refine h.keep hF fun b cs fr hb hm => ?_
  rcases List.mem_cons.1 hm with rfl | hm
  · have e := Option.some.inj (hb.symm.trans HM.1)
    injection e with _ e2
    exact h1 e2
  · obtain ⟨cur, hc⟩ := own_blk HM.2.1 (mem_own hm)
    have e := Option.some.inj (hb.symm.trans hc)
    injection e with _ e2
    exact h2 e2
theorem rd_pair {w : World} {pb po : Nat} {l : List (Int × Int)} (h : Rd w 25 (some ⟨pb, po, none⟩) (pcells l)) (j : Nat) (hj : j < l.length) : w.cell? ⟨pb, po + j * 2, none⟩ = some (.int .i64 (l.getD j (0, 0)).1) ∧ w.cell? ⟨pb, po + j * 2 + 1, none⟩ = some (.int .i64 (l.getD j (0, 0)).2) := by
  obtain ⟨b, o, hh, hc⟩ := h.cells_at (by intro e; have := congrArg List.length e; rw [pcells_length, List.length_nil] at this; omega)
  cases hh
  have hp : l[j]? = some (l.getD j (0, 0)) := by rw [List.getD_eq_getElem?_getD, List.getElem?_eq_getElem hj]; rfl
  obtain ⟨p1, p2⟩ := pcells_at l j _ hp
  exact ⟨hc _ _ p1, by rw [Nat.add_assoc]; exact hc _ _ p2⟩

theorem rd_own {w w' : World} {T e : TypeId} {a : Option Addr} {xs : List Value} {v : Value} {n : Nat} {ys : List Value} (h : Rd w T a xs) (ho : w.ownsRow 0 e 1 v n ys) (hF : Fr (ownOf v) w w') (h2 : T ≠ e) : Rd w' T a xs := by
  refine h.keep hF fun b cs fr hb hm => ?_
  obtain ⟨cur, hc⟩ := own_blk ho (mem_own hm)
  have e := Option.some.inj (hb.symm.trans hc)
  injection e with _ e2
  exact h2 e2
theorem layF_i64 (f : Nat) (l : List (Int × Int)) (M : MS) : R.I64 (R.layF f l M).1 := by
  cases f with
  | zero => exact R.i64_0
  | succ f =>
    unfold R.layF
    split
    · exact of_i64 _ _
    split
    · exact of_i64 _ _
    · exact of_i64 _ _

theorem inner_i64 {n : Int} {K C : List Int} (hK : ∀ x ∈ K, R.I64 x) (hC : ∀ x ∈ C, R.I64 x) (h0 : 0 ≤ n) (h1 : n ≤ 16384) (hc : (C.length : Int) ≤ 100000) : ∀ x ∈ innerWords n K C, R.I64 x := by
  intro x hx
  unfold innerWords at hx
  simp only [List.mem_append, List.mem_cons, List.not_mem_nil, or_false] at hx
  rcases hx with (hx | hx) | hx
  · constructor <;> omega
  · exact hK x hx
  · exact hC x hx

set_option maxHeartbeats 4000000 in
theorem ilay_any (f : Nat) : ∀ (l : List (Int × Int)) (w : World) (mb : Nat) (mv : Value) (M : MS) (a : Option Addr) (cap : Nat), l.length < f → l.length ≤ 16384 → l.length ≤ cap → cap ≤ 9223372036854775807 → Rd w 25 a (pcells l) → PI l → MemAt w mb mv M →
    Calls Try.prog 23 #[.pointer (some ⟨mb, 0, none⟩), .slice a l.length cap] w (madePost w mb mv (R.layF f l M).1 (R.layF f l M).2) := by
  induction f with
  | zero => intro l w mb mv M a cap h; omega
  | succ f ih =>
    intro l w mb mv M a cap hf hl hcap hcap2 HR hpi HM
    rcases (by omega : l.length = 0 ∨ l.length = 1 ∨ 2 ≤ l.length) with h0 | h1 | h2
    · have e : R.layF (f + 1) l M = (R.of 1 (M.made [0]), M.make [0]) := by unfold R.layF; rw [if_pos h0]
      rw [e, h0]
      clear e
      go_enter Try.func23, Try.ntmps23
      go_wp2_with fail
      refine (emptyWords_any _).mono ?_
      rintro e w1 ⟨v', rfl, o1, hv1, F1⟩
      obtain ⟨wa, wc, rfl, RW⟩ := own_Rd o1
      go_wp2_with fail
      refine (imade_any w1 mb mv M 1 [0] wa wc (HM.grow F1) RW (by intro x hx; simp at hx; subst hx; exact R.i64_0)).mono ?_
      rintro e w2 ⟨rfl, mv', H2, s2, F2⟩
      go_wp2
      go_ret
      have z1 := F1.size
      refine ⟨rfl, mv', H2, ?_, F1.old.trans F2⟩
      rcases s2 with h | ⟨y, h, hy⟩
      · exact .inl h
      · exact .inr ⟨y, h, by omega⟩
    · obtain ⟨k, v, rfl⟩ : ∃ k v, l = [(k, v)] := by
        rcases l with _ | ⟨⟨k, v⟩, _ | _⟩
        · simp at h1
        · exact ⟨k, v, rfl⟩
        · simp at h1
      have e : R.layF (f + 1) [(k, v)] M = (R.of 2 (M.made [k, v]), M.make [k, v]) := rfl
      rw [e]
      clear e
      obtain ⟨pb, po, rfl, hca⟩ := HR.cells_at (by simp [pcells])
      have c0 : w.cell? ⟨pb, po, none⟩ = some (.int .i64 k) := hca 0 _ rfl
      have c1 : w.cell? ⟨pb, po + 1, none⟩ = some (.int .i64 v) := hca 1 _ rfl
      have hpl : pb < w.heap.size := World.block_lt_of_cell? w _ c0
      have hpk := hpi _ (List.mem_singleton.2 rfl)
      simp only [List.length_singleton]
      go_enter Try.func23, Try.ntmps23
      go_wp2_with fail
      go_region_held3 (fun w' => w'.cell? ⟨pb, po, none⟩ = some (.int .i64 k) ∧ w'.cell? ⟨pb, po + 1, none⟩ = some (.int .i64 v)) (first | exact ⟨c0, c1⟩ | exact ⟨k0, k1⟩)
        (first
          | (go_at_call 43
             refine (leafWords_any _ _ _).mono ?_
             rintro e w1 ⟨rfl, R1, F1⟩
             replace F1 := F1.of_drew
             have R1' := HR.grow F1
             have k0 : w1.cell? ⟨pb, po, none⟩ = some (.int .i64 k) := (rd_pair R1' 0 (by simp)).1
             have k1 : w1.cell? ⟨pb, po + 1, none⟩ = some (.int .i64 v) := (rd_pair R1' 0 (by simp)).2)
          | (go_at_call 42
             refine (imade_any w1 mb mv M 2 [k, v] _ 2 (HM.grow F1) R1 (by intro x hx; simp at hx; rcases hx with rfl | rfl; exact hpk.1; exact hpk.2)).mono ?_
             rintro e w2 ⟨rfl, mv', H2, s2, F2⟩
             have R2' := rd_mem R1' (HM.grow F1) F2 (by decide) (by decide)
             have k0 : w2.cell? ⟨pb, po, none⟩ = some (.int .i64 k) := (rd_pair R2' 0 (by simp)).1
             have k1 : w2.cell? ⟨pb, po + 1, none⟩ = some (.int .i64 v) := (rd_pair R2' 0 (by simp)).2))
      all_goals
        go_wp2
        go_ret
        have z1 := F1.size
        refine ⟨rfl, mv', H2, ?_, F1.old.trans F2⟩
        rcases s2 with h | ⟨y, h, hy⟩
        · exact .inl h
        · exact .inr ⟨y, h, by omega⟩
    · obtain ⟨n, hn⟩ : ∃ n, l.length = n := ⟨_, rfl⟩
      have e : R.layF (f + 1) l M = (R.of 3 ((R.partsF (R.layF f) l n (R.degree n).toNat 0 [] [] M).2.2.made (R.innerW n (R.partsF (R.layF f) l n (R.degree n).toNat 0 [] [] M).1 (R.partsF (R.layF f) l n (R.degree n).toNat 0 [] [] M).2.1)), (R.partsF (R.layF f) l n (R.degree n).toNat 0 [] [] M).2.2.make (R.innerW n (R.partsF (R.layF f) l n (R.degree n).toNat 0 [] [] M).1 (R.partsF (R.layF f) l n (R.degree n).toNat 0 [] [] M).2.1)) := by
        conv => lhs; unfold R.layF
        rw [if_neg (by omega), if_neg (by omega), hn]
      rw [e]
      have hlen := partsF_len (R.layF f) l n (R.degree n).toNat 0 [] [] M (by omega) (by omega) (fun _ => ⟨rfl, rfl⟩)
      have hd := R.degree_bd n (by omega) (by omega)
      replace hlen := hlen (by omega)
      obtain ⟨O, hO⟩ : ∃ O, R.partsF (R.layF f) l n (R.degree n).toNat 0 [] [] M = O := ⟨_, rfl⟩
      rw [hO] at hlen ⊢
      obtain ⟨d, hdd⟩ : ∃ d : Nat, R.degree n = d := ⟨(R.degree n).toNat, by omega⟩
      rw [hdd] at hd
      have hd1 : 2 ≤ d := by omega
      have hd2 : d ≤ 256 := by omega
      rw [hdd, Int.toNat_natCast] at hO
      obtain ⟨pb, po, rfl, hca⟩ := HR.cells_at (by intro e; have := congrArg List.length e; rw [pcells_length, List.length_nil] at this; omega)
      have HRI := hO
      have HL := Lib.hid hlen
      have HDD := Lib.hid hdd
      have HO := Lib.hid hO
      have HN := Lib.hid hn
      have hn2 : 2 ≤ n := by omega
      have hn3 : n ≤ 16384 := by omega
      have hn4 : n ≤ cap := by omega
      have hnf : n < f + 1 := by omega
      have t0 : ((n : Int) == 0) = false := by rw [beq_eq_false_iff_ne]; omega
      have t1 : ((n : Int) == 1) = false := by rw [beq_eq_false_iff_ne]; omega
      rw [hn]
      clear e hlen hdd hO hn hd h2 hf hl hcap HRI hca
      go_enter Try.func23, Try.ntmps23
      go_wp2_with fail
      refine (idegree_any _ _ (by omega) (by omega)).mono ?_
      rintro e w' ⟨rfl, rfl⟩
      rw [HDD.out]
      go_wp2_with fail
      go_loopw [6, 7, 33] (fun kv cv iv wr => ∃ (i : Nat) (K C : List Int) (M' : MS) (mv' : Value), iv = .int .i64 (i : Int) ∧ i ≤ d ∧ Hid (R.partsF (R.layF f) l n (d - i) i K C M' = O) ∧ wr.ownsRow 0 2 1 kv K.length (ints .i64 K) ∧ wr.ownsRow 0 2 1 cv C.length (ints .i64 C) ∧ MemAt wr mb mv' M' ∧ Same w mv mv' ∧ Apart kv cv ∧ Apart mv' kv ∧ Apart mv' cv ∧ (∀ g, kv.ownBlock = some g → w.heap.size ≤ g) ∧ (∀ g, cv.ownBlock = some g → w.heap.size ≤ g) ∧ K.length ≤ i ∧ C.length ≤ i ∧ (∀ x ∈ K, R.I64 x) ∧ (∀ x ∈ C, R.I64 x) ∧ Fr (mb :: ownOf mv) w wr) (fun _ _ iv _ => d - (intOf iv).toNat)
      case atStart =>
        exact ⟨0, [], [], M, mv, rfl, by omega, HO, ⟨rfl, .inl ⟨rfl, rfl⟩⟩, ⟨rfl, .inl ⟨rfl, rfl⟩⟩, HM, .inl rfl, by intro g hg; simp [Value.ownBlock] at hg, by intro g _ hg; simp [Value.ownBlock] at hg, by intro g _ hg; simp [Value.ownBlock] at hg, by intro g hg; simp [Value.ownBlock] at hg, by intro g hg; simp [Value.ownBlock] at hg, by simp, by simp, by simp, by simp, Fr.refl _ _⟩
      case round =>
        obtain ⟨i, K, C, M', mv', rfl, hi, I, oK, oC, HM', sM, apKC, apMK, apMC, gK, gC, lK, lC, bK, bC, FW⟩ := hrel
        rcases Nat.lt_or_ge i d with hlt | hge
        · have hdi : (i : Int) < R.degree n := by rw [HDD.out]; omega
          obtain ⟨p0, p1, p2, p3⟩ := R.part_fits n i (by omega) (by omega) (by omega) hdi
          obtain ⟨F, hF⟩ := Int.eq_ofNat_of_zero_le p0
          obtain ⟨s, hs⟩ := Int.eq_ofNat_of_zero_le (show 0 ≤ R.psize n i by omega)
          rw [hF, hs] at p3
          rw [hs] at p1 p2
          have HF := Lib.hid hF
          have HS := Lib.hid hs
          obtain ⟨x, hx⟩ : ∃ x, (l.getD F (0, 0)).1 = x := ⟨_, rfl⟩
          have hxb := (hpi.getD F).1
          rw [hx] at hxb
          have HX := Lib.hid hx
          have hi0 : (0 : Int) ≤ (i : Int) := by omega
          have hi1 : (i : Int) < (d : Int) := by omega
          clear hF hs hx p0
          go_wp2_with fail
          refine (ifrom_any _ n i (by omega) (by omega) hi0 hdi).mono ?_
          rintro e w' ⟨rfl, m, rfl⟩
          rw [HF.out]
          go_upto_if 40 with (fail)
          obtain ⟨K2, hK2⟩ : ∃ K2, (if (0 : Int) < (i : Int) then K ++ [x] else K) = K2 := ⟨_, rfl⟩
          have HK2 := Lib.hid hK2
          have lK2 : K2.length ≤ i + 1 := by rw [← hK2]; split <;> (try simp only [List.length_append, List.length_singleton]) <;> omega
          have bK2 : ∀ y ∈ K2, R.I64 y := by
            rw [← hK2]; split
            · intro y hy
              rcases List.mem_append.1 hy with hy | hy
              · exact bK y hy
              · rw [List.mem_singleton.1 hy]; exact hxb
            · exact bK
          have zr := FW.size
          have gKs := own_lt oK
          clear hK2
          go_cut [6] (fun s6 wx => ∃ kv2 : Value, kv2 = s6 ∧ wx.ownsRow 0 2 1 kv2 K2.length (ints .i64 K2) ∧ Same wr u6 kv2 ∧ Fr (ownOf u6) wr wx)
          case first =>
            rcases Nat.eq_zero_or_pos i with h0 | h0
            · have hk := HK2.out
              rw [if_neg (by omega)] at hk
              subst hk
              have hi9 : (i : Int) ≤ 0 := by omega
              have H0 := Lib.hid h0
              clear h0
              go_wp2_with fail
              go_meet
              exact ⟨u6, rfl, oK, .inl rfl, (Fr.refl _ _).drewN m⟩
            · have hi9 : 0 < (i : Int) := by omega
              have hk := HK2.out
              rw [if_pos hi9] at hk
              have HKK := Lib.hid hk
              have HRr := rd_mem HR HM FW (by decide) (by decide)
              have c0 : wr.cell? ⟨pb, po + F * 2, none⟩ = some (.int .i64 x) := by
                have := (rd_pair HRr F (by rw [HN.out]; omega)).1
                rwa [HX.out] at this
              have hF0 : (0 : Int) ≤ (F : Int) := by omega
              have hFn : (F : Int) < (n : Int) := by omega
              have FA := ((Fr.refl [] wr).drewN m).alloc (.cells #[.int .i64 x] 2)
              have oK' := own_keep oK FA (by simp)
              have R2 := one_row (wr.drewN m) x
              obtain ⟨sb, sd, rfl, hS⟩ := own_Rd oK
              clear hk
              go_wp2_with (at_builtin; refine append_any _ rfl _ _ rfl (.slice sb K.length sd) K [x] (by rfl) oK' (some ⟨wr.heap.size, 0, none⟩) 1 1 rfl rfl R2 (by simp; omega) ?_)
              intro v2 w2 o4 F5 hb5
              go_wp2_with fail
              go_meet
              refine ⟨v2, rfl, ?_, ?_, ?_⟩
              · rw [← HKK.out]; simpa using o4
              · rcases hb5 with h | h
                · exact .inl h
                · exact .inr ⟨_, h, by simp⟩
              · exact FA.old.trans F5
          case rest =>
            obtain ⟨kv2, rfl, oK2, sK2, FK⟩ := hcut
            have HMc : MemAt wc mb mv' M' := HM'.keep FK (fun hm => own_out oK HM'.1 (by decide) mb (mem_own hm) (by simp)) (apart_out apMK)
            have oC2 := own_keep oC FK (fun g hg hm => apKC g (mem_own hm) hg)
            have ap1 : Apart u7 kv2 := apart_same apKC.symm sK2 (own_lt oC)
            have ap2 : Apart mv' kv2 := apart_same apMK sK2 (own_lt HM'.2.1)
            have HRc : Rd wc 25 (some ⟨pb, po, none⟩) (pcells l) := rd_own (rd_mem HR HM FW (by decide) (by decide)) oK FK (by decide)
            have FWc : Fr (mb :: ownOf mv) w wc := FW.trans' FK (fun y hy => .inr (gK y (mem_own hy)))
            have gK2 := same_ge sK2 gK zr
            obtain ⟨L2, hL2⟩ : ∃ L2, (l.drop F).take s = L2 := ⟨_, rfl⟩
            have hL2l : L2.length = s := by rw [← hL2, List.length_take, List.length_drop, HN.out]; omega
            have hRL : Rd wc 25 (some ⟨pb, po + F * 2, none⟩) (pcells L2) := by
              rw [← hL2]
              exact (rd_drop HRc (by rw [HN.out]; omega)).pref (pcells_take _ _)
            have hpL : PI L2 := by rw [← hL2]; exact hpi.sub _ _
            have IH := ih L2 wc mb mv' M' (some ⟨pb, po + F * 2, none⟩) (cap - F) (by omega) (by omega) (by omega) (by omega) hRL hpL HMc
            rw [hL2l] at IH
            obtain ⟨P, hP⟩ : ∃ P, R.layF f L2 M' = P := ⟨_, rfl⟩
            obtain ⟨X, M3⟩ := P
            rw [hP] at IH
            have HL2 := Lib.hid hL2
            have HP := Lib.hid hP
            have hXb : R.I64 X := by
              have : X = (R.layF f L2 M').1 := by rw [hP]
              rw [this]; exact layF_i64 f L2 M'
            have hF0 : (0 : Int) ≤ (F : Int) := by omega
            have hFs : (F : Int) + (s : Int) ≤ (n : Int) := by omega
            clear hL2 hP hL2l hRL hpL
            go_wp2_with fail
            refine (isize_any _ n i (by omega) (by omega) hi0 hdi).mono ?_
            rintro e w' ⟨rfl, rfl⟩
            rw [HS.out]
            go_wp2_with fail
            refine IH.mono ?_
            rintro e w3 ⟨rfl, mv3, HM3, s3, F3⟩
            have oK3 := own_keep oK2 F3 (fun g hg hm => by
              rcases List.mem_cons.1 hm with h | h
              · exact own_out oK2 HMc.1 (by decide) g hg (by simp [h])
              · exact ap2 g (mem_own h) hg)
            have apC : Apart mv' u7 := apMC
            have oC3 := own_keep oC2 F3 (fun g hg hm => by
              rcases List.mem_cons.1 hm with h | h
              · exact own_out oC2 HMc.1 (by decide) g hg (by simp [h])
              · exact apC g (mem_own h) hg)
            have ap4 : Apart mv3 kv2 := (apart_same ap2.symm s3 (own_lt oK2)).symm
            have ap5 : Apart mv3 u7 := (apart_same apC.symm s3 (own_lt oC2)).symm
            have F3w : Fr (mb :: ownOf mv) w w3 := FWc.trans' F3 (fun y hy => by
              rcases List.mem_cons.1 hy with h | h
              · exact .inl (by simp [h])
              · rcases sM with h' | ⟨z, h', hz⟩
                · have h2 := mem_own h
                  rw [h'] at h2
                  exact .inl (List.mem_cons_of_mem _ (own_mem h2))
                · have h2 := mem_own h
                  rw [h'] at h2; injection h2 with h2
                  exact .inr (by omega))
            have FA := (Fr.refl [] w3).alloc (.cells #[.int .i64 X] 2)
            have oC3' := own_keep oC3 FA (by simp)
            have R3 := one_row w3 X
            obtain ⟨sb, sd, rfl, hS⟩ := own_Rd oC3
            have z3 := F3w.size
            have zc := FWc.size
            go_wp2_with (at_builtin; refine append_any _ rfl _ _ rfl (.slice sb C.length sd) C [X] (by rfl) oC3' (some ⟨w3.heap.size, 0, none⟩) 1 1 rfl rfl R3 (by simp; omega) ?_)
            intro v4 w4 o4 F5 hb5
            have sC : Same w3 (.slice sb C.length sd) v4 := by
              rcases hb5 with h | h
              · exact .inl h
              · exact .inr ⟨_, h, by simp⟩
            have F45 : Fr (ownOf (.slice sb C.length sd)) w3 w4 := FA.old.trans F5
            have oK4 := own_keep oK3 F45 (fun g hg hm => ap1 g (mem_own hm) hg)
            have HM4 := HM3.keep F45 (fun hm => own_out oC3 HM3.1 (by decide) mb (mem_own hm) (by simp)) (apart_out ap5)
            go_wp2_with fail
            go_roundw
            case rel =>
              refine ⟨i + 1, K2, C ++ [X], M3, mv3, by go_num, by omega, ?_, oK4, by simpa using o4, HM4, same_trans sM s3 (by omega), apart_same ap1.symm sC (own_lt oK3), ap4, apart_same ap5 sC (own_lt HM3.2.1), gK2, same_ge sC gC z3, lK2, by simp; omega, bK2, ?_, F3w.trans' F45 (fun y hy => .inr (gC y (mem_own hy)))⟩
              · have h := I.out
                rw [show d - i = (d - (i + 1)) + 1 from by omega] at h
                unfold R.partsF at h
                rw [HF.out, HS.out] at h
                simp only [Int.toNat_natCast] at h
                rw [HX.out, HK2.out, HL2.out, HP.out] at h
                exact h
              · intro y hy
                rcases List.mem_append.1 hy with hy | hy
                · exact bC y hy
                · rw [List.mem_singleton.1 hy]; exact hXb
            case measure => simp [intOf]; omega
        · have hid : i = d := by omega
          have h := I.out
          rw [hid, Nat.sub_self] at h
          unfold R.partsF at h
          have hge' : (d : Int) ≤ (i : Int) := by omega
          have HH := Lib.hid h
          clear h hid I
          obtain ⟨ka, kc, rfl, RK⟩ := own_Rd oK
          obtain ⟨ca, cc, rfl, RC⟩ := own_Rd oC
          go_wp2_with fail
          refine (innerWords_any _ (n : Int) K C _ _ _ _ RK RC (by have := HL.out; rw [← HH.out] at this; exact this) (by omega)).mono ?_
          rintro e w3 ⟨v3, rfl, o3, hv3, F3⟩
          obtain ⟨wa, wc', rfl, RW⟩ := own_Rd o3
          have zr := FW.size
          go_wp2_with fail
          refine (imade_any w3 mb mv' M' 3 (innerWords n K C) _ _ (HM'.grow F3) RW (inner_i64 bK bC (by omega) (by omega) (by omega))).mono ?_
          rintro e w4 ⟨rfl, mv4, H4, s4, F4⟩
          go_wp2
          go_ret
          have z3 := F3.size
          have hO := HH.out
          rw [← hO]
          refine ⟨rfl, mv4, H4, same_trans sM s4 (by omega), (FW.trans F3.old).trans' F4 (fun y hy => ?_)⟩
          rcases List.mem_cons.1 hy with h | h
          · exact .inl (by simp [h])
          · rcases sM with h' | ⟨z, h', hz⟩
            · have h2 := mem_own h
              rw [h'] at h2
              exact .inl (List.mem_cons_of_mem _ (own_mem h2))
            · have h2 := mem_own h
              rw [h'] at h2; injection h2 with h2
              exact .inr (by omega)
end Go.Proofs.Ytilkkfpfcegncaa
