/- law15.RoutePlays. -/
import Derived.Test.YtfgkgmfcbhbomaaGreatSep
import Derived.Deep.DeepCutAuto
import Derived.Deep.RegionHeld3
set_option linter.unusedVariables false
namespace Go.Proofs.YtfgkgmfcbhbomaaGreat
open Go.RowKit
open R (RS MS IR)

theorem laid_length (q : List Int) : (laid q).length = 13 + 2 * q.length := by
  unfold laid innerWords begun
  simp
  omega
theorem laid_bd (q : List Int) (h : ∀ x ∈ q, R.I64 x) (hl : q.length ≤ 80) : ∀ x ∈ laid q, R.I64 x := by
  intro x hx
  unfold laid innerWords begun at hx
  simp only [List.mem_append, List.mem_cons, List.not_mem_nil, or_false, List.mem_replicate, List.length_replicate] at hx
  rcases hx with hx | (hx | hx) | hx
  · constructor <;> omega
  · constructor <;> omega
  · exact h x hx
  · constructor <;> omega
theorem laid_make (q : List Int) (h : q.length ≤ 80) : (R.MS.mk [] 2000 0 0 0).make (laid q) = ⟨laid q, 2000, 1, 0, 0⟩ := by
  have hl := laid_length q
  unfold R.MS.make
  rw [if_pos ⟨by intro e; rw [e] at hl; simp at hl; omega, by simp; omega⟩]
  rfl
theorem laid_at (q : List Int) (h : q.length ≤ 80) (X : MS) (hX : X.c = laid q) : 1 ≤ X.at_ 8 ∧ X.at_ 8 ≤ 81 := by
  have hl := laid_length q
  have hh : X.has 8 := ⟨by omega, by rw [hX]; omega⟩
  rw [at_has X 8 hh, hX]
  have e : (laid q).getD (8 - 1 : Int).toNat 0 = ((q.length + 1 : Nat) : Int) := by
    show (laid q).getD 7 0 = _
    unfold laid innerWords begun
    simp
  rw [e]
  omega
theorem step_deg0 (f : IR) (v : Int) (h0 : f.next = 0) : (f.step v).degree = v := by
  unfold R.IR.step; rw [if_pos h0]; split <;> rfl
theorem step_deg (f : IR) (v : Int) (h0 : f.next ≠ 0) : (f.step v).degree = f.degree := by
  unfold R.IR.step; rw [if_neg h0]
  unfold R.IR.key R.IR.guess R.IR.up R.IR.down R.IR.fin
  repeat' split
  all_goals rfl
set_option maxHeartbeats 8000000 in
set_option maxRecDepth 100000 in
theorem plays_any (T : TypeId) (w : World) (a : Option Addr) (c : Nat) (xs : List Int) (k n : Int) (HR : Rd w T a (ints .i64 xs)) (hl : xs.length ≤ 9223372036854775807) (hx : ∀ x ∈ xs, R.I64 x) (hk : R.I64 k) (hn : R.I64 n) :
    Calls Tryz.prog 3 #[.slice a xs.length c, .int .i64 k, .int .i64 n] w fun e w' => e = .returned (.bool true) ∧ Fr [] w w' := by
  obtain ⟨k1, k2⟩ := hk
  obtain ⟨n1, n2⟩ := hn
  obtain ⟨q, hq⟩ : ∃ q, (R.wideP (xs.take 80)).map (·.1) = q := ⟨_, rfl⟩
  have hql : q.length ≤ 80 := by
    rw [← hq, List.length_map]
    have := R.wideP_length (xs.take 80)
    rw [List.length_take] at this
    omega
  have hqx : ∀ x ∈ q, R.I64 x := by
    intro x h
    rw [← hq] at h
    obtain ⟨p, hp, rfl⟩ := List.mem_map.1 h
    exact hx _ (List.mem_of_mem_take (R.wideP_mem _ p hp))
  have hqn : (R.wideP (xs.take 80)).length = q.length := by rw [← hq, List.length_map]
  have HQ := Lib.hid hq
  have HN := Lib.hid hqn
  clear hq hqn
  go_enter Tryz.func3, Tryz.ntmps3
  go_wp2_with fail
  refine (wide_any T _ a c xs HR hl).mono ?_
  rintro e w1 ⟨v1, rfl, o1, hv1, F1⟩
  rw [HN.out, HQ.out] at o1
  obtain ⟨qa, qc, rfl, RQ⟩ := own_Rd o1
  go_upto_region 2 with (fail)
  go_cut [26] (fun s wx => ∃ b : Bool, s = .bool b ∧ (b = true → 0 < q.length) ∧ wx = w1)
  case first =>
    rcases Nat.eq_zero_or_pos q.length with h0 | h0
    · have h0' : (q.length : Int) ≤ 0 := by omega
      have H0 := Lib.hid h0
      clear h0
      go_wp2_with fail
      go_meet
      exact ⟨_, rfl, by intro h; simp at h, rfl⟩
    · have h0' : 0 < (q.length : Int) := by omega
      go_wp2_with fail
      go_meet
      exact ⟨_, rfl, fun _ => h0, rfl⟩
  case rest =>
    obtain ⟨b, rfl, hb, hw⟩ := hcut
    subst wc
    have HB := Lib.hid hb
    clear hb
    go_upto_if 26 with (fail)
    go_cut [1] (fun s wx => ∃ k' : Int, s = .int .i64 k' ∧ R.I64 k' ∧ wx = w1)
    case first =>
      cases b
      · go_wp2_with fail
        go_meet
        exact ⟨_, rfl, ⟨k1, k2⟩, rfl⟩
      · have h0 := HB.out rfl
        go_wp2_with fail
        refine (cut_any _ _ _ (by omega) (by omega)).mono ?_
        rintro e w' ⟨rfl, rfl⟩
        obtain ⟨j, hj⟩ := Int.eq_ofNat_of_zero_le (show 0 ≤ R.cut (n.tdiv 3) q.length from Int.emod_nonneg _ (by omega))
        have hjl : R.cut (n.tdiv 3) q.length < q.length := Int.emod_lt_of_pos _ (by omega)
        rw [hj] at hjl ⊢
        clear hj
        obtain ⟨qb, qo, rfl, hca⟩ := RQ.cells_at (by intro e; have := congrArg List.length e; simp only [ints, List.length_map, List.length_nil] at this; omega)
        have c0 := hca _ _ (ints_at .i64 q j (by omega))
        obtain ⟨x, hx⟩ : ∃ x, q.getD j 0 = x := ⟨_, rfl⟩
        rw [hx] at c0
        have hj0 : (0 : Int) ≤ (j : Int) := by omega
        clear hca hx
        go_wp2_with fail
        go_meet
        refine ⟨_, rfl, ?_, rfl⟩
        unfold R.I64 wrap64
        omega
    case rest =>
      obtain ⟨k', rfl, ⟨k1', k2'⟩, hw⟩ := hcut
      subst wc
      go_wp2_with fail
      refine (at_any _ _ _ q RQ hql hqx).mono ?_
      rintro e w2 ⟨m, mv, rfl, hm, HM2, hmv, F2⟩
      have F02 := F1.trans F2
      have z1 := F1.size
      go_wp2_with fail
      refine (known_any _).mono ?_
      rintro e w3 ⟨rfl, F3⟩
      have HM3 := HM2.grow F3
      have F03 := F02.trans F3
      go_wp2_with fail
      refine (rnew_any _ 2000 (by omega) (by omega)).mono ?_
      rintro e w4 ⟨x, rfl, hx4, HX4, F4⟩
      have HM4 := HM3.grow F4
      have F04 := F03.trans F4
      have z3 := F03.size
      go_wp2_with fail
      refine (cells_any _ m mv _ HM4 (by show (laid q).length ≤ _; have := laid_length q; omega)).mono ?_
      rintro e w5 ⟨v5, rfl, o5, hv5, F5⟩
      obtain ⟨ra, rc, rfl, R5⟩ := own_Rd o5
      have HM5 := HM4.grow F5
      have HX5 := HX4.grow F5
      have F05 := F04.trans F5
      go_wp2_with fail
      refine (rmake_any _ x _ _ (laid q) _ _ HX5 R5 (laid_bd q hqx hql)).mono ?_
      rintro e w6 ⟨rfl, xv, HX6, hxv, F6⟩
      rw [laid_make q hql] at HX6
      have z5 := F05.size
      have F06 : Fr [] w w6 := F05.trans' F6 (fun b hb => by simp [ownOf, Value.ownBlock] at hb; right; omega)
      have hxv' : ∀ g, xv.ownBlock = some g → w.heap.size ≤ g := by
        intro g hg
        rcases hxv with e | e
        · rw [e] at hg; simp [Value.ownBlock] at hg
        · rw [e] at hg; injection hg with hg; omega
      have HM6 : MemAt w6 m mv _ := HM5.keep1 HX5.1 (by decide) (by decide) (by simpa [ownOf, Value.ownBlock] using F6)
      have apx : Apart mv xv := by
        intro g hg hg'
        rcases hxv with e | e
        · rw [e] at hg'; simp [Value.ownBlock] at hg'
        · rw [e] at hg'; injection hg' with hg'
          have := own_lt HM5.2.1 g hg; omega
      go_wp2_with fail
      refine (irnew_any _ 8 k' ⟨k1', k2'⟩).mono ?_
      rintro e w7 ⟨rfl, HI7, F7⟩
      have z6 := F06.size
      obtain ⟨fb, hfb⟩ : ∃ fb, w6.heap.size = fb := ⟨_, rfl⟩
      have hfbw : w.heap.size ≤ fb := by omega
      rw [hfb] at HI7
      rw [hfb]
      clear hfb
      have HM7 := HM6.grow F7
      have HX7 : RMemAt w7 x xv _ := HX6.grow F7
      have F07 := F06.trans F7
      go_wp2_with fail
      refine (new_any 15 (xRoute 8 k') (xRoute_flat 8 k') (plRoute 8 k') (plays_route 8 k' ⟨k1', k2'⟩) _).mono ?_
      rintro e w8 ⟨g, rfl, hg8, HF8, F8⟩
      have z7 := F07.size
      have hgw : w.heap.size ≤ g := by omega
      have HM8 := HM7.grow F8
      have HX8 : RMemAt w8 x xv _ := HX7.grow F8
      have HI8 : IRAt w8 fb _ := HI7.keep F8 (by simp)
      have F08 := F07.trans F8
      have L8 := locked_start 8 k' (laid q) ⟨laid q, 2000, 3, 0, 0⟩ ⟨laid q, 2000, 1, 0, 0⟩ rfl rfl rfl
      have z8 := F08.size
      have hF0 : (settled ⟨15, xRoute 8 k', [], false, OC.nil, 0, 0⟩ (plRoute 8 k')).tape.length = 0 := by unfold settled; split <;> rfl
      generalize settled ⟨15, xRoute 8 k', [], false, OC.nil, 0, 0⟩ (plRoute 8 k') = F0 at *
      have hat0 : 1 ≤ (R.MS.mk (laid q) 2000 1 0 0).at_ 8 ∧ (R.MS.mk (laid q) 2000 1 0 0).at_ 8 ≤ 81 := laid_at q hql _ rfl
      go_wp2_with fail
      go_loopw [14] (fun i wr => ∃ (j : Nat) (f : IR) (F : FC) (M X : MS) (tv xu : Value), i = .int .i64 (j : Int) ∧ (j : Int) + left f ≤ 90 ∧ 0 ≤ left f ∧ F.tape.length = j ∧ Locked 8 k' (laid q) f F M X ∧ (f.next ≠ 0 → f.degree ≤ 81) ∧ IRAt wr fb f ∧ MemAt wr m mv M ∧ FrameAt wr g tv F ∧ RMemAt wr x xu X ∧ Apart tv xu ∧ Apart mv tv ∧ Apart mv xu ∧ (∀ b, tv.ownBlock = some b → w.heap.size ≤ b) ∧ (∀ b, xu.ownBlock = some b → w.heap.size ≤ b) ∧ Fr [] w wr) (fun i _ => 200 - (intOf i).toNat)
      case atStart =>
        refine ⟨0, _, F0, _, _, .slice none 0 0, xv, rfl, by show (0 : Int) + 90 ≤ 90; omega, by show (0 : Int) ≤ 90; omega, hF0, L8, fun h => absurd rfl h, HI8, HM8, HF8, HX8, ?_, ?_, apx, ?_, hxv', F08⟩
        · intro g hg; simp [Value.ownBlock] at hg
        · intro g hg hg'; simp [Value.ownBlock] at hg'
        · intro g hg; simp [Value.ownBlock] at hg
      case round =>
        obtain ⟨j, f, F, M, X, tv, xu, rfl, hj, hl0, htl, L, hd81, HI, HM, HF, HX, ap1, ap2, ap3, htv, hxu, F9⟩ := hrel
        by_cases h6 : f.next = 6
        · have hdn : F.done = true := by rw [L.done]; simpa using h6
          obtain ⟨q1, q2⟩ := L.out h6
          have c23 : wr.cell? ⟨g, 23, none⟩ = some (.bool true) := by rw [HF.1.cell, ← hdn]; rfl
          have c26 : wr.cell? ⟨g, 26, none⟩ = some (.int .i64 f.degree) := by rw [HF.1.cell, ← q1]; rfl
          have c27 : wr.cell? ⟨g, 27, none⟩ = some (.int .i64 f.child) := by rw [HF.1.cell, ← q2]; rfl
          have hj2 : (j : Int) < 200 := by omega
          have H6 := Lib.hid h6
          have HL := Lib.hid L
          clear h6 L q1 q2 hdn htl hd81 hj
          go_wp2_with fail
          go_region_held3 (fun w' => w'.cell? ⟨g, 23, none⟩ = some (.bool true) ∧ w'.cell? ⟨g, 26, none⟩ = some (.int .i64 f.degree) ∧ w'.cell? ⟨g, 27, none⟩ = some (.int .i64 f.child)) (first | exact ⟨c23, c26, c27⟩ | exact ⟨k23, k26, k27⟩)
            (first
              | (go_at_call 16
                 refine (irdegree_any _ fb f (HI.keep ((Fr.refl [] _).drew) (by simp))).mono ?_
                 rintro e w' ⟨rfl, rfl⟩
                 rw [if_pos H6.out])
              | (go_at_call 17
                 refine (irchild_any _ fb f (HI.keep ((Fr.refl [] _).drew) (by simp))).mono ?_
                 rintro e w' ⟨rfl, rfl⟩)
              | (go_at_call 18
                 refine (like_any _ m x mv xu M X (by exact HM) (by exact HX) (HL.out.mc.trans HL.out.xc.symm) HL.out.max).mono ?_
                 rintro e w20 ⟨rfl, F20⟩
                 replace F20 := F20.of_drew
                 have k23 : w20.cell? ⟨g, 23, none⟩ = some (.bool true) := ((HF.1.keep F20 (by simp)).cell 23).trans ((HF.1.cell 23).symm.trans c23)
                 have k26 : w20.cell? ⟨g, 26, none⟩ = some (.int .i64 f.degree) := ((HF.1.keep F20 (by simp)).cell 26).trans ((HF.1.cell 26).symm.trans c26)
                 have k27 : w20.cell? ⟨g, 27, none⟩ = some (.int .i64 f.child) := ((HF.1.keep F20 (by simp)).cell 27).trans ((HF.1.cell 27).symm.trans c27)))
          all_goals
            go_wp2
            go_ret
            exact ⟨rfl, F9.trans F20⟩
        · have hdn : F.done = false := by rw [L.done]; simpa using h6
          have c23 : wr.cell? ⟨g, 23, none⟩ = some (.bool false) := by rw [HF.1.cell, ← hdn]; rfl
          have hX8 : 1 ≤ X.at_ 8 ∧ X.at_ 8 ≤ 81 := laid_at q hql X L.xc
          obtain ⟨L', ht'⟩ := locked_step L h6 ⟨hX8.1, by omega⟩
          have hs := left_step f (M.at_ f.addr) L.lock.ok h6 hd81
          have es : (stepM f M).1 = f.step (M.at_ f.addr) := by unfold stepM; rw [if_neg h6]
          rw [← es] at hs
          have hj2 : (j : Int) < 200 := by omega
          have hn8 : R.I64 f.n := by rw [L.lock.hn]; decide
          have hd' : (stepM f M).1.next ≠ 0 → (stepM f M).1.degree ≤ 81 := by
            intro _
            rw [es]
            by_cases h0 : f.next = 0
            · have ea : f.addr = 8 := by unfold R.IR.addr; rw [if_pos h0, L.lock.hn]
              have := step_deg0 f (M.at_ f.addr) h0
              rw [this, at_c M X (L.mc.trans L.xc.symm), ea]
              exact hX8.2
            · rw [step_deg f _ h0]; exact hd81 h0
          have HE := Lib.hid es
          have HL := Lib.hid L
          have HL' := Lib.hid L'
          have HS := Lib.hid hs
          have HD := Lib.hid hd'
          have HT := Lib.hid htl
          have HT' := Lib.hid ht'
          have H6 := Lib.hid h6
          have H81 := Lib.hid hd81
          have HDN := Lib.hid hdn
          clear es L L' hs hd' htl ht' h6 hd81 hdn
          go_wp2_with fail
          refine (irstep_any wr fb m f mv M HI HM hn8).mono ?_
          rintro e w10 ⟨rfl, HI10, HM10, F10⟩
          have T10 : Typed wr [fb, m] [73, 71] := Typed.cons HI.blk (by simp) (Typed.cons HM.1 (by simp) (Typed.nil _ _))
          have HF10 := HF.sep F10 T10 (by decide)
          have HX10 := HX.sep F10 T10 (by decide)
          have hfx := HX10.2.2.max1
          have hfl := HX10.2.2.len
          have F11 : Fr [] w w10 := F9.trans' F10 (fun b hb => by simp at hb; rcases hb with rfl | rfl <;> (right; omega))
          have z10 := F11.size
          have htl2 : F.tape.length < 17592186044415 := by have := HT.out; omega
          clear c23
          go_wp2_with fail
          refine (step_any ⟨15, xRoute 8 k', [], false, OC.nil, 0, 0⟩ (plRoute 8 k') (plays_route 8 k' ⟨k1', k2'⟩) w10 g x tv xu F X HL.out.proc HL.out.x HF10 HX10 ap1 htl2 HDN.out).mono ?_
          rintro e w11 ⟨rfl, tv', xu', HF11, HX11, ap1', st, sx, F11'⟩
          have T11 : Typed w10 (g :: x :: (ownOf tv ++ ownOf xu)) [58, 69, 2] := Typed.cons HF10.1 (by simp) (Typed.cons HX10.1 (by simp) (Typed.own HF10.2.1 (by simp) (Typed.own' HX10.2.1 (by simp))))
          have HI11 := HI10.sep F11' T11 (by decide)
          have hmv10 := own_lt HM10.2.1
          have hm11 : ∀ b, mv.ownBlock = some b → b ∉ g :: x :: (ownOf tv ++ ownOf xu) := by
            intro b hb hm'
            rcases List.mem_cons.1 hm' with e | hm'
            · exact own_out HM10.2.1 HF10.1 (by decide) b hb (by simp [e])
            rcases List.mem_cons.1 hm' with e | hm'
            · exact own_out HM10.2.1 HX10.1 (by decide) b hb (by simp [e])
            rcases List.mem_append.1 hm' with hm' | hm'
            · exact apart_out ap2 b hb hm'
            · exact apart_out ap3 b hb hm'
          have HM11 := HM10.keep F11' (HM10.1.sep T11 (by decide)) hm11
          have ap2' := apart_same ap2 st hmv10
          have ap3' := apart_same ap3 sx hmv10
          have htv' := same_ge st htv z10
          have hxu' := same_ge sx hxu z10
          have F12 : Fr [] w w11 := F11.trans' F11' (by
            intro b hb
            rcases List.mem_cons.1 hb with rfl | hb
            · exact .inr hgw
            rcases List.mem_cons.1 hb with rfl | hb
            · exact .inr (by omega)
            rcases List.mem_append.1 hb with hb | hb
            · exact .inr (htv b (mem_own hb))
            · exact .inr (hxu b (mem_own hb)))
          obtain ⟨D, hD⟩ : ∃ D, (stepped F (plRoute 8 k') X).done = D := ⟨_, rfl⟩
          have hD2 : ((stepM f M).1.next == 6) = D := by rw [← HL'.out.done]; exact hD
          have c23 : w11.cell? ⟨g, 23, none⟩ = some (.bool D) := by rw [HF11.1.cell, ← hD]; rfl
          rw [hD, hD2]
          clear hD
          go_wp2_with fail
          go_quiet ((go_at_call 15; exact quiet_w (irdone_any _ fb _ (HI11.drewN _))))
          have HD2 := Lib.hid hD2
          clear hD2
          go_wp2_with fail
          go_roundw
          case rel =>
            exact ⟨j + 1, _, _, _, _, tv', xu', by go_num, by have := HS.out; omega, HS.out.2, by rw [HT'.out, HT.out], HL'.out, HD.out, HI11.drewN _, HM11, HF11, HX11, ap1', ap2', ap3', htv', hxu', F12.drewN _⟩
          case measure => simp [intOf]; omega
end Go.Proofs.YtfgkgmfcbhbomaaGreat
