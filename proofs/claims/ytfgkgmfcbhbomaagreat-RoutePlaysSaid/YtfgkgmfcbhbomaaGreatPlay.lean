/- Frame.play, settle, New, Step: of a procedure whose 'low' (or 'mid', 'high') is known. -/
import Derived.Test.YtfgkgmfcbhbomaaGreatFrame
set_option linter.unusedVariables false
namespace Go.Proofs.YtfgkgmfcbhbomaaGreat
open Go.RowKit
open R (RS MS)

def RS.start (tape : List Int) : RS := ⟨tape, 0, false, ⟨0, 0, 0, 0, []⟩, 0, 0⟩
/-- What a procedure comes to, gone through from its beginning: its run, the cells of its Out. -/
def PlaysAs (F : FC) (pl : List Int → RS × OC) : Prop :=
  ∀ (w : World) (f r : Nat) (tv : Value) (G : FC), G.proc = F.proc → G.x = F.x → FrameAt w f tv G → RunAt w r (RS.start G.tape) →
    Calls Tryz.prog 45 #[.pointer (some ⟨f, 0, none⟩), .pointer (some ⟨r, 0, none⟩)] w fun e w' => e = .returned (.agg (pl G.tape).2.arr) ∧ RunAt w' r (pl G.tape).1 ∧ Fr [r] w w'

theorem own_tape {w : World} {tv : Value} {xs : List Int} (ho : w.ownsRow 0 2 1 tv xs.length (ints .i64 xs)) : ∃ a cap, tv = .slice a xs.length cap ∧ Rd w 2 a (ints .i64 xs) := own_Rd ho

theorem FrameAt.keep {w w' : World} {f : Nat} {tv : Value} {F : FC} (h : FrameAt w f tv F) (hf : Fr [] w w') : FrameAt w' f tv F :=
  ⟨h.1.keep hf (by simp), own_keep h.2.1 hf (by simp), h.2.2⟩
theorem OC.flat (o : OC) : ∀ u ∈ o.arr.toList, u.oneCell' = true := by
  intro u hu
  simp only [OC.arr, List.mem_cons, List.not_mem_nil, or_false] at hu
  rcases hu with rfl | rfl | rfl | rfl | rfl | rfl | rfl | rfl | rfl | rfl | rfl | rfl | rfl <;> rfl
theorem results_tmp_cell {P : Program} {fn : Func} {t p : Tmp} {ty : TypeId} (h : fn.results = #[.tmp t, .cell p ty]) (tmps : Array Value) (w : World) (g : Nat) (T : TypeId) (cs : Array Value) (n : Nat) (d : TypeDesc)
    (hp : tmps.getD p undef = .pointer (some ⟨g, 0, none⟩)) (hg : Blk w g cs T) (hu : P.underlying ty = some d) (hd : isRec d = true) (hi : (P.info? ty).map (·.size) = some n) (hn : cs.size = n) :
    (results fn tmps).run P w = .ok (.tuple #[tmps.getD t undef, .agg cs]) w := by
  have hp' : tmps[p]?.getD undef = .pointer (some ⟨g, 0, none⟩) := by simpa using hp
  simp [results, h, hp', asAddr, run_loadVar_agg w g 0 n ty d T cs cs hg hu hd hi hn (by simp)]

set_option maxHeartbeats 1000000 in
theorem play_low (F : FC) (pl : List Int → RS × OC) (hpl : PlaysAs F pl) (hp : F.proc ≤ 16) (w : World) (f : Nat) (tv : Value) (HF : FrameAt w f tv F) (hlen : F.tape.length ≤ 140737488351232) :
    Calls Tryz.prog 30 #[.pointer (some ⟨f, 0, none⟩)] w fun e w' => ∃ r, e = .returned (.tuple #[.pointer (some ⟨r, 0, none⟩), .agg (pl F.tape).2.arr]) ∧ w.heap.size ≤ r ∧ RunAt w' r (pl F.tape).1 ∧ Fr [] w w' := by
  have HF0 := HF
  obtain ⟨hb, ho, hbd⟩ := HF
  obtain ⟨ta, tc, rfl, hR⟩ := own_tape ho
  have c0 : w.cell? ⟨f, 0, none⟩ = some (.int .i64 F.proc) := by rw [hb.cell]; rfl
  have c22 : w.cell? ⟨f, 22, none⟩ = some (.slice ta F.tape.length tc) := by rw [hb.cell]; rfl
  have hl := hb.lt
  go_enter Tryz.func30, Tryz.ntmps30
  go_wp2_with fail
  have FA : Fr [] w ((w.alloc (.cells OC.nil.arr 56)).alloc (.cells (runCells (RS.start F.tape) ta tc none 0) 84)) := ((Fr.refl [] w).alloc _).alloc _
  have hrun : RunAt ((w.alloc (.cells OC.nil.arr 56)).alloc (.cells (runCells (RS.start F.tape) ta tc none 0) 84)) (w.heap.size + 1) (RS.start F.tape) := by
    refine ⟨ta, tc, none, 0, ?_, hR.grow FA, Rd.nil _ _ _, hlen, Nat.zero_le _, hbd, ⟨R.i64_0, R.i64_0, by simp [RS.start]⟩⟩
    have := Blk.new (w.alloc (.cells OC.nil.arr 56)) (runCells (RS.start F.tape) ta tc none 0) 84
    simpa using this
  refine (hpl _ f (w.heap.size + 1) (.slice ta F.tape.length tc) F rfl rfl (HF0.keep FA) hrun).mono ?_
  rintro e w1 ⟨rfl, H1, F1⟩
  have hres := ((Blk.new w OC.nil.arr 56).alloc (.cells (runCells (RS.start F.tape) ta tc none 0) 84)).keep F1 (by simp)
  have hr1 := H1.lt
  go_wp2_with (first | ((with_reducible show wpList _ _ _ ({ dst := _, op := Op.store 56 _ _, type := _, pos := _, after := _, guard := _ } :: _) _ _); refine store_agg rfl 56 _ _ rfl w.heap.size 0 13 rfl (pl F.tape).2.arr rfl 56 _ hres size_out rfl (by simp [OC.arr]) (OC.flat _) ?_))
  intro w2 h2 f2 z2 d2
  rw [over_all _ _ (by simp [OC.arr])] at h2
  simp only [Array.toArray_toList] at h2
  go_wp2
  refine bodyPost_ret (results_tmp_cell rfl _ _ w.heap.size _ _ 13 _ rfl h2 Tryz.underlying56 rfl size_out rfl) rfl ⟨w.heap.size + 1, rfl, by omega, H1.keep' f2 (by simp) (hres.out (by decide)), ?_⟩
  exact ((FA.trans' F1 (by simp)).trans' f2 (by simp))

/-- The same, of 'play' itself. -/
def PlayIs (F : FC) (pl : List Int → RS × OC) : Prop :=
  ∀ (w : World) (f : Nat) (tv : Value) (G : FC), G.proc = F.proc → G.x = F.x → FrameAt w f tv G → G.tape.length ≤ 140737488351232 →
    Calls Tryz.prog 30 #[.pointer (some ⟨f, 0, none⟩)] w fun e w' => ∃ r, e = .returned (.tuple #[.pointer (some ⟨r, 0, none⟩), .agg (pl G.tape).2.arr]) ∧ w.heap.size ≤ r ∧ RunAt w' r (pl G.tape).1 ∧ Fr [] w w'
theorem playIs_low (F : FC) (pl : List Int → RS × OC) (hpl : PlaysAs F pl) (hp : F.proc ≤ 16) : PlayIs F pl := by
  intro w f tv G h1 h2 HF hl
  exact play_low G pl (fun w f r tv G' e1 e2 => hpl w f r tv G' (e1.trans h1) (e2.trans h2)) (by rw [h1]; exact hp) w f tv HF hl

def settled (F : FC) (pl : List Int → RS × OC) : FC :=
  if (pl F.tape).1.off = true then { F with record := (pl F.tape).1.record, laid := (pl F.tape).1.laid }
  else { F with record := (pl F.tape).1.record, laid := (pl F.tape).1.laid, done := true, out := (pl F.tape).2 }

theorem RunAt.facts {w : World} {r : Nat} {s : RS} (h : RunAt w r s) : w.cell? ⟨r, 2, none⟩ = some (.bool s.off) ∧ w.cell? ⟨r, 8, none⟩ = some (.int .i64 s.record) ∧ w.cell? ⟨r, 9, none⟩ = some (.int .i64 s.laid) := by
  obtain ⟨t, cap, wa, wcap, hb, _⟩ := h
  exact ⟨hb.cell 2, hb.cell 8, hb.cell 9⟩
theorem frame_over (F : FC) (tv : Value) (rec laid : Int) (o : OC) : over ((((frameCells F tv).setIfInBounds 37 (.int .i64 rec)).setIfInBounds 38 (.int .i64 laid)).setIfInBounds 23 (.bool true)) 24 o.arr.toList = frameCells { F with record := rec, laid := laid, done := true, out := o } tv := rfl

theorem frame_set (F : FC) (tv : Value) (rec laid : Int) : ((frameCells F tv).setIfInBounds 37 (.int .i64 rec)).setIfInBounds 38 (.int .i64 laid) = frameCells { F with record := rec, laid := laid } tv := rfl

set_option maxHeartbeats 1000000 in
theorem settle_any (F0 : FC) (pl : List Int → RS × OC) (hpl : PlayIs F0 pl) (w : World) (f : Nat) (tv : Value) (F : FC) (hF1 : F.proc = F0.proc) (hF2 : F.x = F0.x) (HF : FrameAt w f tv F) (hlen : F.tape.length ≤ 140737488351232) :
    Calls Tryz.prog 25 #[.pointer (some ⟨f, 0, none⟩)] w fun e w' => e = .returned (.tuple #[]) ∧ FrameAt w' f tv (settled F pl) ∧ Fr [f] w w' := by
  have hl := HF.1.lt
  obtain ⟨G, hG⟩ : ∃ G, settled F pl = G := ⟨_, rfl⟩
  rw [hG]
  unfold settled at hG
  generalize hs : (pl F.tape).1 = s at hG
  generalize ho : (pl F.tape).2 = o at hG
  have HS := Lib.hid hs
  have HO := Lib.hid ho
  have HP1 := Lib.hid hF1
  have HP2 := Lib.hid hF2
  have HG := Lib.hid hG
  clear hs ho hF1 hF2 hG
  go_enter Tryz.func25, Tryz.ntmps25
  go_wp2_with fail
  refine (hpl w f tv F HP1.out HP2.out HF hlen).mono ?_
  rintro e w1 ⟨r, rfl, hrs, H1, F1⟩
  rw [HS.out] at H1
  rw [HO.out]
  have HF1 := HF.keep F1
  have hl1 := HF1.1.lt
  have hr1 := H1.lt
  go_wp2_with (first | ((with_reducible show wpList _ _ _ ({ dst := _, op := Op.store 56 _ _, type := _, pos := _, after := _, guard := _ } :: _) _ _); refine store_agg rfl 56 _ _ rfl w1.heap.size 0 13 rfl o.arr rfl 56 _ (Blk.new _ _ _) size_out rfl (by simp) (OC.flat _) ?_))
  intro w2 h2 f2 z2 d2
  rw [over_all _ _ (by simp [OC.arr])] at h2
  simp only [Array.toArray_toList] at h2
  have F2 : Fr [] w1 w2 := ((Fr.refl [] w1).alloc _).trans' f2 (by simp)
  have H2 := H1.keep F2
  have HF2 := HF1.keep F2
  obtain ⟨r2, r8, r9⟩ := H2.facts
  obtain ⟨hb, hown, hbd⟩ := HF2
  have c37 : w2.cell? ⟨f, 37, none⟩ = some (.int .i64 F.record) := by rw [hb.cell]; rfl
  have c38 : w2.cell? ⟨f, 38, none⟩ = some (.int .i64 F.laid) := by rw [hb.cell]; rfl
  have c23 : w2.cell? ⟨f, 23, none⟩ = some (.bool F.done) := by rw [hb.cell]; rfl
  have ff := hb.free
  have hne : f ≠ r := by omega
  have hne1 : f ≠ w1.heap.size := by omega
  have hne2 : r ≠ w1.heap.size := by omega
  have FF : Fr [] w w2 := F1.trans F2
  cases hoff : s.off
  · rw [hoff] at r2
    go_wp2_with (first
      | ((with_reducible show wpList _ _ _ ({ dst := _, op := Op.load 56 _, type := _, pos := _, after := _, guard := _ } :: _) _ _); refine load_agg rfl 56 _ rfl w1.heap.size 0 13 rfl _ _ _ o.arr (by exact (((h2.set_ne (p := ⟨f, 37, none⟩) (Ne.symm hne1) _).set_ne (p := ⟨f, 38, none⟩) (Ne.symm hne1) _).set_ne (p := ⟨f, 23, none⟩) (Ne.symm hne1) _)) Tryz.underlying56 rfl size_out rfl (by simp) ?_)
      | ((with_reducible show wpList _ _ _ ({ dst := _, op := Op.store 56 _ _, type := _, pos := _, after := _, guard := _ } :: _) _ _); refine store_agg rfl 56 _ _ rfl f 24 13 rfl o.arr rfl 58 _ (by exact (((hb.set 37 _).set 38 _).set 23 _)) size_out rfl (by simp [frameCells]) (OC.flat _) ?_))
    intro w3 h3 f3 z3 d3
    rw [frame_over] at h3
    go_wp2
    go_end0
    have fa : Fr [f] w2 w3 := ((((Fr.refl _ _).setCell (.inl (by simp)) _).setCell (.inl (by simp)) _).setCell (.inl (by simp)) _).trans f3
    refine ⟨rfl, ?_, FF.old.trans fa⟩
    have e := HG.out; rw [hoff, if_neg (by simp)] at e; subst e
    exact ⟨h3, own_keep hown fa (own_out hown hb (by decide)), hbd⟩
  · rw [hoff] at r2
    go_wp2
    go_end0
    have fa : Fr [f] w2 ((w2.setCell ⟨f, 37, none⟩ (.int .i64 s.record)).setCell ⟨f, 38, none⟩ (.int .i64 s.laid)) := ((Fr.refl _ _).setCell (.inl (by simp)) _).setCell (.inl (by simp)) _
    refine ⟨rfl, ?_, FF.old.trans fa⟩
    have e := HG.out; rw [hoff, if_pos rfl] at e; subst e
    have h3 := (hb.set 37 (.int .i64 s.record)).set 38 (.int .i64 s.laid)
    rw [frame_set] at h3
    exact ⟨h3, own_keep hown fa (own_out hown hb (by decide)), hbd⟩
end Go.Proofs.YtfgkgmfcbhbomaaGreat
