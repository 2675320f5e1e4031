/- Both routes in step, over one memory each. -/
import Derived.Test.YtfgkgmfcbhbomaaGreatSimRoute
import Derived.Test.YtfgkgmfcbhbomaaGreatStep
import Derived.Test.YtfgkgmfcbhbomaaGreatKnown
set_option linter.unusedVariables false
namespace Go.Proofs.YtfgkgmfcbhbomaaGreat
open Go.RowKit
open R (RS MS IR)

theorem start_off (ts : List Int) : (RS.start ts).off = false := rfl
/-- The run over a tape, so many of it used. -/
def runAt_ (ts : List Int) (j : Nat) : RS := { RS.start ts with pos := j }
/-- The program's route f stands where the document's does behind ts. -/
structure Lock (n k : Int) (f : IR) (ts : List Int) : Prop where
  ok : R.IRok f
  hn : f.n = n
  hk : f.k = k
  run : ∀ us, R.route n k (RS.start (ts ++ us)) = R.resid f (runAt_ (ts ++ us) ts.length)
theorem step_k (f : IR) (q : Int) : (f.step q).k = f.k := by
  unfold R.IR.step R.IR.key R.IR.guess R.IR.up R.IR.down R.IR.fin
  repeat' split
  all_goals rfl
theorem lock_start (n k : Int) : Lock n k ⟨0, n, k, 0, 0, 0, 0⟩ [] := by
  refine ⟨?_, rfl, rfl, fun us => rfl⟩
  constructor <;> simp
theorem lock_step {n k : Int} {f : IR} {ts : List Int} (L : Lock n k f ts) (h6 : f.next ≠ 6) (v : Int) (hv : f.next = 0 → 1 ≤ v ∧ v ≤ 65537) : Lock n k (f.step v) (ts ++ [v]) := by
  have ht : ∀ us, R.told (runAt_ (ts ++ [v] ++ us) ts.length) = v := by
    intro us; unfold R.told runAt_ RS.start; simp
  have key : ∀ us, R.resid f (runAt_ (ts ++ [v] ++ us) ts.length) = R.resid (f.step v) (runAt_ (ts ++ [v] ++ us) (ts ++ [v]).length) ∧ R.IRok (f.step v) := by
    intro us
    have h := R.resid_told f (runAt_ (ts ++ [v] ++ us) ts.length) L.ok h6 rfl (by unfold runAt_ RS.start; simp) (by rw [ht]; exact hv)
    rw [ht] at h
    refine ⟨?_, h.2⟩
    rw [h.1]
    congr 1
    unfold R.more runAt_
    simp
  refine ⟨(key []).2, (step_n f v).trans L.hn, (step_k f v).trans L.hk, fun us => ?_⟩
  rw [← (key us).1]
  have h := L.run ([v] ++ us)
  rw [← List.append_assoc] at h
  exact h
theorem lock_end {n k : Int} {f : IR} {ts : List Int} (L : Lock n k f ts) (h6 : f.next ≠ 6) : (R.route n k (RS.start ts)).2.off = true ∧ (R.route n k (RS.start ts)).2.next = ⟨1, f.addr, 0, 0, []⟩ := by
  have h := L.run []
  rw [List.append_nil] at h
  rw [h, R.resid_end f _ L.ok h6 rfl (by unfold runAt_ RS.start; simp)]
  exact ⟨rfl, rfl⟩
theorem lock_done {n k : Int} {f : IR} {ts : List Int} (L : Lock n k f ts) (h6 : f.next = 6) : (R.route n k (RS.start ts)).1 = (f.degree, f.child) ∧ (R.route n k (RS.start ts)).2.off = false := by
  have h := L.run []
  rw [List.append_nil] at h
  rw [h]
  unfold R.resid
  rw [if_neg (by omega), if_neg (by omega), if_neg (by omega), if_neg (by omega), if_neg (by omega), if_neg (by omega)]
  exact ⟨rfl, rfl⟩

/-- What a route comes to over a tape. -/
def plRoute (a p : Int) (tape : List Int) : RS × OC := ((R.route a p (RS.start tape)).2, { OC.nil with n := (R.route a p (RS.start tape)).1.1, m := (R.route a p (RS.start tape)).1.2 })
/-- The arguments of a route. -/
def xRoute (a p : Int) : XC := { c0 := .int .i64 a, c1 := .int .i64 0, c2 := .int .i64 0, c3 := .int .i64 p, c4 := .int .i64 0, c5 := .int .i64 0, c6 := .int .i64 0, c7 := .bool false, c8 := .int .i64 0, c9 := .bool false, c10 := .slice none 0 0, c11 := .slice none 0 0, c12 := .slice none 0 0, c13 := .slice none 0 0, c14 := .slice none 0 0, c15 := .int .i64 0, c16 := .int .i64 0, c17 := .int .i64 0, c18 := .int .i64 0, c19 := .int .i64 0, c20 := .int .i64 0 }
theorem xRoute_flat (a p : Int) : (xRoute a p).Flat := by
  intro u hu
  simp only [xRoute, XC.arr, List.mem_cons, List.not_mem_nil, or_false] at hu
  rcases hu with rfl | rfl | rfl | rfl | rfl | rfl | rfl | rfl | rfl | rfl | rfl | rfl | rfl | rfl | rfl | rfl | rfl | rfl | rfl | rfl | rfl <;> rfl
theorem plays_route (a p : Int) (hp : R.I64 p) : PlayIs ⟨15, xRoute a p, [], false, OC.nil, 0, 0⟩ (plRoute a p) := by
  refine playIs_low _ _ ?_ (by show (15 : Int) ≤ 16; omega)
  intro w f r tv G h1 h2 HF H
  exact low_route w f r tv G (RS.start G.tape) a p HF H h1 (by rw [h2]; rfl) (by rw [h2]; rfl) (by rw [h2]; exact xRoute_flat a p) hp.1 hp.2

structure Locked (n k : Int) (c : List Int) (f : IR) (F : FC) (M X : MS) : Prop where
  lock : Lock n k f F.tape
  done : F.done = (f.next == 6)
  out : f.next = 6 → F.out.n = f.degree ∧ F.out.m = f.child
  mc : M.c = c
  xc : X.c = c
  max : M.max = X.max
  proc : F.proc = 15
  x : F.x = xRoute n k

/-- How many steps are left, at most. -/
def left (f : IR) : Int := if f.next = 0 then 90 else if f.next = 1 then 89 else if f.next = 2 then 88 else if f.next = 3 then 87 else if f.next = 4 then f.degree - f.i else if f.next = 5 then f.i else 0
theorem left_fin (f : IR) (c : Int) : left (f.fin c) = 0 := rfl
theorem left_up (f : IR) (i : Int) (hd : 2 ≤ f.degree ∧ f.degree ≤ 81) : left (f.up i) ≤ (if i < f.degree - 1 then f.degree - i else 0) := by
  have hk : f.keys = f.degree - 1 := by unfold R.IR.keys; exact R.w64_id _ (by omega) (by omega)
  unfold R.IR.up
  rw [hk]
  split
  · rw [left_fin]; split <;> omega
  · unfold left
    simp only [] 
    rw [if_neg (by omega), if_neg (by omega), if_neg (by omega), if_neg (by omega), if_pos trivial, if_pos (by omega)]
    omega
theorem left_down (f : IR) (i : Int) : left (f.down i) ≤ (if 1 < i then i else 0) := by
  unfold R.IR.down
  split
  · rw [left_fin]; split <;> omega
  · unfold left
    simp only []
    rw [if_neg (by omega), if_neg (by omega), if_neg (by omega), if_neg (by omega), if_neg (by omega), if_pos trivial, if_pos (by omega)]
    omega
theorem left_step (f : IR) (v : Int) (I : R.IRok f) (h6 : f.next ≠ 6) (hd : f.next ≠ 0 → f.degree ≤ 81) : left (f.step v) < left f ∧ 0 ≤ left (f.step v) := by
  have r := I.range
  have hpos : ∀ g : IR, R.IRok g → 0 ≤ left g := by
    intro g J
    unfold left
    split
    · omega
    split
    · omega
    split
    · omega
    split
    · omega
    split
    · rename_i h4; have := J.n4 h4; omega
    split
    · rename_i h5; have := J.n5 h5; omega
    · omega
  have hok : R.IRok (f.step v) → 0 ≤ left (f.step v) := hpos _
  unfold R.IR.step
  by_cases h0 : f.next = 0
  · rw [if_pos h0]
    have e : left f = 90 := by unfold left; rw [if_pos h0]
    rw [e]
    split
    · rw [left_fin]; omega
    · show (89 : Int) < 90 ∧ (0 : Int) ≤ 89; omega
  rw [if_neg h0]
  have hd1 := I.deg h0 h6
  have hd2 := hd h0
  have hk : f.keys = f.degree - 1 := by unfold R.IR.keys; exact R.w64_id _ (by omega) (by omega)
  unfold R.IR.key
  rw [hk]
  by_cases h1 : f.next = 1
  · have e : left f = 89 := by unfold left; rw [if_neg h0, if_pos h1]
    rw [if_pos h1, e]
    split
    · rw [left_fin]; omega
    split
    · rw [left_fin]; omega
    · show (88 : Int) < 89 ∧ (0 : Int) ≤ 88; omega
  rw [if_neg h1]
  by_cases h2 : f.next = 2
  · have e : left f = 88 := by unfold left; rw [if_neg h0, if_neg h1, if_pos h2]
    have h2' := I.n2 h2
    rw [if_pos h2, e]
    split
    · unfold R.IR.guess
      split
      · show (87 : Int) < 88 ∧ (0 : Int) ≤ 87; omega
      · have a := left_up f 2 (by omega)
        have b := hpos _ (R.ok_up f 2 hd1 (by omega))
        split at a <;> omega
    · rw [left_fin]; omega
  rw [if_neg h2]
  by_cases h3 : f.next = 3
  · have e : left f = 87 := by unfold left; rw [if_neg h0, if_neg h1, if_neg h2, if_pos h3]
    have h3' := I.n3 h3
    rw [if_pos h3, e, R.w64_id _ (by omega) (by omega), R.w64_id _ (by omega) (by omega)]
    split
    · have a := left_down f (f.i - 1)
      have b := hpos _ (R.ok_down f (f.i - 1) hd1 (by omega))
      split at a <;> omega
    · have a := left_up f (f.i + 1) (by omega)
      have b := hpos _ (R.ok_up f (f.i + 1) hd1 (by omega))
      split at a <;> omega
  rw [if_neg h3]
  by_cases h4 : f.next = 4
  · have e : left f = f.degree - f.i := by unfold left; rw [if_neg h0, if_neg h1, if_neg h2, if_neg h3, if_pos h4]
    have h4' := I.n4 h4
    rw [if_pos h4, e, R.w64_id _ (by omega) (by omega), R.w64_id _ (by omega) (by omega)]
    split
    · rw [left_fin]; omega
    · have a := left_up f (f.i + 1) (by omega)
      have b := hpos _ (R.ok_up f (f.i + 1) hd1 (by omega))
      split at a <;> omega
  rw [if_neg h4]
  have h5 : f.next = 5 := by omega
  have e : left f = f.i := by unfold left; rw [if_neg h0, if_neg h1, if_neg h2, if_neg h3, if_neg h4, if_pos h5]
  have h5' := I.n5 h5
  rw [if_pos h5, e, R.w64_id _ (by omega) (by omega)]
  split
  · have a := left_down f (f.i - 1)
    have b := hpos _ (R.ok_down f (f.i - 1) hd1 (by omega))
    split at a <;> omega
  · rw [left_fin]; omega

theorem at_c (M X : MS) (h : M.c = X.c) (a : Int) : M.at_ a = X.at_ a := by
  have hh : M.has a ↔ X.has a := by unfold R.MS.has; rw [h]
  by_cases hx : X.has a
  · rw [at_has X a hx, at_has M a (hh.2 hx), h]
  · rw [at_not X a hx, at_not M a (fun h' => hx (hh.1 h'))]
theorem doAsk_read (a : Int) (X : MS) : R.doAsk ⟨1, a, 0, 0, []⟩ X = (X.at_ a, X.met a) := rfl

theorem locked_start (n k : Int) (c : List Int) (M X : MS) (hM : M.c = c) (hX : X.c = c) (hm : M.max = X.max) :
    Locked n k c ⟨0, n, k, 0, 0, 0, 0⟩ (settled ⟨15, xRoute n k, [], false, OC.nil, 0, 0⟩ (plRoute n k)) M X := by
  have L := lock_start n k
  have h := (lock_end L (by show (0 : Int) ≠ 6; decide)).1
  have e : settled ⟨15, xRoute n k, [], false, OC.nil, 0, 0⟩ (plRoute n k) = ⟨15, xRoute n k, [], false, OC.nil, (plRoute n k []).1.record, (plRoute n k []).1.laid⟩ := by
    unfold settled
    rw [if_pos (by exact h)]
  rw [e]
  exact ⟨L, rfl, by intro h; exact absurd (show (0 : Int) = 6 from h) (by decide), hM, hX, hm, rfl, rfl⟩

theorem locked_step {n k : Int} {c : List Int} {f : IR} {F : FC} {M X : MS} (L : Locked n k c f F M X) (h6 : f.next ≠ 6) (hv : 1 ≤ X.at_ n ∧ X.at_ n ≤ 65537) :
    Locked n k c (stepM f M).1 (stepped F (plRoute n k) X) (stepM f M).2 (R.doAsk (plRoute n k F.tape).1.next X).2 ∧ (stepped F (plRoute n k) X).tape.length = F.tape.length + 1 := by
  obtain ⟨e1, e2⟩ := lock_end L.lock h6
  have ea : (f.next = 0 → f.addr = n) := fun h0 => by unfold R.IR.addr; rw [if_pos h0, L.lock.hn]
  have hnx : (plRoute n k F.tape).1.next = ⟨1, f.addr, 0, 0, []⟩ := e2
  have hMX := at_c M X (L.mc.trans L.xc.symm) f.addr
  have L2 := lock_step L.lock h6 (X.at_ f.addr) (fun h0 => by rw [ea h0]; exact hv)
  have es : stepM f M = (f.step (X.at_ f.addr), M.met f.addr) := by unfold stepM; rw [if_neg h6, hMX]
  rw [es, hnx, doAsk_read]
  obtain ⟨f', hf'⟩ : ∃ f', f.step (X.at_ f.addr) = f' := ⟨_, rfl⟩
  rw [hf'] at L2 ⊢
  have est : stepped F (plRoute n k) X = settled { F with tape := F.tape ++ [X.at_ f.addr] } (plRoute n k) := by
    unfold stepped; rw [hnx, doAsk_read]
  rw [est]
  have mc : (M.met f.addr).c = c := (met_c _ _).trans L.mc
  have xc : (X.met f.addr).c = c := (met_c _ _).trans L.xc
  have mm : (M.met f.addr).max = (X.met f.addr).max := by rw [met_max, met_max]; exact L.max
  by_cases h : f'.next = 6
  · obtain ⟨d1, d2⟩ := lock_done L2 h
    have e : settled { F with tape := F.tape ++ [X.at_ f.addr] } (plRoute n k) = { F with tape := F.tape ++ [X.at_ f.addr], record := (plRoute n k (F.tape ++ [X.at_ f.addr])).1.record, laid := (plRoute n k (F.tape ++ [X.at_ f.addr])).1.laid, done := true, out := (plRoute n k (F.tape ++ [X.at_ f.addr])).2 } := by
      unfold settled
      rw [if_neg (by rw [show (plRoute n k ({ F with tape := F.tape ++ [X.at_ f.addr] } : FC).tape).1.off = (R.route n k (RS.start (F.tape ++ [X.at_ f.addr]))).2.off from rfl, d2]; decide)]
    rw [e]
    refine ⟨⟨L2, by rw [h]; rfl, fun _ => ?_, mc, xc, mm, L.proc, L.x⟩, by simp⟩
    show (R.route n k (RS.start (F.tape ++ [X.at_ f.addr]))).1.1 = _ ∧ (R.route n k (RS.start (F.tape ++ [X.at_ f.addr]))).1.2 = _
    rw [d1]
    exact ⟨rfl, rfl⟩
  · have d1 := (lock_end L2 h).1
    have e : settled { F with tape := F.tape ++ [X.at_ f.addr] } (plRoute n k) = { F with tape := F.tape ++ [X.at_ f.addr], record := (plRoute n k (F.tape ++ [X.at_ f.addr])).1.record, laid := (plRoute n k (F.tape ++ [X.at_ f.addr])).1.laid } := by
      unfold settled
      rw [if_pos (by exact d1)]
    rw [e]
    have hdn : F.done = false := by rw [L.done]; simpa using h6
    refine ⟨⟨L2, ?_, fun h' => absurd h' h, mc, xc, mm, L.proc, L.x⟩, by simp⟩
    show F.done = _
    rw [hdn]
    symm
    simpa using h
end Go.Proofs.YtfgkgmfcbhbomaaGreat
