/- The program's route. -/
import Derived.Test.YtilkkfpfcegncaaIGuess
set_option linter.unusedVariables false
namespace Go.Proofs.Ytilkkfpfcegncaa
open Go.RowKit
open R (MS IR)

def irCells (f : IR) : Array Value := #[.int .i64 f.next, .int .i64 f.n, .int .i64 f.k, .int .i64 f.degree, .int .i64 f.i, .int .i64 f.first, .int .i64 f.child]
structure IRAt (w : World) (b : Nat) (f : IR) : Prop where
  blk : Blk w b (irCells f) 74
  k : R.I64 f.k
  first : R.I64 f.first
  degree : R.I64 f.degree

theorem IRAt.cells {w : World} {b : Nat} {f : IR} (h : IRAt w b f) : (w.cell? ⟨b, 0, none⟩ = some (.int .i64 f.next) ∧ w.cell? ⟨b, 1, none⟩ = some (.int .i64 f.n) ∧ w.cell? ⟨b, 2, none⟩ = some (.int .i64 f.k) ∧ w.cell? ⟨b, 3, none⟩ = some (.int .i64 f.degree) ∧ w.cell? ⟨b, 4, none⟩ = some (.int .i64 f.i) ∧ w.cell? ⟨b, 5, none⟩ = some (.int .i64 f.first) ∧ w.cell? ⟨b, 6, none⟩ = some (.int .i64 f.child)) ∧ (∀ i, w.frozen? ⟨b, i, none⟩ = false) :=
  ⟨⟨h.blk.cell 0, h.blk.cell 1, h.blk.cell 2, h.blk.cell 3, h.blk.cell 4, h.blk.cell 5, h.blk.cell 6⟩, h.blk.free⟩

theorem IRAt.drewN {w : World} {b : Nat} {f : IR} (h : IRAt w b f) (n : Nat) : IRAt (w.drewN n) b f := ⟨h.blk, h.k, h.first, h.degree⟩
theorem quiet_w {P : Program} {f : FuncId} {args : Array Value} {w : World} {n : Nat} {v : Value} (h : Calls P f args (w.drewN n) fun e w' => e = .returned v ∧ w.drewN n = w') : Calls P f args (w.drewN n) fun e w'' => e = .returned v ∧ ∃ m, w'' = w.drewN m :=
  h.mono fun _ _ ⟨he, hm⟩ => ⟨he, n, hm.symm⟩
theorem quiet_d {P : Program} {f : FuncId} {args : Array Value} {w : World} {n : Nat} {v : Value} (h : Calls P f args (w.drewN n) fun e w' => e = .returned v ∧ ∃ m, w' = (w.drewN n).drewN m) : Calls P f args (w.drewN n) fun e w'' => e = .returned v ∧ ∃ m, w'' = w.drewN m :=
  h.mono fun _ _ ⟨he, m, hm⟩ => ⟨he, n + m, by rw [hm]; exact World.drewN_drewN ..⟩
theorem irnew_any (w : World) (n k : Int) (hk : R.I64 k) :
    Calls Try.prog 46 #[.int .i64 n, .int .i64 k] w fun e w' => e = .returned (.pointer (some ⟨w.heap.size, 0, none⟩)) ∧ IRAt w' w.heap.size ⟨0, n, k, 0, 0, 0, 0⟩ ∧ Fr [] w w' := by
  go_enter Try.func46, Try.ntmps46
  go_wp2
  go_ret
  exact ⟨rfl, ⟨Blk.new _ _ _, hk, R.i64_0, R.i64_0⟩, (Fr.refl [] w).alloc _⟩

theorem irend_any (w : World) (b : Nat) (f : IR) (c : Int) (H : IRAt w b f) :
    Calls Try.prog 47 #[.pointer (some ⟨b, 0, none⟩), .int .i64 c] w fun e w' => e = .returned (.tuple #[]) ∧ IRAt w' b (f.fin c) ∧ Fr [b] w w' := by
  obtain ⟨⟨c0, c1, c2, c3, c4, c5, c6⟩, ff⟩ := H.cells
  go_enter Try.func47, Try.ntmps47
  go_wp2
  go_end0
  exact ⟨rfl, ⟨(H.blk.set 6 _).set 0 _, H.k, H.first, H.degree⟩, ((Fr.refl _ _).setCell (.inl (by simp)) _).setCell (.inl (by simp)) _⟩

theorem irkeys_any (w : World) (b : Nat) (f : IR) (H : IRAt w b f) :
    Calls Try.prog 58 #[.pointer (some ⟨b, 0, none⟩)] w fun e w' => e = .returned (.int .i64 f.keys) ∧ w = w' := by
  obtain ⟨⟨c0, c1, c2, c3, c4, c5, c6⟩, ff⟩ := H.cells
  go_enter Try.func58, Try.ntmps58
  go_wp2
  go_ret
  exact ⟨ret_int (w64_eq _), rfl⟩

theorem irdone_any (w : World) (b : Nat) (f : IR) (H : IRAt w b f) :
    Calls Try.prog 50 #[.pointer (some ⟨b, 0, none⟩)] w fun e w' => e = .returned (.bool (f.next == 6)) ∧ w = w' := by
  obtain ⟨⟨c0, c1, c2, c3, c4, c5, c6⟩, ff⟩ := H.cells
  go_enter Try.func50, Try.ntmps50
  go_wp2
  go_ret
  exact ⟨rfl, rfl⟩

theorem irchild_any (w : World) (b : Nat) (f : IR) (H : IRAt w b f) :
    Calls Try.prog 30 #[.pointer (some ⟨b, 0, none⟩)] w fun e w' => e = .returned (.int .i64 f.child) ∧ w = w' := by
  obtain ⟨⟨c0, c1, c2, c3, c4, c5, c6⟩, ff⟩ := H.cells
  go_enter Try.func30, Try.ntmps30
  go_wp2
  go_ret
  exact ⟨rfl, rfl⟩

theorem irdegree_any (w : World) (b : Nat) (f : IR) (H : IRAt w b f) :
    Calls Try.prog 29 #[.pointer (some ⟨b, 0, none⟩)] w fun e w' => e = .returned (.int .i64 (if f.next = 6 then f.degree else 0)) ∧ w = w' := by
  obtain ⟨⟨c0, c1, c2, c3, c4, c5, c6⟩, ff⟩ := H.cells
  by_cases hn : f.next = 6
  · rw [if_pos hn]
    have t : (f.next == 6) = true := by simpa using hn
    clear hn
    go_enter Try.func29, Try.ntmps29
    go_wp2_with fail
    refine (irdone_any w b f H).mono ?_
    rintro e w' ⟨rfl, rfl⟩
    go_wp2
    go_ret
    exact ⟨rfl, rfl⟩
  · rw [if_neg hn]
    have t : (f.next == 6) = false := by simpa using hn
    clear hn
    go_enter Try.func29, Try.ntmps29
    go_wp2_with fail
    refine (irdone_any w b f H).mono ?_
    rintro e w' ⟨rfl, rfl⟩
    go_wp2
    go_ret
    exact ⟨rfl, rfl⟩

theorem irup_any (w : World) (b : Nat) (f : IR) (i : Int) (H : IRAt w b f) :
    Calls Try.prog 61 #[.pointer (some ⟨b, 0, none⟩), .int .i64 i] w fun e w' => e = .returned (.tuple #[]) ∧ IRAt w' b (f.up i) ∧ Fr [b] w w' := by
  obtain ⟨⟨c0, c1, c2, c3, c4, c5, c6⟩, ff⟩ := H.cells
  have H1 : IRAt ((w.setCell ⟨b, 0, none⟩ (.int .i64 4)).setCell ⟨b, 4, none⟩ (.int .i64 i)) b { f with next := 4, i := i } := ⟨(H.blk.set 0 _).set 4 _, H.k, H.first, H.degree⟩
  have F1 : Fr [b] w ((w.setCell ⟨b, 0, none⟩ (.int .i64 4)).setCell ⟨b, 4, none⟩ (.int .i64 i)) := ((Fr.refl _ _).setCell (.inl (by simp)) _).setCell (.inl (by simp)) _
  obtain ⟨O, hO⟩ : ∃ O, f.up i = O := ⟨_, rfl⟩
  rw [hO]
  unfold R.IR.up at hO
  obtain ⟨K, hK⟩ : ∃ K, f.keys = K := ⟨_, rfl⟩
  have HK : Hid (f.keys = K) := hK
  rw [hK] at hO
  clear hK
  rcases Int.lt_or_le i K with h | h
  · rw [if_neg (by omega)] at hO
    have E := Lib.hid hO
    clear hO
    go_enter Try.func61, Try.ntmps61
    go_wp2_with fail
    refine (irkeys_any _ b _ H1).mono ?_
    rintro e w' ⟨rfl, rfl⟩
    rw [show R.IR.keys { f with next := 4, i := i } = K from HK.out]
    go_wp2
    go_end0
    have e := E.out; subst e
    exact ⟨rfl, H1, F1⟩
  · rw [if_pos h] at hO
    have E := Lib.hid hO
    clear hO
    go_enter Try.func61, Try.ntmps61
    go_wp2_with fail
    refine (irkeys_any _ b _ H1).mono ?_
    rintro e w' ⟨rfl, rfl⟩
    rw [show R.IR.keys { f with next := 4, i := i } = K from HK.out]
    go_wp2_with fail
    refine (irkeys_any _ b _ H1).mono ?_
    rintro e w' ⟨rfl, rfl⟩
    rw [show R.IR.keys { f with next := 4, i := i } = K from HK.out]
    go_wp2_with fail
    refine (irend_any _ b _ _ H1).mono ?_
    rintro e w1 ⟨rfl, H2, F2⟩
    go_wp2
    go_end0
    have e := E.out; subst e
    rw [← w64_eq]
    exact ⟨rfl, H2, F1.trans F2⟩

theorem irdown_any (w : World) (b : Nat) (f : IR) (i : Int) (H : IRAt w b f) :
    Calls Try.prog 60 #[.pointer (some ⟨b, 0, none⟩), .int .i64 i] w fun e w' => e = .returned (.tuple #[]) ∧ IRAt w' b (f.down i) ∧ Fr [b] w w' := by
  obtain ⟨⟨c0, c1, c2, c3, c4, c5, c6⟩, ff⟩ := H.cells
  have H1 : IRAt ((w.setCell ⟨b, 0, none⟩ (.int .i64 5)).setCell ⟨b, 4, none⟩ (.int .i64 i)) b { f with next := 5, i := i } := ⟨(H.blk.set 0 _).set 4 _, H.k, H.first, H.degree⟩
  have F1 : Fr [b] w ((w.setCell ⟨b, 0, none⟩ (.int .i64 5)).setCell ⟨b, 4, none⟩ (.int .i64 i)) := ((Fr.refl _ _).setCell (.inl (by simp)) _).setCell (.inl (by simp)) _
  obtain ⟨O, hO⟩ : ∃ O, f.down i = O := ⟨_, rfl⟩
  rw [hO]
  unfold R.IR.down at hO
  rcases Int.lt_or_le 1 i with h | h
  · rw [if_neg (by omega)] at hO
    have E := Lib.hid hO
    clear hO
    go_enter Try.func60, Try.ntmps60
    go_wp2
    go_end0
    have e := E.out; subst e
    exact ⟨rfl, H1, F1⟩
  · rw [if_pos h] at hO
    have E := Lib.hid hO
    clear hO
    go_enter Try.func60, Try.ntmps60
    go_wp2_with fail
    refine (irend_any _ b _ _ H1).mono ?_
    rintro e w1 ⟨rfl, H2, F2⟩
    go_wp2
    go_end0
    have e := E.out; subst e
    exact ⟨rfl, H2, F1.trans F2⟩

theorem irguess_any (w : World) (b : Nat) (f : IR) (last : Int) (hl : R.I64 last) (H : IRAt w b f) :
    Calls Try.prog 59 #[.pointer (some ⟨b, 0, none⟩), .int .i64 last] w fun e w' => e = .returned (.tuple #[]) ∧ IRAt w' b (f.guess last) ∧ Fr [b] w w' := by
  obtain ⟨⟨c0, c1, c2, c3, c4, c5, c6⟩, ff⟩ := H.cells
  obtain ⟨O, hO⟩ : ∃ O, f.guess last = O := ⟨_, rfl⟩
  rw [hO]
  unfold R.IR.guess at hO
  obtain ⟨j, hj⟩ : ∃ j, R.guess f.first last f.k f.keys = j := ⟨_, rfl⟩
  obtain ⟨j1, j2, _⟩ := R.guess_bd f.first last f.k f.keys
  rw [hj] at hO j1 j2
  have HJ := Lib.hid hj
  clear hj
  rcases Int.lt_or_le 1 j with h | h
  · rw [if_pos h] at hO
    have E := Lib.hid hO
    clear hO
    go_enter Try.func59, Try.ntmps59
    go_wp2_with fail
    go_quiet ((first
      | (go_at_call 58; exact quiet_w (irkeys_any _ b f (H.drewN _)))
      | (go_at_call 65; exact quiet_d (iguess_any _ _ _ _ _ H.first.1 H.first.2 hl.1 hl.2 H.k.1 H.k.2 (w64_bd _).1 (w64_bd _).2))))
    rw [HJ.out]
    go_wp2
    refine bodyPost_ret (results_none rfl _ _ _) rfl ?_
    have e := E.out; subst e
    exact ⟨rfl, ⟨((H.blk.drewN _).set 0 _).set 4 _, H.k, H.first, H.degree⟩, (((Fr.refl _ _).drewN _).setCell (.inl (by simp)) _).setCell (.inl (by simp)) _⟩
  · rw [if_neg (by omega)] at hO
    have E := Lib.hid hO
    clear hO
    go_enter Try.func59, Try.ntmps59
    go_wp2_with fail
    go_quiet ((first
      | (go_at_call 58; exact quiet_w (irkeys_any _ b f (H.drewN _)))
      | (go_at_call 65; exact quiet_d (iguess_any _ _ _ _ _ H.first.1 H.first.2 hl.1 hl.2 H.k.1 H.k.2 (w64_bd _).1 (w64_bd _).2))))
    rw [HJ.out]
    go_wp2_with fail
    refine (irup_any _ b f 2 (H.drewN _)).mono ?_
    rintro e w1 ⟨rfl, H2, F2⟩
    go_wp2
    go_end0
    have e := E.out; subst e
    exact ⟨rfl, H2, ((Fr.refl _ _).drewN _).trans F2⟩

def isI64 (f : IR) : Prop := R.I64 f.i
set_option maxHeartbeats 4000000 in
theorem irkey_any (w : World) (b : Nat) (f : IR) (q : Int) (hq : R.I64 q) (H : IRAt w b f) :
    Calls Try.prog 48 #[.pointer (some ⟨b, 0, none⟩), .int .i64 q] w fun e w' => e = .returned (.tuple #[]) ∧ IRAt w' b (f.key q) ∧ Fr [b] w w' := by
  obtain ⟨⟨c0, c1, c2, c3, c4, c5, c6⟩, ff⟩ := H.cells
  obtain ⟨O, hO⟩ : ∃ O, f.key q = O := ⟨_, rfl⟩
  rw [hO]
  unfold R.IR.key at hO
  obtain ⟨K, hK⟩ : ∃ K, f.keys = K := ⟨_, rfl⟩
  have HK : Hid (f.keys = K) := hK
  rw [hK] at hO
  clear hK
  by_cases n1 : f.next = 1
  · rw [if_pos n1] at hO
    have t1 : (f.next == 1) = true := by simpa using n1
    clear n1
    have H0 : IRAt (w.setCell ⟨b, 5, none⟩ (.int .i64 q)) b { f with first := q } := ⟨H.blk.set 5 _, H.k, hq, H.degree⟩
    have H1 : IRAt (((w.setCell ⟨b, 5, none⟩ (.int .i64 q)).setCell ⟨b, 0, none⟩ (.int .i64 2)).setCell ⟨b, 4, none⟩ (.int .i64 K)) b { f with first := q, next := 2, i := K } := ⟨((H.blk.set 5 _).set 0 _).set 4 _, H.k, hq, H.degree⟩
    have F1 : Fr [b] w (((w.setCell ⟨b, 5, none⟩ (.int .i64 q)).setCell ⟨b, 0, none⟩ (.int .i64 2)).setCell ⟨b, 4, none⟩ (.int .i64 K)) := (((Fr.refl _ _).setCell (.inl (by simp)) _).setCell (.inl (by simp)) _).setCell (.inl (by simp)) _
    rcases Int.lt_or_le f.k q with h | h
    · rw [if_pos h] at hO
      have E := Lib.hid hO
      clear hO
      go_enter Try.func48, Try.ntmps48
      go_wp2_with fail
      refine (irkeys_any _ b _ H0).mono ?_
      rintro e w' ⟨rfl, rfl⟩
      rw [show R.IR.keys { f with first := q } = K from HK.out]
      go_wp2_with fail
      refine (irend_any _ b _ _ H1).mono ?_
      rintro e w1 ⟨rfl, H2, F2⟩
      go_wp2
      go_end0
      have e := E.out; subst e
      exact ⟨rfl, H2, F1.trans F2⟩
    · rw [if_neg (by omega)] at hO
      by_cases hk1 : K = 1
      · rw [if_pos hk1] at hO
        have t2 : (K == 1) = true := by simpa using hk1
        have E := Lib.hid hO
        clear hO hk1
        go_enter Try.func48, Try.ntmps48
        go_wp2_with fail
        refine (irkeys_any _ b _ H0).mono ?_
        rintro e w' ⟨rfl, rfl⟩
        rw [show R.IR.keys { f with first := q } = K from HK.out]
        go_wp2_with fail
        refine (irkeys_any _ b _ H1).mono ?_
        rintro e w' ⟨rfl, rfl⟩
        rw [show R.IR.keys { f with first := q, next := 2, i := K } = K from HK.out]
        go_wp2_with fail
        refine (irend_any _ b _ _ H1).mono ?_
        rintro e w1 ⟨rfl, H2, F2⟩
        go_wp2
        go_end0
        have e := E.out; subst e
        exact ⟨rfl, H2, F1.trans F2⟩
      · rw [if_neg hk1] at hO
        have t2 : (K == 1) = false := by simpa using hk1
        have E := Lib.hid hO
        clear hO hk1
        go_enter Try.func48, Try.ntmps48
        go_wp2_with fail
        refine (irkeys_any _ b _ H0).mono ?_
        rintro e w' ⟨rfl, rfl⟩
        rw [show R.IR.keys { f with first := q } = K from HK.out]
        go_wp2_with fail
        refine (irkeys_any _ b _ H1).mono ?_
        rintro e w' ⟨rfl, rfl⟩
        rw [show R.IR.keys { f with first := q, next := 2, i := K } = K from HK.out]
        go_wp2
        go_end0
        have e := E.out; subst e
        exact ⟨rfl, H1, F1⟩
  rw [if_neg n1] at hO
  have t1 : (f.next == 1) = false := by simpa using n1
  clear n1
  by_cases n2 : f.next = 2
  · rw [if_pos n2] at hO
    have t2 : (f.next == 2) = true := by simpa using n2
    clear n2
    rcases Int.lt_or_le f.k q with h | h
    · rw [if_pos h] at hO
      have E := Lib.hid hO
      clear hO
      go_enter Try.func48, Try.ntmps48
      go_wp2_with fail
      refine (irguess_any _ b f q hq H).mono ?_
      rintro e w1 ⟨rfl, H2, F2⟩
      go_wp2
      go_end0
      have e := E.out; subst e
      exact ⟨rfl, H2, F2⟩
    · rw [if_neg (by omega)] at hO
      have E := Lib.hid hO
      clear hO
      go_enter Try.func48, Try.ntmps48
      go_wp2_with fail
      refine (irkeys_any _ b _ H).mono ?_
      rintro e w' ⟨rfl, rfl⟩
      rw [HK.out]
      go_wp2_with fail
      refine (irend_any _ b f K H).mono ?_
      rintro e w1 ⟨rfl, H2, F2⟩
      go_wp2
      go_end0
      have e := E.out; subst e
      exact ⟨rfl, H2, F2⟩
  rw [if_neg n2] at hO
  have t2 : (f.next == 2) = false := by simpa using n2
  clear n2
  by_cases n3 : f.next = 3
  · rw [if_pos n3] at hO
    have t3 : (f.next == 3) = true := by simpa using n3
    clear n3
    rcases Int.lt_or_le f.k q with h | h
    · rw [if_pos h] at hO
      have E := Lib.hid hO
      clear hO
      go_enter Try.func48, Try.ntmps48
      go_wp2_with fail
      rw [w64_eq]
      refine (irdown_any _ b f _ H).mono ?_
      rintro e w1 ⟨rfl, H2, F2⟩
      go_wp2
      go_end0
      have e := E.out; subst e
      exact ⟨rfl, H2, F2⟩
    · rw [if_neg (by omega)] at hO
      have E := Lib.hid hO
      clear hO
      go_enter Try.func48, Try.ntmps48
      go_wp2_with fail
      rw [w64_eq]
      refine (irup_any _ b f _ H).mono ?_
      rintro e w1 ⟨rfl, H2, F2⟩
      go_wp2
      go_end0
      have e := E.out; subst e
      exact ⟨rfl, H2, F2⟩
  rw [if_neg n3] at hO
  have t3 : (f.next == 3) = false := by simpa using n3
  clear n3
  by_cases n4 : f.next = 4
  · rw [if_pos n4] at hO
    have t4 : (f.next == 4) = true := by simpa using n4
    clear n4
    rcases Int.lt_or_le f.k q with h | h
    · rw [if_pos h] at hO
      have E := Lib.hid hO
      clear hO
      go_enter Try.func48, Try.ntmps48
      go_wp2_with fail
      rw [w64_eq]
      refine (irend_any _ b f _ H).mono ?_
      rintro e w1 ⟨rfl, H2, F2⟩
      go_wp2
      go_end0
      have e := E.out; subst e
      exact ⟨rfl, H2, F2⟩
    · rw [if_neg (by omega)] at hO
      have E := Lib.hid hO
      clear hO
      go_enter Try.func48, Try.ntmps48
      go_wp2_with fail
      rw [w64_eq]
      refine (irup_any _ b f _ H).mono ?_
      rintro e w1 ⟨rfl, H2, F2⟩
      go_wp2
      go_end0
      have e := E.out; subst e
      exact ⟨rfl, H2, F2⟩
  rw [if_neg n4] at hO
  have t4 : (f.next == 4) = false := by simpa using n4
  clear n4
  by_cases n5 : f.next = 5
  · rw [if_pos n5] at hO
    have t5 : (f.next == 5) = true := by simpa using n5
    clear n5
    rcases Int.lt_or_le f.k q with h | h
    · rw [if_pos h] at hO
      have E := Lib.hid hO
      clear hO
      go_enter Try.func48, Try.ntmps48
      go_wp2_with fail
      rw [w64_eq]
      refine (irdown_any _ b f _ H).mono ?_
      rintro e w1 ⟨rfl, H2, F2⟩
      go_wp2
      go_end0
      have e := E.out; subst e
      exact ⟨rfl, H2, F2⟩
    · rw [if_neg (by omega)] at hO
      have E := Lib.hid hO
      clear hO
      go_enter Try.func48, Try.ntmps48
      go_wp2_with fail
      refine (irend_any _ b f _ H).mono ?_
      rintro e w1 ⟨rfl, H2, F2⟩
      go_wp2
      go_end0
      have e := E.out; subst e
      exact ⟨rfl, H2, F2⟩
  rw [if_neg n5] at hO
  have t5 : (f.next == 5) = false := by simpa using n5
  clear n5
  have E := Lib.hid hO
  clear hO
  go_enter Try.func48, Try.ntmps48
  go_wp2
  go_end0
  have e := E.out; subst e
  exact ⟨rfl, H, Fr.refl _ _⟩
end Go.Proofs.Ytilkkfpfcegncaa
