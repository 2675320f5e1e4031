/- The document's route. -/
import Derived.Test.YtfgkgmfcbhbomaaGreatRun0
import Derived.Test.YtfgkgmfcbhbomaaGreatShare

namespace Go.Proofs.YtfgkgmfcbhbomaaGreat
open Go.RowKit
open R (RS)

theorem w64_eq (n : Int) : wrap64 n = R.w64 n := by unfold wrap64 R.w64; omega
theorem w64_bd (n : Int) : -9223372036854775808 ≤ R.w64 n ∧ R.w64 n ≤ 9223372036854775807 := by unfold R.w64; omega

set_option maxHeartbeats 4000000 in
theorem route_any (w : World) (r : Nat) (s : RS) (n k : Int) (k1 : -9223372036854775808 ≤ k) (k2 : k ≤ 9223372036854775807) (H : RunAt w r s) :
    Calls Tryz.prog 61 #[.pointer (some ⟨r, 0, none⟩), .int .i64 n, .int .i64 k] w fun e w' => e = .returned (.tuple #[.int .i64 (R.route n k s).1.1, .int .i64 (R.route n k s).1.2]) ∧ RunAt w' r (R.route n k s).2 ∧ Fr [r] w w' := by
  obtain ⟨O, hO⟩ : ∃ O, R.route n k s = O := ⟨_, rfl⟩
  rw [hO]
  have E := Lib.hid hO
  clear hO
  unfold R.route at E
  go_enter Tryz.func61, Tryz.ntmps61
  go_wp2_with fail
  refine (read_any w r s n H).mono ?_
  rintro e w1 ⟨rfl, H1, F1, d1, d2⟩
  generalize R.read n s = D at *
  obtain ⟨d, s1⟩ := D
  simp only at *
  have hm : wrap64 (d - 1) = R.w64 (d - 1) := w64_eq _
  obtain ⟨m1, m2⟩ := w64_bd (d - 1)
  generalize R.w64 (d - 1) = m at *
  unfold R.routeKeys at E
  rcases Int.lt_or_le m 1 with h1 | h1
  · go_wp2_with fail
    go_ret2
    have e := E.out; rw [if_pos h1] at e; subst e
    exact ⟨rfl, H1, F1⟩
  rw [if_neg (by omega)] at E
  go_wp2_with fail
  refine (keyAt_any _ _ _).mono ?_
  rintro e w' ⟨rfl, rfl⟩
  go_wp2_with fail
  refine (read_any _ r _ _ H1).mono ?_
  rintro e w2 ⟨rfl, H2, F2, f1, f2⟩
  have F := F1.trans F2
  clear F1 F2 H1
  generalize R.read (R.keyAt n 1) s1 = D at *
  obtain ⟨first, s2⟩ := D
  simp only at *
  rcases Int.lt_or_le k first with h2 | h2
  · go_wp2_with fail
    go_ret2
    have e := E.out; rw [if_pos h2] at e; subst e
    exact ⟨rfl, H2, F⟩
  rw [if_neg (by omega)] at E
  by_cases h3 : m = 1
  · have h3' : (m == 1) = true := by simpa using h3
    rw [if_pos h3] at E
    clear h3
    go_wp2_with fail
    go_ret2
    have e := E.out; subst e
    exact ⟨rfl, H2, F⟩
  have h3' : (m == 1) = false := by simpa using h3
  rw [if_neg h3] at E
  clear h3
  go_wp2_with fail
  refine (keyAt_any _ _ _).mono ?_
  rintro e w' ⟨rfl, rfl⟩
  go_wp2_with fail
  refine (read_any _ r _ _ H2).mono ?_
  rintro e w3 ⟨rfl, H3, F3, l1, l2⟩
  replace F := F.trans F3
  clear F3 H2
  generalize R.read (R.keyAt n m) s2 = D at *
  obtain ⟨last, s3⟩ := D
  simp only at *
  rcases Int.lt_or_le k last with h4 | h4
  rotate_left
  · go_wp2_with fail
    go_ret2
    have e := E.out; rw [if_pos h4] at e; subst e
    exact ⟨rfl, H3, F⟩
  rw [if_neg (by omega)] at E
  go_wp2_with fail
  refine (guess_any _ _ _ _ _ f1 f2 l1 l2 k1 k2 (by omega) m2).mono ?_
  rintro e w' ⟨rfl, rfl⟩
  obtain ⟨j1, j2, j3⟩ := R.guess_bd first last k m
  replace j3 := j3 (by simp at h3'; omega)
  generalize R.guess first last k m = j at *
  have hoff := H3.off
  unfold R.routeKeys.routeGuess at E
  cases ho : s3.off
  all_goals rw [ho] at hoff; have HO := Lib.hid ho; clear ho
  · rcases Int.lt_or_le j 1 with h5 | h5
    · rw [if_pos (.inr h5)] at E
      go_wp2_with fail
      go_ret2
      have e := E.out; subst e
      exact ⟨rfl, H3, F⟩
    rw [if_neg (by rw [HO.out]; simp; omega)] at E
    rcases Int.lt_or_le 1 j with h6 | h6
    · rw [if_pos h6] at E
      go_wp2_with fail
      refine (keyAt_any _ _ _).mono ?_
      rintro e w' ⟨rfl, rfl⟩
      go_wp2_with fail
      refine (read_any _ r _ _ H3).mono ?_
      rintro e w4 ⟨rfl, HX, F4, y1, y2⟩
      have FX := F.trans F4
      clear F4 F H3 hoff HO
      generalize R.read (R.keyAt n j) s3 = D at *
      obtain ⟨x, s4⟩ := D
      simp only at *
      rcases Int.lt_or_le k x with h7 | h7
      · rw [if_pos h7] at E
        obtain ⟨U, hU⟩ : ∃ U, R.down n k (j - 1).toNat (j - 1) s4 = U := ⟨_, rfl⟩
        rw [hU] at E
        have HU := Lib.hid hU
        clear hU
        go_wp2_with fail
        go_loopw [13] (fun v wr => ∃ (i : Int) (s' : RS), v = .int .i64 i ∧ RunAt wr r s' ∧ Fr [r] w wr ∧ 0 ≤ i ∧ i ≤ 9223372036854775807 ∧ Hid (R.down n k i.toNat i s' = U)) (fun v _ => (intOf v).toNat)
        case atStart => exact ⟨_, _, rfl, HX, FX, by omega, by omega, HU⟩
        case round =>
          obtain ⟨i, s', rfl, H', F', i1, i2, U'⟩ := hrel
          have hoff := H'.off
          rcases Int.lt_or_le 1 i with hi | hi
          · obtain ⟨f, hf⟩ : ∃ f, i.toNat = f + 1 := ⟨i.toNat - 1, by omega⟩
            rw [hf] at U'
            unfold R.down at U'
            have hf' : f = (i - 1).toNat := by omega
            rw [hf'] at U'
            clear hf hf'
            cases ho : s'.off
            · rw [ho] at hoff
              rw [if_pos ⟨hi, ho⟩] at U'
              clear ho
              go_wp2_with fail
              refine (keyAt_any _ _ _).mono ?_
              rintro e w' ⟨rfl, rfl⟩
              go_wp2_with fail
              refine (read_any _ r _ _ H').mono ?_
              rintro e w5 ⟨rfl, H5, F5, y1, y2⟩
              replace F' := F'.trans F5
              clear F5 H' hoff
              generalize R.read (R.keyAt n i) s' = D at *
              obtain ⟨x, s5⟩ := D
              simp only at *
              rcases Int.lt_or_le k x with hx | hx
              · rw [if_neg (by omega)] at U'
                go_wp2_with fail
                go_roundw
                case rel => exact ⟨_, _, rfl, H5, F', by omega, by omega, U'⟩
                case measure => simp [intOf]; omega
              · rw [if_pos hx] at U'
                go_wp2_with fail
                go_ret2
                have e := E.out; rw [← U'.out] at e; subst e
                exact ⟨rfl, H5, F'⟩
            · rw [ho] at hoff
              rw [if_neg (by rw [ho]; simp)] at U'
              clear ho
              go_wp2_with fail
              go_ret2
              have e := E.out; rw [← U'.out] at e; subst e
              exact ⟨rfl, H', F'⟩
          · have U2 : Hid ((1, s') = U) := by
              refine Eq.trans ?_ U'.out
              rcases Int.lt_or_le 0 i with h0 | h0
              · rw [show i.toNat = 0 + 1 from by omega]; unfold R.down; rw [if_neg (by omega)]
              · rw [show i.toNat = 0 from by omega]; unfold R.down; rfl
            clear U'
            go_wp2_with fail
            go_ret2
            have e := E.out; rw [← U2.out] at e; subst e
            exact ⟨rfl, H', F'⟩
      · rw [if_neg (by omega)] at E
        obtain ⟨U, hU⟩ : ∃ U, R.up n k m (m - (j + 1)).toNat (j + 1) s4 = U := ⟨_, rfl⟩
        rw [hU] at E
        have HU := Lib.hid hU
        clear hU
        go_wp2_with fail
        go_loopw [14] (fun v wr => ∃ (i : Int) (s' : RS), v = .int .i64 i ∧ RunAt wr r s' ∧ Fr [r] w wr ∧ 0 ≤ i ∧ i ≤ 9223372036854775807 ∧ Hid (R.up n k m (m - i).toNat i s' = U)) (fun v _ => (m - intOf v).toNat)
        case atStart => exact ⟨_, _, rfl, HX, FX, by omega, by omega, HU⟩
        case round =>
          obtain ⟨i, s', rfl, H', F', i1, i2, U'⟩ := hrel
          have hoff := H'.off
          rcases Int.lt_or_le i m with hi | hi
          · obtain ⟨f, hf⟩ : ∃ f, (m - i).toNat = f + 1 := ⟨(m - i).toNat - 1, by omega⟩
            rw [hf] at U'
            unfold R.up at U'
            have hf' : f = (m - (i + 1)).toNat := by omega
            rw [hf'] at U'
            clear hf hf'
            cases ho : s'.off
            · rw [ho] at hoff
              rw [if_pos ⟨hi, ho⟩] at U'
              clear ho
              go_wp2_with fail
              refine (keyAt_any _ _ _).mono ?_
              rintro e w' ⟨rfl, rfl⟩
              go_wp2_with fail
              refine (read_any _ r _ _ H').mono ?_
              rintro e w5 ⟨rfl, H5, F5, y1, y2⟩
              replace F' := F'.trans F5
              clear F5 H' hoff
              generalize R.read (R.keyAt n i) s' = D at *
              obtain ⟨x, s5⟩ := D
              simp only at *
              rcases Int.lt_or_le k x with hx | hx
              · rw [if_pos hx] at U'
                go_wp2_with fail
                go_ret2
                have e := E.out; rw [← U'.out] at e; subst e
                exact ⟨rfl, H5, F'⟩
              · rw [if_neg (by omega)] at U'
                go_wp2_with fail
                go_roundw
                case rel => exact ⟨_, _, rfl, H5, F', by omega, by omega, U'⟩
                case measure => simp [intOf]; omega
            · rw [ho] at hoff
              rw [if_neg (by rw [ho]; simp)] at U'
              clear ho
              go_wp2_with fail
              go_ret2
              have e := E.out; rw [← U'.out] at e; subst e
              exact ⟨rfl, H', F'⟩
          · have e0 : (m - i).toNat = 0 := by omega
            rw [e0] at U'
            clear e0
            unfold R.up at U'
            go_wp2_with fail
            go_ret2
            have e := E.out; rw [← U'.out] at e; subst e
            exact ⟨rfl, H', F'⟩
    · rw [if_neg (by omega)] at E
      have HX := H3
      have FX := F
      clear F H3
      obtain ⟨U, hU⟩ : ∃ U, R.up n k m (m - (j + 1)).toNat (j + 1) s3 = U := ⟨_, rfl⟩
      rw [hU] at E
      have HU := Lib.hid hU
      clear hU
      go_wp2_with fail
      clear hoff
      go_loopw [14] (fun v wr => ∃ (i : Int) (s' : RS), v = .int .i64 i ∧ RunAt wr r s' ∧ Fr [r] w wr ∧ 0 ≤ i ∧ i ≤ 9223372036854775807 ∧ Hid (R.up n k m (m - i).toNat i s' = U)) (fun v _ => (m - intOf v).toNat)
      case atStart => exact ⟨_, _, rfl, HX, FX, by omega, by omega, HU⟩
      case round =>
        obtain ⟨i, s', rfl, H', F', i1, i2, U'⟩ := hrel
        have hoff := H'.off
        rcases Int.lt_or_le i m with hi | hi
        · obtain ⟨f, hf⟩ : ∃ f, (m - i).toNat = f + 1 := ⟨(m - i).toNat - 1, by omega⟩
          rw [hf] at U'
          unfold R.up at U'
          have hf' : f = (m - (i + 1)).toNat := by omega
          rw [hf'] at U'
          clear hf hf'
          cases ho : s'.off
          · rw [ho] at hoff
            rw [if_pos ⟨hi, ho⟩] at U'
            clear ho
            go_wp2_with fail
            refine (keyAt_any _ _ _).mono ?_
            rintro e w' ⟨rfl, rfl⟩
            go_wp2_with fail
            refine (read_any _ r _ _ H').mono ?_
            rintro e w5 ⟨rfl, H5, F5, y1, y2⟩
            replace F' := F'.trans F5
            clear F5 H' hoff
            generalize R.read (R.keyAt n i) s' = D at *
            obtain ⟨x, s5⟩ := D
            simp only at *
            rcases Int.lt_or_le k x with hx | hx
            · rw [if_pos hx] at U'
              go_wp2_with fail
              go_ret2
              have e := E.out; rw [← U'.out] at e; subst e
              exact ⟨rfl, H5, F'⟩
            · rw [if_neg (by omega)] at U'
              go_wp2_with fail
              go_roundw
              case rel => exact ⟨_, _, rfl, H5, F', by omega, by omega, U'⟩
              case measure => simp [intOf]; omega
          · rw [ho] at hoff
            rw [if_neg (by rw [ho]; simp)] at U'
            clear ho
            go_wp2_with fail
            go_ret2
            have e := E.out; rw [← U'.out] at e; subst e
            exact ⟨rfl, H', F'⟩
        · have e0 : (m - i).toNat = 0 := by omega
          rw [e0] at U'
          clear e0
          unfold R.up at U'
          go_wp2_with fail
          go_ret2
          have e := E.out; rw [← U'.out] at e; subst e
          exact ⟨rfl, H', F'⟩
  · rw [if_pos (.inl HO.out)] at E
    go_wp2_with fail
    go_ret2
    have e := E.out; subst e
    exact ⟨rfl, H3, F⟩
end Go.Proofs.YtfgkgmfcbhbomaaGreat
