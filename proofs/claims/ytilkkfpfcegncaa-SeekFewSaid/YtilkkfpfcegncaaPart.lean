/- span.Bits, span.Root; part. -/
import Derived.Test.YtilkkfpfcegncaaOwn
import Derived.Test.YtilkkfpfcegncaaPartPure
import Derived.Test.YtilkkfpfcegncaaShelf
import Derived.Lib.ItoaNum
set_option linter.unusedVariables false
namespace Go.Proofs.Ytilkkfpfcegncaa
open Go.RowKit

theorem bits_any (w : World) (n : Int) (h1 : 1 ≤ n) (h2 : n ≤ 9223372036854775807) :
    Calls Try.prog 56 #[.int .i64 n] w fun e w' => e = .returned (.int .i64 (Lib.bitLen n.toNat)) ∧ w = w' := by
  have e1 : n % 18446744073709551616 = n := by omega
  go_enter Try.func56, Try.ntmps56
  go_wp2_with fail
  refine (Try.bits_Len n _ (by omega) (by omega)).mono ?_
  rintro e w' ⟨rfl, hw⟩
  subst w'
  go_wp2
  go_ret
  exact ⟨rfl, rfl⟩

theorem or_pow (r b : Nat) (hb : b ≤ 20) (hr : r ≤ 65535) (hm : r % 2 ^ (b + 1) = 0) : bits BinOp.or IntKind.i64 (r : Int) ((2 ^ b : Nat) : Int) = ((r + 2 ^ b : Nat) : Int) := by
  have hp : 2 ^ b ≤ 2 ^ 20 := Nat.pow_le_pow_right (by omega) hb
  have hp2 : (2 : Nat) ^ 20 = 1048576 := rfl
  have h1 : (BitVec.ofInt 64 (r : Int)).toNat = r := by
    rw [BitVec.ofInt_natCast, BitVec.toNat_ofNat]; exact Nat.mod_eq_of_lt (by omega)
  have h2 : (BitVec.ofInt 64 ((2 ^ b : Nat) : Int)).toNat = 2 ^ b := by
    rw [BitVec.ofInt_natCast, BitVec.toNat_ofNat]; exact Nat.mod_eq_of_lt (by omega)
  show IntKind.i64.wrap ((BitVec.ofInt 64 (r : Int) ||| BitVec.ofInt 64 ((2 ^ b : Nat) : Int)).toNat : Int) = _
  have h3 : r ||| 2 ^ b = r + 2 ^ b := by
    have h4 := Nat.shiftLeft_add_eq_or_of_lt (show 2 ^ b < 2 ^ (b + 1) from Nat.pow_lt_pow_right (by omega) (by omega)) (r / 2 ^ (b + 1))
    rw [Nat.shiftLeft_eq] at h4
    have h5 : r / 2 ^ (b + 1) * 2 ^ (b + 1) = r := by have := Nat.div_add_mod r (2 ^ (b + 1)); rw [hm, Nat.mul_comm] at this; omega
    rw [h5] at h4
    exact h4.symm
  rw [BitVec.toNat_or, h1, h2, h3, IntKind.wrap_i64]
  omega
theorem sq_le {m n : Int} (h0 : 1 ≤ m) (h : m ≤ n / m) : m * m ≤ n := by
  have := Int.ediv_mul_le n (show m ≠ 0 by omega)
  exact Int.le_trans (Int.mul_le_mul_of_nonneg_right h (by omega)) this
theorem sq_lt {m n : Int} (h0 : 1 ≤ m) (h : n / m < m) : n < m * m := (Int.ediv_lt_iff_lt_mul (by omega)).1 h
theorem root_step (n : Int) (r c : Nat) (h1 : 1 ≤ n) (h2 : n ≤ 65535) (hr : r ≤ 255) (hc : c ≤ 9) (h0 : 0 < c) (hm : r % 2 ^ c = 0) (hr2 : n.toNat < (r + 2 ^ c) * (r + 2 ^ c)) :
    ∃ (k P m : Nat) (D : Int), c = k + 1 ∧ k ≤ 8 ∧ m ≤ 1000 ∧ 1 ≤ (m : Int) ∧ wrap64 ((2 : Int) ^ k) = (P : Int) ∧ bits BinOp.or IntKind.i64 (r : Int) (P : Int) = (m : Int) ∧ n.tdiv (m : Int) = D ∧ 0 ≤ D ∧ D ≤ n ∧
      Hid (r % 2 ^ k = 0 ∧ m % 2 ^ k = 0 ∧ (D < (m : Int) → n.toNat < (r + 2 ^ k) * (r + 2 ^ k)) ∧ ((m : Int) ≤ D → m * m ≤ n.toNat) ∧ n.toNat < (m + 2 ^ k) * (m + 2 ^ k)) := by
  obtain ⟨k, rfl⟩ : ∃ k, c = k + 1 := ⟨c - 1, by omega⟩
  have hP1 : 2 ^ k ≤ 2 ^ 8 := Nat.pow_le_pow_right (by omega) (by omega)
  have hP8 : (2 : Nat) ^ 8 = 256 := rfl
  have hP0 : 1 ≤ 2 ^ k := Nat.one_le_two_pow
  have e2 : 2 ^ (k + 1) = 2 ^ k + 2 ^ k := by rw [Nat.pow_succ]; omega
  have hor := or_pow r k (by omega) (by omega) hm
  rw [e2] at hr2 hm
  have e3 : r % 2 ^ k = 0 := by
    have h3 := Nat.mod_mod_of_dvd r (show 2 ^ k ∣ 2 ^ k + 2 ^ k from ⟨2, by omega⟩)
    rw [hm] at h3; simpa using h3.symm
  refine ⟨k, 2 ^ k, r + 2 ^ k, n / ((r + 2 ^ k : Nat) : Int), rfl, by omega, by omega, by omega, ?_, hor, Int.tdiv_eq_ediv_of_nonneg (by omega), Int.ediv_nonneg (by omega) (by omega), Int.ediv_le_self _ (by omega), e3, ?_, ?_, ?_, ?_⟩
  · have : ((2 ^ k : Nat) : Int) = (2 : Int) ^ k := by simp
    rw [← this]; unfold wrap64; omega
  · rw [Nat.add_mod, e3]; simp
  · intro h
    have h := sq_lt (by omega) h
    rw [← Int.natCast_mul] at h
    omega
  · intro h
    have h := sq_le (by omega) h
    rw [← Int.natCast_mul] at h
    omega
  · rw [Nat.add_assoc]; exact hr2
set_option maxHeartbeats 4000000 in
theorem iroot_any (w : World) (n : Int) (h1 : 1 ≤ n) (h2 : n ≤ 65535) :
    Calls Try.prog 39 #[.int .i64 n] w fun e w' => e = .returned (.int .i64 (R.root n)) ∧ w = w' := by
  obtain ⟨L, hL⟩ : ∃ L, Lib.bitLen n.toNat = L := ⟨_, rfl⟩
  have hb : n.toNat < 2 ^ L ∧ L ≤ 16 := by
    obtain ⟨a, b, c⟩ := Lib.bitLenAux_bounds 64 n.toNat (by omega) (by omega)
    have d : Lib.bitLen n.toNat ≤ 64 := Lib.bitLen_le n.toNat 64 (Nat.le_refl _) (by omega)
    have e : Lib.bitLen n.toNat = Lib.bitLenAux 64 n.toNat := rfl
    rw [← e] at b c
    rw [hL] at b c d
    refine ⟨c, ?_⟩
    rcases Nat.lt_or_ge 16 L with h | h
    · exfalso
      have := Nat.pow_le_pow_right (show 0 < 2 by omega) (show 16 ≤ L - 1 by omega)
      have h16 : (2 : Nat) ^ 16 = 65536 := rfl
      omega
    · exact h
  obtain ⟨hb1, hb2⟩ := hb
  have hL1 : (L : Int) ≤ 64 := by omega
  have hL0 : (0 : Int) ≤ (L : Int) := by omega
  have HL := Lib.hid hL
  have HB := Lib.hid hb1
  clear hL hb1
  go_enter Try.func39, Try.ntmps39
  go_wp2_with fail
  refine (bits_any _ n h1 (by omega)).mono ?_
  rintro e w' ⟨rfl, rfl⟩
  rw [HL.out]
  go_wp2_with fail
  go_loop [3, 4] (fun r b => ∃ (r' c : Nat) (b' : Int), r = .int .i64 (r' : Int) ∧ b = .int .i64 b' ∧ b' + 1 = (c : Int) ∧ c ≤ 9 ∧ r' % 2 ^ c = 0 ∧ r' * r' ≤ n.toNat ∧ n.toNat < (r' + 2 ^ c) * (r' + 2 ^ c)) (fun _ b => (intOf b + 1).toNat)
  case atStart =>
    refine ⟨0, L / 2 + 1, _, rfl, rfl, by omega, by omega, by simp, by omega, ?_⟩
    rw [Nat.zero_add, ← Nat.pow_add]
    exact Nat.lt_of_lt_of_le HB.out (Nat.pow_le_pow_right (by omega) (by omega))
  case round =>
    obtain ⟨r, c, b, rfl, rfl, hbc, hc, hm, hr1, hr2⟩ := hrel
    have hr : r ≤ 255 := by
      rcases Nat.lt_or_ge 255 r with h | h
      · have := Nat.mul_le_mul h h; omega
      · exact h
    rcases Nat.eq_zero_or_pos c with h0 | h0
    · subst h0
      obtain rfl : b = -1 := by omega
      go_wp2
      go_ret
      refine ⟨ret_int (Eq.symm (R.root_eq n r h2 (by omega) ?_ ?_)), rfl⟩
      · have : ((r * r : Nat) : Int) ≤ n := by omega
        simpa using this
      · have : n < (((r + 1) * (r + 1) : Nat) : Int) := by simp only [Nat.pow_zero] at hr2; omega
        simpa using this
    · obtain ⟨k, P, m, D, rfl, hk8, hm1000, d0, e1, hor', d1, d2, d3, H⟩ := root_step n r c h1 h2 hr hc h0 hm hr2
      obtain rfl : b = (k : Int) := by omega
      have HR := Lib.hid hr1
      have hk8' : (k : Int) ≤ 8 := by omega
      have d9 : (m : Int) ≠ 0 := by omega
      clear hm hr2 hbc hc hr1 h0
      rcases Int.lt_or_le D (m : Int) with hq | hq
      · go_wp2
        go_round
        case rel => exact ⟨r, k, _, rfl, rfl, by omega, by omega, H.out.1, HR.out, H.out.2.2.1 hq⟩
        case measure => simp [intOf]
      · go_wp2
        go_round
        case rel => exact ⟨m, k, _, rfl, rfl, by omega, by omega, H.out.2.1, H.out.2.2.2.1 hq, H.out.2.2.2.2⟩
        case measure => simp [intOf]

theorem imay_any (w : World) (n : Int) (h0 : 0 ≤ n) (h1 : n ≤ 16384) :
    Calls Try.prog 38 #[.int .i64 n] w fun e w' => e = .returned (.bool true) ∧ w = w' := by
  go_enter Try.func38, Try.ntmps38
  go_wp2
  go_ret
  exact ⟨rfl, rfl⟩
theorem idegree_any (w : World) (n : Int) (h0 : 0 ≤ n) (h1 : n ≤ 16384) :
    Calls Try.prog 14 #[.int .i64 n] w fun e w' => e = .returned (.int .i64 (R.degree n)) ∧ w = w' := by
  obtain ⟨O, hO⟩ : ∃ O, R.degree n = O := ⟨_, rfl⟩
  rw [hO]
  unfold R.degree at hO
  rcases Int.lt_or_le n 2 with h | h
  · rw [if_pos (.inl h)] at hO
    subst hO
    go_enter Try.func14, Try.ntmps14
    go_wp2_with fail
    refine (imay_any _ _ h0 h1).mono ?_
    rintro e w' ⟨rfl, rfl⟩
    go_wp2
    go_ret
    exact ⟨rfl, rfl⟩
  · rw [if_neg (by omega)] at hO
    obtain ⟨r, hr⟩ : ∃ r, R.root n = r := ⟨_, rfl⟩
    have hb := R.root_bd n h0
    rw [hr] at hb hO
    obtain ⟨b1, b2, _⟩ := hb
    have hmx : max 2 r = O := by rw [← hO]; split <;> omega
    have HR := Lib.hid hr
    clear hr hO
    go_enter Try.func14, Try.ntmps14
    go_wp2_with fail
    refine (imay_any _ _ h0 h1).mono ?_
    rintro e w' ⟨rfl, rfl⟩
    go_wp2_with fail
    refine (iroot_any _ _ (by omega) (by omega)).mono ?_
    rintro e w' ⟨rfl, rfl⟩
    rw [HR.out]
    go_wp2
    go_ret
    exact ⟨ret_int (by first | rfl | omega), rfl⟩
theorem isize_any (w : World) (n i : Int) (h0 : 2 ≤ n) (h1 : n ≤ 16384) (i0 : 0 ≤ i) (i1 : i < R.degree n) :
    Calls Try.prog 45 #[.int .i64 n, .int .i64 i] w fun e w' => e = .returned (.int .i64 (R.psize n i)) ∧ w = w' := by
  obtain ⟨d, Q, r, hd, hQ, hr, hQ', hr', d1, d2, d3, q1, q2, r1, r2, _, _⟩ := R.parted n h0 h1
  have hp : R.psize n i = if i < r then Q + 1 else Q := by unfold R.psize; rw [hd, if_neg (by omega), hQ, hr]
  rw [hp]
  rw [hd] at i1
  have HD := Lib.hid hd
  have hne : d ≠ 0 := by omega
  clear hp hd hQ hr
  rcases Int.lt_or_le i r with h | h
  · rw [if_pos h]
    go_enter Try.func45, Try.ntmps45
    go_wp2_with fail
    refine (idegree_any _ _ (by omega) h1).mono ?_
    rintro e w' ⟨rfl, rfl⟩
    rw [HD.out]
    go_wp2
    go_ret
    exact ⟨ret_int (by first | rfl | omega), rfl⟩
  · rw [if_neg (by omega)]
    go_enter Try.func45, Try.ntmps45
    go_wp2_with fail
    refine (idegree_any _ _ (by omega) h1).mono ?_
    rintro e w' ⟨rfl, rfl⟩
    rw [HD.out]
    go_wp2
    go_ret
    exact ⟨ret_int (by first | rfl | omega), rfl⟩
theorem ifrom_any (w : World) (n i : Int) (h0 : 2 ≤ n) (h1 : n ≤ 16384) (i0 : 0 ≤ i) (i1 : i < R.degree n) :
    Calls Try.prog 44 #[.int .i64 n, .int .i64 i] w fun e w' => e = .returned (.int .i64 (R.pfrom n i)) ∧ ∃ m, w' = w.drewN m := by
  obtain ⟨d, Q, r, hd, hQ, hr, hQ', hr', d1, d2, d3, q1, q2, r1, r2, _, _⟩ := R.parted n h0 h1
  have hp : R.pfrom n i = Q * i + min i r := by unfold R.pfrom; rw [hd, if_neg (by omega), hQ, hr]
  rw [hp]
  rw [hd] at i1
  have HD := Lib.hid hd
  have hne : d ≠ 0 := by omega
  obtain ⟨p, hpp⟩ : ∃ p, Q * i = p := ⟨_, rfl⟩
  have p1 : 0 ≤ p := by rw [← hpp]; exact Int.mul_nonneg q1 i0
  have p2 : p ≤ 8192 * 256 := by rw [← hpp]; exact Int.mul_le_mul q2 (by omega) i0 (by omega)
  obtain ⟨m, hm⟩ : ∃ m, min i r = m := ⟨_, rfl⟩
  have m1 : 0 ≤ m := by omega
  have m2 : m ≤ 256 := by omega
  have e3 : IntKind.i64.wrap p = p := by rw [IntKind.wrap_i64]; omega
  have e4 : IntKind.i64.wrap (p + m) = p + m := by rw [IntKind.wrap_i64]; omega
  have e5 : IntKind.i64.wrap Q = Q := by rw [IntKind.wrap_i64]; omega
  have e6 : IntKind.i64.wrap r = r := by rw [IntKind.wrap_i64]; omega
  rw [hpp, hm]
  clear hp hd hQ hr
  go_enter Try.func44, Try.ntmps44
  go_wp2_with fail
  refine (idegree_any _ _ (by omega) h1).mono ?_
  rintro e w' ⟨rfl, rfl⟩
  rw [HD.out]
  go_wp2_with fail
  go_quiet (fail)
  go_wp2
  go_ret
  exact ⟨rfl, _, rfl⟩
end Go.Proofs.Ytilkkfpfcegncaa
