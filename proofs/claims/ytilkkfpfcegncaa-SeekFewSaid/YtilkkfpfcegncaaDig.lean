/- Division of two words by one: the numbers. -/
import Derived.Test.YtilkkfpfcegncaaBase
import Derived.Test.YtilkkfpfcegncaaNum
import Derived.Lib.ItoaNum
set_option linter.unusedVariables false
namespace Go.Proofs.Ytilkkfpfcegncaa
open Go.RowKit

namespace R
/-- A digit of a quotient on its way: q at least the digit, r what is left of the first word by the divisor's upper half. -/
def Dig (U u1 yn1 Y q r : Int) : Prop := q * yn1 + r = U ∧ (U * 4294967296 + u1) / Y ≤ q ∧ q ≤ 4294967297 ∧ 0 ≤ q ∧ 0 ≤ r
/-- What the numbers are. -/
structure Nrm (U u1 yn1 yn0 Y : Int) : Prop where
  hy : Y = yn1 * 4294967296 + yn0
  hn0 : 0 ≤ yn0
  hn0' : yn0 ≤ 4294967295
  hn1 : 2147483648 ≤ yn1
  hn1' : yn1 ≤ 4294967295
  hu0 : 0 ≤ U
  hu : U < Y
  hu1 : 0 ≤ u1
  hu1' : u1 ≤ 4294967295
theorem digit_lt {U u1 yn1 yn0 Y : Int} (N : Nrm U u1 yn1 yn0 Y) : (U * 4294967296 + u1) / Y ≤ 4294967295 ∧ 0 ≤ (U * 4294967296 + u1) / Y := by
  have h1 := N.hu; have h2 := N.hu0; have h3 := N.hu1; have h4 := N.hu1'
  have hY : 0 < Y := by omega
  refine ⟨?_, Int.ediv_nonneg (by omega) (by omega)⟩
  have : (U * 4294967296 + u1) / Y < 4294967296 := Int.ediv_lt_of_lt_mul hY (by omega)
  omega
theorem digit_start {U u1 yn1 yn0 Y : Int} (N : Nrm U u1 yn1 yn0 Y) : Dig U u1 yn1 Y (U / yn1) (U - U / yn1 * yn1) ∧ U - U / yn1 * yn1 ≤ 4294967295 ∧ 0 ≤ U / yn1 * yn1 ∧ U / yn1 * yn1 ≤ U := by
  have h1 := N.hu; have h2 := N.hu0; have h3 := N.hu1; have h4 := N.hu1'; have h5 := N.hn1; have h6 := N.hn1'; have h7 := N.hn0; have h8 := N.hn0'; have h9 := N.hy
  have hY : 0 < Y := by omega
  have e1 := Int.mul_ediv_add_emod U yn1
  have e2 := Int.emod_nonneg U (by omega : yn1 ≠ 0)
  have e3 := Int.emod_lt_of_pos U (by omega : 0 < yn1)
  have e4 : 0 ≤ U / yn1 := Int.ediv_nonneg h2 (by omega)
  have e5 : 0 ≤ U / yn1 * yn1 := Int.mul_nonneg e4 (by omega)
  rw [Int.mul_comm] at e1
  refine ⟨⟨by omega, ?_, ?_, e4, by omega⟩, by omega, e5, by omega⟩
  · have q0 : (U * 4294967296 + u1) / Y * Y ≤ U * 4294967296 + u1 := Int.ediv_mul_le _ (by omega)
    have q1 := (digit_lt N).2
    generalize (U * 4294967296 + u1) / Y = Q at *
    have q2 : Q * Y = Q * yn1 * 4294967296 + Q * yn0 := by rw [h9]; grind
    have q3 : 0 ≤ Q * yn0 := Int.mul_nonneg q1 h7
    have q4 : Q * yn1 ≤ U := by omega
    exact (Int.le_ediv_iff_mul_le (by omega)).2 q4
  · have : U / yn1 < 4294967298 := Int.ediv_lt_of_lt_mul (by omega) (by omega)
    omega
theorem digit_mul {U u1 yn1 yn0 Y q r : Int} (N : Nrm U u1 yn1 yn0 Y) (D : Dig U u1 yn1 Y q r) : q * Y = (U - r) * 4294967296 + q * yn0 ∧ 0 ≤ q * yn0 ∧ q * yn0 ≤ 18446744073709551615 := by
  obtain ⟨d1, d2, d3, d4, d5⟩ := D
  have h7 := N.hn0; have h8 := N.hn0'
  refine ⟨by rw [N.hy]; grind, Int.mul_nonneg d4 h7, ?_⟩
  have := Int.mul_le_mul d3 h8 h7 (by omega)
  omega
theorem digit_stop {U u1 yn1 yn0 Y q r : Int} (N : Nrm U u1 yn1 yn0 Y) (D : Dig U u1 yn1 Y q r) (h : q * yn0 ≤ 4294967296 * r + u1) : q = (U * 4294967296 + u1) / Y := by
  obtain ⟨m1, m2, m3⟩ := digit_mul N D
  have h1 := N.hu; have h2 := N.hu0
  have : q ≤ (U * 4294967296 + u1) / Y := (Int.le_ediv_iff_mul_le (by omega)).2 (by omega)
  have := D.2.1
  omega
theorem digit_down {U u1 yn1 yn0 Y q r : Int} (N : Nrm U u1 yn1 yn0 Y) (D : Dig U u1 yn1 Y q r) (h : 4294967296 ≤ q ∨ 4294967296 * r + u1 < q * yn0) : Dig U u1 yn1 Y (q - 1) (r + yn1) ∧ 1 ≤ q := by
  obtain ⟨m1, m2, m3⟩ := digit_mul N D
  have h1 := N.hu; have h2 := N.hu0; have h5 := N.hn1
  have hQ := digit_lt N
  have : (U * 4294967296 + u1) / Y < q := by
    rcases h with h | h
    · omega
    · exact Int.ediv_lt_of_lt_mul (by omega) (by omega)
  obtain ⟨d1, d2, d3, d4, d5⟩ := D
  refine ⟨⟨by grind, by omega, by omega, by omega, by omega⟩, by omega⟩
theorem digit_break {U u1 yn1 yn0 Y q r : Int} (N : Nrm U u1 yn1 yn0 Y) (D : Dig U u1 yn1 Y q r) (hq : q ≤ 4294967296) (hr : 4294967296 ≤ r) : q = (U * 4294967296 + u1) / Y := by
  refine digit_stop N D ?_
  have h7 := N.hn0; have h8 := N.hn0'; have := N.hu1
  have := Int.mul_le_mul hq h8 h7 (by omega)
  omega
/-- The remainder behind a digit. -/
theorem digit_rest {U u1 yn1 yn0 Y : Int} (N : Nrm U u1 yn1 yn0 Y) (u0 : Int) (a : 0 ≤ u0) (b : u0 ≤ 4294967295) :
    Nrm (U * 4294967296 + u1 - (U * 4294967296 + u1) / Y * Y) u0 yn1 yn0 Y ∧
    (U * 4294967296 + u1) / Y * 4294967296 + ((U * 4294967296 + u1 - (U * 4294967296 + u1) / Y * Y) * 4294967296 + u0) / Y = ((U * 4294967296 + u1) * 4294967296 + u0) / Y := by
  have h1 := N.hu; have h2 := N.hu0
  have e1 := Int.mul_ediv_add_emod (U * 4294967296 + u1) Y
  have e2 := Int.emod_nonneg (U * 4294967296 + u1) (by omega : Y ≠ 0)
  have e3 := Int.emod_lt_of_pos (U * 4294967296 + u1) (by omega : 0 < Y)
  rw [Int.mul_comm] at e1
  refine ⟨⟨N.hy, N.hn0, N.hn0', N.hn1, N.hn1', by omega, by omega, a, b⟩, ?_⟩
  generalize (U * 4294967296 + u1) / Y = Q at *
  have : (U * 4294967296 + u1) * 4294967296 + u0 = ((U * 4294967296 + u1 - Q * Y) * 4294967296 + u0) + (Q * 4294967296) * Y := by grind
  rw [this, Int.add_mul_ediv_right _ _ (by omega)]
  omega

theorem ofInt_u64 (n : Nat) (h : n < 18446744073709551616) : (BitVec.ofInt 64 (n : Int)).toNat = n := by
  rw [BitVec.ofInt_natCast, BitVec.toNat_ofNat]; exact Nat.mod_eq_of_lt (by simpa using h)
theorem mask_u64 (a : Int) (h0 : 0 ≤ a) (h1 : a ≤ 18446744073709551615) : bits BinOp.and IntKind.u64 a 4294967295 = a % 4294967296 := by
  obtain ⟨a, rfl⟩ := Int.eq_ofNat_of_zero_le h0
  show IntKind.u64.wrap ((BitVec.ofInt 64 (a : Int) &&& BitVec.ofInt 64 (4294967295 : Int)).toNat : Int) = _
  have h3 : (BitVec.ofInt 64 (4294967295 : Int)).toNat = 4294967295 := by decide
  rw [BitVec.toNat_and, h3, ofInt_u64 a (by omega)]
  have := Nat.and_two_pow_sub_one_eq_mod a 32
  rw [show (2 ^ 32 - 1 : Nat) = 4294967295 from rfl, show (2 ^ 32 : Nat) = 4294967296 from rfl] at this
  rw [this, IntKind.wrap_u64]
  omega
theorem or_u64 (a b s : Nat) (hb : b < 2 ^ s) (h : a * 2 ^ s + b < 18446744073709551616) : bits BinOp.or IntKind.u64 ((a * 2 ^ s : Nat) : Int) (b : Int) = ((a * 2 ^ s + b : Nat) : Int) := by
  show IntKind.u64.wrap ((BitVec.ofInt 64 ((a * 2 ^ s : Nat) : Int) ||| BitVec.ofInt 64 (b : Int)).toNat : Int) = _
  have h3 : a * 2 ^ s ||| b = a * 2 ^ s + b := by
    have := Nat.shiftLeft_add_eq_or_of_lt hb a
    rw [Nat.shiftLeft_eq] at this
    exact this.symm
  rw [BitVec.toNat_or, ofInt_u64 _ (by omega), ofInt_u64 _ (by omega), h3, IntKind.wrap_u64]
  omega

/-- What the words are, moved so that the divisor's first bit is set. -/
theorem norm_of (hi lo y : Int) (s : Nat) (h0 : 0 ≤ hi) (hy : hi < y) (l0 : 0 ≤ lo) (l1 : lo ≤ 18446744073709551615) (s1 : s ≤ 63) (y1 : 9223372036854775808 ≤ y * 2 ^ s) (y2 : y * 2 ^ s ≤ 18446744073709551615) :
    ∃ Y U yn1 yn0 L u1 u0 : Int, IntKind.u64.wrap (y * 2 ^ s) = Y ∧ bits BinOp.or IntKind.u64 (IntKind.u64.wrap (hi * 2 ^ s)) (lo / 2 ^ (64 - s)) = U ∧ Y / 4294967296 = yn1 ∧ bits BinOp.and IntKind.u64 Y 4294967295 = yn0 ∧
      IntKind.u64.wrap (lo * 2 ^ s) = L ∧ L / 4294967296 = u1 ∧ bits BinOp.and IntKind.u64 L 4294967295 = u0 ∧ 0 ≤ L ∧ L ≤ 18446744073709551615 ∧ Nrm U u1 yn1 yn0 Y ∧ 0 ≤ u0 ∧ u0 ≤ 4294967295 ∧ (hi * 18446744073709551616 + lo) / y = ((U * 4294967296 + u1) * 4294967296 + u0) / Y := by
  have e1 : IntKind.u64.wrap (y * 2 ^ s) = y * 2 ^ s := by rw [IntKind.wrap_u64]; exact Int.emod_eq_of_lt (by omega) (by omega)
  obtain ⟨y, rfl⟩ := Int.eq_ofNat_of_zero_le (by omega : 0 ≤ y)
  obtain ⟨hi, rfl⟩ := Int.eq_ofNat_of_zero_le h0
  obtain ⟨lo, rfl⟩ := Int.eq_ofNat_of_zero_le l0
  have hP : (1 : Nat) ≤ 2 ^ s := Nat.one_le_two_pow
  have hPQ : 2 ^ s * 2 ^ (64 - s) = 18446744073709551616 := by rw [← Nat.pow_add, show s + (64 - s) = 64 from by omega]
  have cP : ((2 : Int) ^ s) = ((2 ^ s : Nat) : Int) := by simp
  have cQ : ((2 : Int) ^ (64 - s)) = ((2 ^ (64 - s) : Nat) : Int) := by simp
  have hQ : (1 : Nat) ≤ 2 ^ (64 - s) := Nat.one_le_two_pow
  rw [cP] at e1 y1 y2
  rw [cP, cQ]
  have hb : lo / 2 ^ (64 - s) < 2 ^ s := by
    rw [Nat.div_lt_iff_lt_mul (by omega), hPQ]; omega
  have m1 : lo = 2 ^ (64 - s) * (lo / 2 ^ (64 - s)) + lo % 2 ^ (64 - s) := (Nat.div_add_mod _ _).symm
  have m2 : lo % 2 ^ (64 - s) < 2 ^ (64 - s) := Nat.mod_lt _ (by omega)
  have m3 : lo % 2 ^ (64 - s) * 2 ^ s < 18446744073709551616 := by
    rw [← hPQ, Nat.mul_comm (2 ^ s)]
    exact Nat.mul_lt_mul_of_pos_right m2 (by omega)
  have m4 : lo * 2 ^ s = 18446744073709551616 * (lo / 2 ^ (64 - s)) + lo % 2 ^ (64 - s) * 2 ^ s := by
    rw [← hPQ]
    conv => lhs; rw [m1]
    grind
  have hyN : y * 2 ^ s < 18446744073709551616 := by omega
  have hhi : hi * 2 ^ s + 2 ^ s ≤ y * 2 ^ s := by
    have : hi + 1 ≤ y := by omega
    have := Nat.mul_le_mul_right (2 ^ s) this
    rwa [Nat.add_mul, Nat.one_mul] at this
  have e2 := or_u64 hi (lo / 2 ^ (64 - s)) s hb (by omega)
  have e3 : IntKind.u64.wrap ((hi : Int) * ((2 ^ s : Nat) : Int)) = ((hi * 2 ^ s : Nat) : Int) := by rw [IntKind.wrap_u64]; omega
  have e4 : IntKind.u64.wrap ((lo : Int) * ((2 ^ s : Nat) : Int)) = ((lo % 2 ^ (64 - s) * 2 ^ s : Nat) : Int) := by rw [IntKind.wrap_u64]; omega
  have e5 : ((lo : Int) / ((2 ^ (64 - s) : Nat) : Int)) = ((lo / 2 ^ (64 - s) : Nat) : Int) := by simp
  have e6 : ((hi : Int) * 18446744073709551616 + (lo : Int)) / (y : Int) = (((hi : Int) * 18446744073709551616 + (lo : Int)) * ((2 ^ s : Nat) : Int)) / ((y : Int) * ((2 ^ s : Nat) : Int)) := by
    rw [Int.mul_ediv_mul_of_pos_left _ _ (by omega)]
  refine ⟨_, _, _, _, _, _, _, rfl, rfl, rfl, rfl, rfl, rfl, rfl, ?_⟩
  rw [e1, e3, e5, e2, e4, e6]
  have k1 := mask_u64 ((lo % 2 ^ (64 - s) * 2 ^ s : Nat) : Int) (by omega) (by omega)
  have k2 := mask_u64 ((y : Int) * ((2 ^ s : Nat) : Int)) (by omega) (by omega)
  rw [k1, k2]
  have f1 : ((hi : Int) * 18446744073709551616 + (lo : Int)) * ((2 ^ s : Nat) : Int) = (((hi * 2 ^ s + lo / 2 ^ (64 - s) : Nat) : Int) * 4294967296 + ((lo % 2 ^ (64 - s) * 2 ^ s : Nat) : Int) / 4294967296) * 4294967296 + ((lo % 2 ^ (64 - s) * 2 ^ s : Nat) : Int) % 4294967296 := by
    have : (((hi * 18446744073709551616 + lo) * 2 ^ s : Nat) : Int) = ((hi : Int) * 18446744073709551616 + (lo : Int)) * ((2 ^ s : Nat) : Int) := by simp
    rw [← this, Nat.add_mul, m4]
    have : hi * 18446744073709551616 * 2 ^ s = 18446744073709551616 * (hi * 2 ^ s) := by grind
    omega
  rw [f1]
  have g1 : ((y : Int) * ((2 ^ s : Nat) : Int)) = ((y * 2 ^ s : Nat) : Int) := by simp
  rw [g1] at y1 y2 ⊢
  refine ⟨by omega, by omega, ⟨by omega, by omega, by omega, by omega, by omega, by omega, by omega, by omega, by omega⟩, by omega, by omega, rfl⟩
theorem bitLen_norm (y : Int) (h0 : 1 ≤ y) (h1 : y ≤ 18446744073709551615) : ∃ s : Nat, (64 : Int) - (Lib.bitLen y.toNat : Int) = (s : Int) ∧ s ≤ 63 ∧ 9223372036854775808 ≤ y * 2 ^ s ∧ y * 2 ^ s ≤ 18446744073709551615 := by
  obtain ⟨y, rfl⟩ := Int.eq_ofNat_of_zero_le (by omega : 0 ≤ y)
  obtain ⟨a, b, c⟩ := Lib.bitLenAux_bounds 64 y (by omega) (by omega)
  have d : Lib.bitLen y ≤ 64 := Lib.bitLen_le y 64 (Nat.le_refl _) (by omega)
  show ∃ s : Nat, (64 : Int) - (Lib.bitLen y : Int) = (s : Int) ∧ _
  have e : Lib.bitLen y = Lib.bitLenAux 64 y := rfl
  rw [← e] at a b c
  generalize Lib.bitLen y = L at *
  refine ⟨64 - L, by omega, by omega, ?_, ?_⟩
  · have h := Nat.mul_le_mul_right (2 ^ (64 - L)) b
    rw [← Nat.pow_add, show L - 1 + (64 - L) = 63 from by omega] at h
    have : ((y * 2 ^ (64 - L) : Nat) : Int) = (y : Int) * 2 ^ (64 - L) := by simp
    rw [← this]
    have h63 : (2 : Nat) ^ 63 = 9223372036854775808 := rfl
    omega
  · have h := Nat.mul_lt_mul_of_pos_right c (show 0 < 2 ^ (64 - L) from Nat.two_pow_pos _)
    rw [← Nat.pow_add, show L + (64 - L) = 64 from by omega] at h
    have : ((y * 2 ^ (64 - L) : Nat) : Int) = (y : Int) * 2 ^ (64 - L) := by simp
    rw [← this]
    have h64 : (2 : Nat) ^ 64 = 18446744073709551616 := rfl
    omega
end R
end Go.Proofs.Ytilkkfpfcegncaa
