/- Plain mathematics of slices and bits: no program in sight. -/
import Derived.Test.YtagfghihnkkfiaaPlain
namespace Go.Proofs.Ytagfghihnkkfiaa
set_option linter.unusedVariables false
set_option linter.unusedSimpArgs false
open Go.RowKit

theorem slN_bit (h l i : Nat) : (slN h l).testBit i = (decide (i < 6) && h.testBit (6 * l + i)) := by
  unfold slN
  rw [show (64 : Nat) ^ l = 2 ^ (6 * l) by rw [Nat.pow_mul], show (64 : Nat) = 2 ^ 6 from rfl, Nat.testBit_mod_two_pow, Nat.testBit_div_two_pow, Nat.add_comm i]
theorem wrap_u64_nat (a : Nat) (h : a < 18446744073709551616) : IntKind.u64.wrap (a : Int) = (a : Int) := by
  rw [IntKind.wrap_u64]; omega
theorem pow_lt64 (j : Nat) (hj : j < 64) : 2 ^ j < 18446744073709551616 := by
  have := Nat.pow_lt_pow_right (a := 2) (by decide) hj
  simpa using this
theorem xor_ne (H j : Nat) : slN H (j / 6) ≠ slN (H ^^^ 2 ^ j) (j / 6) := by
  intro he
  have e := congrArg (fun x => x.testBit (j % 6)) he
  simp only [slN_bit, Nat.testBit_xor, Nat.testBit_two_pow] at e
  rw [show 6 * (j / 6) + j % 6 = j by omega] at e
  have h6 : j % 6 < 6 := by omega
  simp [h6] at e
theorem xor_eq (H j l : Nat) (hl : l < j / 6) : slN H l = slN (H ^^^ 2 ^ j) l := by
  apply Nat.eq_of_testBit_eq
  intro i
  simp only [slN_bit, Nat.testBit_xor, Nat.testBit_two_pow]
  by_cases hi : i < 6
  · have : ¬ j = 6 * l + i := by omega
    simp [this]
  · simp [hi]
theorem xor_walk (H K : Nat) (h1 : H < 18446744073709551616) : bits .xor .u64 (H : Int) (IntKind.u64.wrap (2 ^ (((K : Int) % 64)).toNat)) = ((H ^^^ 2 ^ (K % 64) : Nat) : Int) := by
  have e : ((K : Int) % 64).toNat = K % 64 := by omega
  have hp := pow_lt64 (K % 64) (by omega)
  rw [e, show ((2 : Int) ^ (K % 64)) = ((2 ^ (K % 64) : Nat) : Int) by simp, wrap_u64_nat _ hp, bits_xor_u64_nat _ _ h1 hp]
theorem xor_bd (h k : Int) (h0 : 0 ≤ h) (h1 : h ≤ 18446744073709551615) (k0 : 0 ≤ k) :
    0 ≤ bits .xor .u64 h (IntKind.u64.wrap (2 ^ (k % 64).toNat)) ∧ bits .xor .u64 h (IntKind.u64.wrap (2 ^ (k % 64).toNat)) ≤ 18446744073709551615 := by
  obtain ⟨H, rfl⟩ := Int.eq_ofNat_of_zero_le h0
  obtain ⟨K, rfl⟩ := Int.eq_ofNat_of_zero_le k0
  rw [xor_walk H K (by omega)]
  have := pow_lt64 (K % 64) (by omega)
  have hx : H ^^^ 2 ^ (K % 64) < 2 ^ 64 := Nat.xor_lt_two_pow (by omega) (by omega)
  omega
theorem xor_cm (h k : Int) (h0 : 0 ≤ h) (h1 : h ≤ 18446744073709551615) (k0 : 0 ≤ k) :
    cm h (bits .xor .u64 h (IntKind.u64.wrap (2 ^ (k % 64).toNat))) = k % 64 / 6 := by
  obtain ⟨H, rfl⟩ := Int.eq_ofNat_of_zero_le h0
  obtain ⟨K, rfl⟩ := Int.eq_ofNat_of_zero_le k0
  rw [xor_walk H K (by omega)]
  unfold cm
  rw [cmFrom_uniq _ _ 11 0 (K % 64 / 6) (by omega) (by omega) ?_ ?_]
  · omega
  · intro j _ hj
    rw [sl_in _ _ (by omega) (by omega), sl_in _ _ (by omega) (by omega)]
    exact congrArg _ (xor_eq H (K % 64) j hj)
  · intro _
    rw [sl_in _ _ (by omega) (by omega), sl_in _ _ (by omega) (by omega)]
    intro he
    have he' := Int.ofNat.inj he
    rw [show ((K % 64 / 6 : Nat) : Int).toNat = K % 64 / 6 from rfl] at he'
    exact xor_ne H (K % 64) he'

theorem or_u64_nat (a b : Nat) (ha : a < 18446744073709551616) (hb : b < 18446744073709551616) : bits .or .u64 (a : Int) (b : Int) = ((a ||| b : Nat) : Int) := by
  have hx : a ||| b < 2 ^ 64 := Nat.or_lt_two_pow (by omega) (by omega)
  have h1 : (BitVec.ofInt 64 (a : Int)).toNat = a := by
    rw [BitVec.ofInt_natCast, BitVec.toNat_ofNat]; exact Nat.mod_eq_of_lt (by omega)
  have h2 : (BitVec.ofInt 64 (b : Int)).toNat = b := by
    rw [BitVec.ofInt_natCast, BitVec.toNat_ofNat]; exact Nat.mod_eq_of_lt (by omega)
  show IntKind.u64.wrap ((BitVec.ofInt 64 (a : Int) ||| BitVec.ofInt 64 (b : Int)).toNat : Int) = _
  rw [BitVec.toNat_or, h1, h2, IntKind.wrap_u64]
  omega

/-- what is rebuilt before level j -/
def up (h j : Int) : Int := ((h.toNat / 64 ^ (j + 1).toNat : Nat) : Int)
theorem up_start (h : Int) (h0 : 0 ≤ h) (h1 : h ≤ 18446744073709551615) : up h 10 = 0 := by
  unfold up
  rw [Nat.div_eq_of_lt]
  · rfl
  · have : (64 : Nat) ^ ((10 : Int) + 1).toNat = 73786976294838206464 := by decide
    omega
theorem up_end (h j : Int) (h0 : 0 ≤ h) (hj : j = -1) : up h j = h := by
  subst hj; unfold up; simp; omega
theorem up_bd (h j : Int) (h0 : 0 ≤ h) (h1 : h ≤ 18446744073709551615) : 0 ≤ up h j ∧ up h j ≤ 18446744073709551615 := by
  unfold up
  have := Nat.div_le_self h.toNat (64 ^ (j + 1).toNat)
  generalize h.toNat / 64 ^ (j + 1).toNat = q at this ⊢
  omega
theorem up_step (h j : Int) (h0 : 0 ≤ h) (h1 : h ≤ 18446744073709551615) (j0 : 0 ≤ j) (j1 : j ≤ 10) :
    bits .or .u64 (IntKind.u64.wrap (up h j * 64)) (sl h j) = up h (j - 1) := by
  obtain ⟨H, rfl⟩ := Int.eq_ofNat_of_zero_le h0
  obtain ⟨J, rfl⟩ := Int.eq_ofNat_of_zero_le j0
  rw [sl_in _ _ (by omega) (by omega)]
  unfold up slN
  rw [show ((J : Int) + 1).toNat = J + 1 by omega, show ((J : Int) - 1 + 1).toNat = J by omega, show (H : Int).toNat = H by omega, show (J : Int).toNat = J by omega, Nat.pow_succ, ← Nat.div_div_eq_div_mul]
  have hq : H / 64 ^ J ≤ H := Nat.div_le_self _ _
  generalize H / 64 ^ J = q at hq ⊢
  rw [show ((q / 64 : Nat) : Int) * 64 = ((q / 64 * 64 : Nat) : Int) by omega, wrap_u64_nat _ (by omega), or_u64_nat _ _ (by omega) (by omega)]
  have := Nat.two_pow_add_eq_or_of_lt (i := 6) (b := q % 64) (by omega) (q / 64)
  rw [Nat.mul_comm (q / 64) 64, show (64 : Nat) = 2 ^ 6 from rfl] at *
  rw [← this]
  omega

theorem hashM_bd (l : List UInt8) (m : Int) : 0 ≤ hashM l m ∧ hashM l m ≤ 18446744073709551615 := by
  unfold hashM
  have h1 := hashN_lt l
  have h2 : hashN l &&& m.toNat ≤ hashN l := Nat.and_le_left
  omega
theorem hashM_and (l : List UInt8) (m n : Int) (m0 : 0 ≤ m) (m1 : m ≤ 18446744073709551615) (n0 : 0 ≤ n) (n1 : n ≤ 18446744073709551615) :
    bits .and .u64 (hashM l m) n = hashM l (bits .and .u64 m n) := by
  obtain ⟨M, rfl⟩ := Int.eq_ofNat_of_zero_le m0
  obtain ⟨N, rfl⟩ := Int.eq_ofNat_of_zero_le n0
  rw [and_u64_nat M N (by omega) (by omega)]
  unfold hashM
  rw [and_u64_nat _ N (by have h1 := hashN_lt l; have h2 : hashN l &&& (M : Int).toNat ≤ hashN l := Nat.and_le_left; omega) (by omega)]
  rw [show ((M &&& N : Nat) : Int).toNat = M &&& N from rfl, show (M : Int).toNat = M from rfl, Nat.and_assoc]
theorem and_bd (m n : Int) (m0 : 0 ≤ m) (m1 : m ≤ 18446744073709551615) (n0 : 0 ≤ n) (n1 : n ≤ 18446744073709551615) :
    0 ≤ bits .and .u64 m n ∧ bits .and .u64 m n ≤ 18446744073709551615 := by
  obtain ⟨M, rfl⟩ := Int.eq_ofNat_of_zero_le m0
  obtain ⟨N, rfl⟩ := Int.eq_ofNat_of_zero_le n0
  rw [and_u64_nat M N (by omega) (by omega)]
  have : M &&& N ≤ M := Nat.and_le_left
  omega
/-- the mask of a slice -/
theorem one_nat (L : Nat) (hL : L < 10) : IntKind.u64.wrap (63 * 2 ^ (6 * (L : Int)).toNat) = ((63 * 2 ^ (6 * L) : Nat) : Int) ∧ 63 * 2 ^ (6 * L) < 18446744073709551616 := by
  have e : (6 * (L : Int)).toNat = 6 * L := by omega
  have hp : 2 ^ (6 * L) ≤ 2 ^ 54 := Nat.pow_le_pow_right (by decide) (by omega)
  have hb : 63 * 2 ^ (6 * L) < 18446744073709551616 := by omega
  refine ⟨?_, hb⟩
  rw [e, show ((63 : Int) * 2 ^ (6 * L)) = ((63 * 2 ^ (6 * L) : Nat) : Int) by simp]
  exact wrap_u64_nat _ hb
theorem one_bd (l : Int) (l0 : 0 ≤ l) (l1 : l < 10) : 0 ≤ IntKind.u64.wrap (63 * 2 ^ (6 * l).toNat) ∧ IntKind.u64.wrap (63 * 2 ^ (6 * l).toNat) ≤ 18446744073709551615 := by
  obtain ⟨L, rfl⟩ := Int.eq_ofNat_of_zero_le l0
  obtain ⟨e, b⟩ := one_nat L (by omega)
  rw [e]; omega
theorem bit63 (i : Nat) : (63 : Nat).testBit i = decide (i < 6) := by
  rw [show (63 : Nat) = 2 ^ 6 - 1 from rfl, Nat.testBit_two_pow_sub_one]
theorem slN_one (H L : Nat) : slN (H &&& 63 * 2 ^ (6 * L)) L = slN H L := by
  apply Nat.eq_of_testBit_eq
  intro i
  simp only [slN_bit, Nat.testBit_and, Nat.testBit_mul_two_pow, bit63]
  by_cases hi : i < 6
  · rw [show 6 * L + i - 6 * L = i by omega]; simp [hi]
  · simp [hi]
theorem slN_next (H L : Nat) : slN (H &&& 63 * 2 ^ (6 * L)) (L + 1) = 0 := by
  apply Nat.eq_of_testBit_eq
  intro i
  simp only [slN_bit, Nat.testBit_and, Nat.testBit_mul_two_pow, bit63, Nat.zero_testBit]
  rw [show 6 * (L + 1) + i - 6 * L = 6 + i by omega]
  simp
theorem hashM_all (l : List UInt8) : hashM l 18446744073709551615 = hashI l := by
  unfold hashM hashI
  rw [show (18446744073709551615 : Int).toNat = 2 ^ 64 - 1 from rfl, Nat.and_two_pow_sub_one_eq_mod, Nat.mod_eq_of_lt (by have := hashN_lt l; omega)]
theorem one_slice (b : List UInt8) (l : Int) (l0 : 0 ≤ l) (l1 : l < 10) :
    sl (hashM b (IntKind.u64.wrap (63 * 2 ^ (6 * l).toNat))) l = sl (hashM b 18446744073709551615) l := by
  rw [hashM_all]
  obtain ⟨L, rfl⟩ := Int.eq_ofNat_of_zero_le l0
  obtain ⟨e, _⟩ := one_nat L (by omega)
  rw [e, sl_in _ _ (by omega) (by omega), sl_in _ _ (by omega) (by omega)]
  unfold hashM hashI
  exact congrArg _ (slN_one (hashN b) L)
theorem one_next (b : List UInt8) (l : Int) (l0 : 0 ≤ l) (l1 : l < 10) :
    sl (hashM b (IntKind.u64.wrap (63 * 2 ^ (6 * l).toNat))) (l + 1) = 0 := by
  obtain ⟨L, rfl⟩ := Int.eq_ofNat_of_zero_le l0
  obtain ⟨e, _⟩ := one_nat L (by omega)
  rw [e, sl_in _ _ (by omega) (by omega)]
  unfold hashM
  rw [show ((L : Int) + 1).toNat = L + 1 by omega]
  exact congrArg _ (slN_next (hashN b) L)
end Go.Proofs.Ytagfghihnkkfiaa
