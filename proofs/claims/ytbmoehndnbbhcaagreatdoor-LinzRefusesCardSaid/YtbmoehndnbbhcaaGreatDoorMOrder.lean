/- Plain mathematics of the hash values: no program in sight. Plain mathematics of slices and bits: no program in sight. Plain mathematics of the order of keys: no program in sight. -/
import Derived.WalkKit
import Derived.Lib.Strings
namespace Go.Proofs.YtbmoehndnbbhcaaGreatDoor
set_option linter.unusedVariables false
set_option linter.unusedSimpArgs false
open Go.RowKit

/-- one step of the hash -/
def stepN (h : Nat) (c : UInt8) : Nat := ((h ^^^ c.toNat) * 1099511628211) % 18446744073709551616
def hashN (l : List UInt8) : Nat := l.foldl stepN 14695981039346656037
def hashI (l : List UInt8) : Int := (hashN l : Nat)
def hashM (l : List UInt8) (m : Int) : Int := ((hashN l &&& m.toNat : Nat) : Int)

theorem stepN_lt (h : Nat) (c : UInt8) : stepN h c < 18446744073709551616 := Nat.mod_lt _ (by decide)
theorem foldl_lt (l : List UInt8) : ∀ h, h < 18446744073709551616 → l.foldl stepN h < 18446744073709551616 := by
  induction l with
  | nil => intro h hh; exact hh
  | cons c r ih => intro h _; exact ih _ (stepN_lt h c)
theorem hashN_lt (l : List UInt8) : hashN l < 18446744073709551616 := foldl_lt l _ (by decide)
theorem foldl_snoc (f : Nat → UInt8 → Nat) (a : Nat) (l : List UInt8) (c : UInt8) : (l ++ [c]).foldl f a = f (l.foldl f a) c := by rw [List.foldl_append, List.foldl_cons, List.foldl_nil]
theorem hashN_snoc (l : List UInt8) (c : UInt8) : hashN (l ++ [c]) = stepN (hashN l) c := foldl_snoc _ _ l c

theorem take_snoc (s : ByteArray) (k : Nat) (h : k < s.size) : s.data.toList.take (k + 1) = s.data.toList.take k ++ [s[k]] := by
  rw [List.take_succ_eq_append_getElem (by simpa using h)]; rfl

theorem hashI_step (l : List UInt8) (c : UInt8) : IntKind.u64.wrap (bits .xor .u64 (hashI l) (c.toNat : Int) * 1099511628211) = hashI (l ++ [c]) := by
  unfold hashI
  rw [bits_xor_u64_nat _ _ (hashN_lt l) (by have := c.toNat_lt; omega), IntKind.wrap_u64, hashN_snoc]
  unfold stepN
  omega
theorem u8wrap (c : UInt8) : IntKind.u64.wrap (c.toNat : Int) = (c.toNat : Int) := by
  rw [IntKind.wrap_u64]; have := c.toNat_lt; omega
theorem hashI_bd (l : List UInt8) : 0 ≤ hashI l ∧ hashI l ≤ 18446744073709551615 := by
  unfold hashI; have := hashN_lt l; omega

theorem and_u64_nat (a b : Nat) (ha : a < 18446744073709551616) (hb : b < 18446744073709551616) : bits .and .u64 (a : Int) (b : Int) = ((a &&& b : Nat) : Int) := by
  have hx : a &&& b < 2 ^ 64 := Nat.and_lt_two_pow _ (by omega)
  have h1 : (BitVec.ofInt 64 (a : Int)).toNat = a := by
    rw [BitVec.ofInt_natCast, BitVec.toNat_ofNat]; exact Nat.mod_eq_of_lt (by omega)
  have h2 : (BitVec.ofInt 64 (b : Int)).toNat = b := by
    rw [BitVec.ofInt_natCast, BitVec.toNat_ofNat]; exact Nat.mod_eq_of_lt (by omega)
  show IntKind.u64.wrap ((BitVec.ofInt 64 (a : Int) &&& BitVec.ofInt 64 (b : Int)).toNat : Int) = _
  rw [BitVec.toNat_and, h1, h2, IntKind.wrap_u64]
  omega
theorem hash_mask (l : List UInt8) (m : Int) (h0 : 0 ≤ m) (h1 : m ≤ 18446744073709551615) : bits .and .u64 (hashI l) m = hashM l m := by
  obtain ⟨M, rfl⟩ := Int.eq_ofNat_of_zero_le h0
  unfold hashI hashM
  rw [and_u64_nat _ _ (hashN_lt l) (by omega)]
  rfl

theorem andNot_u64_nat (a b : Nat) (ha : a < 18446744073709551616) (hb : b < 18446744073709551616) : bits .andNot .u64 (a : Int) (b : Int) = ((a &&& (18446744073709551615 - b) : Nat) : Int) := by
  have hx : a &&& (18446744073709551615 - b) < 2 ^ 64 := Nat.and_lt_two_pow _ (by omega)
  have h1 : (BitVec.ofInt 64 (a : Int)).toNat = a := by
    rw [BitVec.ofInt_natCast, BitVec.toNat_ofNat]; exact Nat.mod_eq_of_lt (by omega)
  have h2 : (BitVec.ofInt 64 (b : Int)).toNat = b := by
    rw [BitVec.ofInt_natCast, BitVec.toNat_ofNat]; exact Nat.mod_eq_of_lt (by omega)
  show IntKind.u64.wrap ((BitVec.ofInt 64 (a : Int) &&& ~~~BitVec.ofInt 64 (b : Int)).toNat : Int) = _
  rw [BitVec.toNat_and, BitVec.toNat_not, h1, h2, IntKind.wrap_u64]
  have e : 2 ^ 64 - 1 - b = 18446744073709551615 - b := by omega
  rw [e]
  omega
theorem and_not_self (a b : Nat) (hb : b < 2 ^ 64) : (a &&& b) &&& (2 ^ 64 - 1 - b) = 0 := by
  apply Nat.eq_of_testBit_eq
  intro i
  rw [Nat.testBit_and, Nat.testBit_and, Nat.zero_testBit, show 2 ^ 64 - 1 - b = 2 ^ 64 - (b + 1) by omega, Nat.testBit_two_pow_sub_succ hb]
  cases a.testBit i <;> cases b.testBit i <;> simp
theorem hash_andNot (l : List UInt8) (m : Int) (h0 : 0 ≤ m) (h1 : m ≤ 18446744073709551615) : bits .andNot .u64 (hashM l m) m = 0 := by
  obtain ⟨M, rfl⟩ := Int.eq_ofNat_of_zero_le h0
  unfold hashM
  have hl := hashN_lt l
  have hx : hashN l &&& M < 2 ^ 64 := Nat.and_lt_two_pow _ (by omega)
  rw [show (M : Int).toNat = M from rfl, andNot_u64_nat _ _ (by omega) (by omega)]
  have := and_not_self (hashN l) M (by omega)
  rw [show (18446744073709551615 : Nat) = 2 ^ 64 - 1 from rfl, this]
  rfl
theorem ret_int {k : IntKind} {a b : Int} (h : a = b) : Ending.returned (.int k a) = .returned (.int k b) := by rw [h]
theorem ret_bool {a b : Bool} (h : a = b) : Ending.returned (.bool a) = .returned (.bool b) := by rw [h]

/-- the slice of a level -/
def slN (h l : Nat) : Nat := h / 64 ^ l % 64
def sl (h l : Int) : Int := if l < 0 ∨ 11 ≤ l then 0 else (slN h.toNat l.toNat : Nat)
theorem slN_lt (h l : Nat) : slN h l < 64 := Nat.mod_lt _ (by decide)
theorem sl_in (h l : Int) (l0 : 0 ≤ l) (l1 : l < 11) : sl h l = (slN h.toNat l.toNat : Nat) := by
  unfold sl; rw [if_neg (by omega)]
theorem sl_out (h l : Int) (hl : l < 0 ∨ 11 ≤ l) : sl h l = 0 := by
  unfold sl; rw [if_pos hl]
theorem sl_bd (h l : Int) : 0 ≤ sl h l ∧ sl h l ≤ 63 := by
  unfold sl; split
  · omega
  · have := slN_lt h.toNat l.toNat; omega
theorem and63 (n : Nat) : n &&& 63 = n % 64 := Nat.and_two_pow_sub_one_eq_mod n 6
theorem sl_walk (h l : Int) (h0 : 0 ≤ h) (h1 : h ≤ 18446744073709551615) (l0 : 0 ≤ l) (l1 : l < 11) :
    wrap64 (bits .and .u64 (h / 2 ^ (6 * l).toNat) 63) = sl h l := by
  rw [sl_in h l l0 l1]
  obtain ⟨H, rfl⟩ := Int.eq_ofNat_of_zero_le h0
  obtain ⟨L, rfl⟩ := Int.eq_ofNat_of_zero_le l0
  have e1 : (6 * (L : Int)).toNat = 6 * L := by omega
  have e2 : ((H : Int) / 2 ^ (6 * L)) = ((H / 64 ^ L : Nat) : Int) := by
    rw [show (64 : Nat) = 2 ^ 6 from rfl, ← Nat.pow_mul]
    simp
  have hb : H / 64 ^ L < 18446744073709551616 := Nat.lt_of_le_of_lt (Nat.div_le_self _ _) (by omega)
  rw [e1, e2, show (63 : Int) = ((63 : Nat) : Int) from rfl, and_u64_nat _ _ hb (by omega), and63]
  have hm : H / 64 ^ L % 64 < 64 := Nat.mod_lt _ (by decide)
  rw [IntWalk.wrap64_in _ ⟨by omega, by omega⟩]
  rfl
theorem div_step (h l j : Int) (h0 : 0 ≤ h) (j0 : 0 ≤ j) (jl : j < l) :
    (((h.toNat / 64 ^ (l - (j + 1)).toNat : Nat) : Int) / 64) = ((h.toNat / 64 ^ (l - j).toNat : Nat) : Int) := by
  have e : (l - j).toNat = (l - (j + 1)).toNat + 1 := by omega
  rw [e, Nat.pow_succ, ← Nat.div_div_eq_div_mul]
  omega

def dv (h l j : Int) : Int := ((h.toNat / 64 ^ (l - j).toNat : Nat) : Int)
theorem dv_start (h l : Int) (h0 : 0 ≤ h) : h = dv h l l := by
  unfold dv; simp; omega
theorem dv_bd (h l j : Int) (h0 : 0 ≤ h) (h1 : h ≤ 18446744073709551615) : 0 ≤ dv h l j ∧ dv h l j ≤ 18446744073709551615 := by
  unfold dv
  have := Nat.div_le_self h.toNat (64 ^ (l - j).toNat)
  generalize h.toNat / 64 ^ (l - j).toNat = q at this ⊢
  omega
theorem dv_step (h l j : Int) (h0 : 0 ≤ h) (j0 : 0 < j) (j1 : j ≤ l) : dv h l j / 64 = dv h l (j - 1) := by
  unfold dv
  have := div_step h l (j - 1) h0 (by omega) (by omega)
  rwa [show j - 1 + 1 = j by omega] at this
theorem dv_end (h l j : Int) (h0 : 0 ≤ h) (h1 : h ≤ 18446744073709551615) (l0 : 0 ≤ l) (l1 : l < 11) (hj : j = 0) : dv h l j % 64 = sl h l := by
  subst hj
  rw [sl_in h l l0 l1]
  unfold dv slN
  simp
/-- the number of levels whose slices are equal -/
def cmFrom (h k : Int) : Nat → Nat → Nat
  | 0, l => l
  | n + 1, l => if sl h l = sl k l then cmFrom h k n (l + 1) else l
def cm (h k : Int) : Int := (cmFrom h k 11 0 : Nat)
theorem cmFrom_eq (h k : Int) (n l : Nat) (he : sl h l = sl k l) : cmFrom h k (n + 1) l = cmFrom h k n (l + 1) := by
  simp [cmFrom, he]
theorem cmFrom_ne (h k : Int) (n l : Nat) (he : ¬ sl h l = sl k l) : cmFrom h k (n + 1) l = l := by
  simp [cmFrom, he]
theorem cmFrom_bd (h k : Int) : ∀ n l, l ≤ cmFrom h k n l ∧ cmFrom h k n l ≤ l + n := by
  intro n
  induction n with
  | zero => intro l; simp [cmFrom]
  | succ n ih => intro l; simp only [cmFrom]; have := ih (l + 1); split <;> omega
theorem cm_bd (h k : Int) : 0 ≤ cm h k ∧ cm h k ≤ 11 := by
  unfold cm; have := cmFrom_bd h k 11 0; omega
theorem cmFrom_spec (h k : Int) : ∀ n l, (∀ j : Nat, l ≤ j → j < cmFrom h k n l → sl h j = sl k j) ∧ (cmFrom h k n l < l + n → ¬ sl h (cmFrom h k n l : Nat) = sl k (cmFrom h k n l : Nat)) := by
  intro n
  induction n with
  | zero => intro l; simp only [cmFrom]; exact ⟨by omega, by omega⟩
  | succ n ih =>
    intro l
    by_cases he : sl h l = sl k l
    · rw [cmFrom_eq h k n l he]
      obtain ⟨i1, i2⟩ := ih (l + 1)
      refine ⟨fun j h1 h2 => ?_, fun h1 => i2 (by omega)⟩
      by_cases hj : j = l
      · rw [hj]; exact he
      · exact i1 j (by omega) h2
    · rw [cmFrom_ne h k n l he]
      exact ⟨by omega, fun _ => he⟩
theorem cmFrom_uniq (h k : Int) (n : Nat) : ∀ l c : Nat, l ≤ c → c ≤ l + n → (∀ j : Nat, l ≤ j → j < c → sl h j = sl k j) → (c < l + n → ¬ sl h c = sl k c) → cmFrom h k n l = c := by
  induction n with
  | zero => intro l c h1 h2 _ _; simp only [cmFrom]; omega
  | succ n ih =>
    intro l c h1 h2 h3 h4
    by_cases he : sl h l = sl k l
    · rw [cmFrom_eq h k n l he]
      by_cases hc : c = l
      · subst hc; exact absurd he (h4 (by omega))
      · exact ih (l + 1) c (by omega) (by omega) (fun j a b => h3 j (by omega) b) (fun a => h4 (by omega))
    · rw [cmFrom_ne h k n l he]
      by_cases hc : c = l
      · exact hc.symm
      · exact absurd (h3 l (Nat.le_refl _) (by omega)) he

theorem cm_self (h : Int) : cm h h = 11 := by
  unfold cm
  rw [cmFrom_uniq h h 11 0 11 (by omega) (by omega) (fun _ _ _ => rfl) (by omega)]
  rfl
/-- the order -/
def lessB (h : Int) (a : List UInt8) (k : Int) (b : List UInt8) : Bool :=
  if cm h k < 11 then decide (sl h (cm h k) < sl k (cm h k)) else Op.bytesLess a b
theorem lessB_in (h : Int) (a : List UInt8) (k : Int) (b : List UInt8) (hc : cm h k < 11) : lessB h a k b = decide (sl h (cm h k) < sl k (cm h k)) := by
  unfold lessB; rw [if_pos hc]
theorem lessB_out (h : Int) (a : List UInt8) (k : Int) (b : List UInt8) (hc : ¬ cm h k < 11) : lessB h a k b = Op.bytesLess a b := by
  unfold lessB; rw [if_neg hc]
end Go.Proofs.YtbmoehndnbbhcaaGreatDoor
namespace Go.Proofs.YtbmoehndnbbhcaaGreatDoor
set_option linter.unusedVariables false
set_option linter.unusedSimpArgs false
open Go.RowKit

theorem slN_bit (h l i : Nat) : (slN h l).testBit i = (decide (i < 6) && h.testBit (6 * l + i)) := by
  unfold slN
  rw [show (64 : Nat) ^ l = 2 ^ (6 * l) by rw [Nat.pow_mul], show (64 : Nat) = 2 ^ 6 from rfl, Nat.testBit_mod_two_pow, Nat.testBit_div_two_pow, Nat.add_comm i]
theorem wrap_u64_nat (a : Nat) (h : a < 18446744073709551616) : IntKind.u64.wrap (a : Int) = (a : Int) := by
  rw [IntKind.wrap_u64]; omega
theorem pow_lt64 (j : Nat) (hj : j < 64) : 2 ^ j < 18446744073709551616 := by
  have := Nat.pow_lt_pow_right (a := 2) (by decide) hj
  simpa using this
theorem xor_ne (H j : Nat) : slN H (j / 6) ≠ slN (H ^^^ 2 ^ j) (j / 6) := by
  intro he
  have e := congrArg (fun x => x.testBit (j % 6)) he
  simp only [slN_bit, Nat.testBit_xor, Nat.testBit_two_pow] at e
  rw [show 6 * (j / 6) + j % 6 = j by omega] at e
  have h6 : j % 6 < 6 := by omega
  simp [h6] at e
theorem xor_eq (H j l : Nat) (hl : l < j / 6) : slN H l = slN (H ^^^ 2 ^ j) l := by
  apply Nat.eq_of_testBit_eq
  intro i
  simp only [slN_bit, Nat.testBit_xor, Nat.testBit_two_pow]
  by_cases hi : i < 6
  · have : ¬ j = 6 * l + i := by omega
    simp [this]
  · simp [hi]
theorem xor_walk (H K : Nat) (h1 : H < 18446744073709551616) : bits .xor .u64 (H : Int) (IntKind.u64.wrap (2 ^ (((K : Int) % 64)).toNat)) = ((H ^^^ 2 ^ (K % 64) : Nat) : Int) := by
  have e : ((K : Int) % 64).toNat = K % 64 := by omega
  have hp := pow_lt64 (K % 64) (by omega)
  rw [e, show ((2 : Int) ^ (K % 64)) = ((2 ^ (K % 64) : Nat) : Int) by simp, wrap_u64_nat _ hp, bits_xor_u64_nat _ _ h1 hp]
theorem xor_bd (h k : Int) (h0 : 0 ≤ h) (h1 : h ≤ 18446744073709551615) (k0 : 0 ≤ k) :
    0 ≤ bits .xor .u64 h (IntKind.u64.wrap (2 ^ (k % 64).toNat)) ∧ bits .xor .u64 h (IntKind.u64.wrap (2 ^ (k % 64).toNat)) ≤ 18446744073709551615 := by
  obtain ⟨H, rfl⟩ := Int.eq_ofNat_of_zero_le h0
  obtain ⟨K, rfl⟩ := Int.eq_ofNat_of_zero_le k0
  rw [xor_walk H K (by omega)]
  have := pow_lt64 (K % 64) (by omega)
  have hx : H ^^^ 2 ^ (K % 64) < 2 ^ 64 := Nat.xor_lt_two_pow (by omega) (by omega)
  omega
theorem xor_cm (h k : Int) (h0 : 0 ≤ h) (h1 : h ≤ 18446744073709551615) (k0 : 0 ≤ k) :
    cm h (bits .xor .u64 h (IntKind.u64.wrap (2 ^ (k % 64).toNat))) = k % 64 / 6 := by
  obtain ⟨H, rfl⟩ := Int.eq_ofNat_of_zero_le h0
  obtain ⟨K, rfl⟩ := Int.eq_ofNat_of_zero_le k0
  rw [xor_walk H K (by omega)]
  unfold cm
  rw [cmFrom_uniq _ _ 11 0 (K % 64 / 6) (by omega) (by omega) ?_ ?_]
  · omega
  · intro j _ hj
    rw [sl_in _ _ (by omega) (by omega), sl_in _ _ (by omega) (by omega)]
    exact congrArg _ (xor_eq H (K % 64) j hj)
  · intro _
    rw [sl_in _ _ (by omega) (by omega), sl_in _ _ (by omega) (by omega)]
    intro he
    have he' := Int.ofNat.inj he
    rw [show ((K % 64 / 6 : Nat) : Int).toNat = K % 64 / 6 from rfl] at he'
    exact xor_ne H (K % 64) he'

theorem or_u64_nat (a b : Nat) (ha : a < 18446744073709551616) (hb : b < 18446744073709551616) : bits .or .u64 (a : Int) (b : Int) = ((a ||| b : Nat) : Int) := by
  have hx : a ||| b < 2 ^ 64 := Nat.or_lt_two_pow (by omega) (by omega)
  have h1 : (BitVec.ofInt 64 (a : Int)).toNat = a := by
    rw [BitVec.ofInt_natCast, BitVec.toNat_ofNat]; exact Nat.mod_eq_of_lt (by omega)
  have h2 : (BitVec.ofInt 64 (b : Int)).toNat = b := by
    rw [BitVec.ofInt_natCast, BitVec.toNat_ofNat]; exact Nat.mod_eq_of_lt (by omega)
  show IntKind.u64.wrap ((BitVec.ofInt 64 (a : Int) ||| BitVec.ofInt 64 (b : Int)).toNat : Int) = _
  rw [BitVec.toNat_or, h1, h2, IntKind.wrap_u64]
  omega

/-- what is rebuilt before level j -/
def up (h j : Int) : Int := ((h.toNat / 64 ^ (j + 1).toNat : Nat) : Int)
theorem up_start (h : Int) (h0 : 0 ≤ h) (h1 : h ≤ 18446744073709551615) : up h 10 = 0 := by
  unfold up
  rw [Nat.div_eq_of_lt]
  · rfl
  · have : (64 : Nat) ^ ((10 : Int) + 1).toNat = 73786976294838206464 := by decide
    omega
theorem up_end (h j : Int) (h0 : 0 ≤ h) (hj : j = -1) : up h j = h := by
  subst hj; unfold up; simp; omega
theorem up_bd (h j : Int) (h0 : 0 ≤ h) (h1 : h ≤ 18446744073709551615) : 0 ≤ up h j ∧ up h j ≤ 18446744073709551615 := by
  unfold up
  have := Nat.div_le_self h.toNat (64 ^ (j + 1).toNat)
  generalize h.toNat / 64 ^ (j + 1).toNat = q at this ⊢
  omega
theorem up_step (h j : Int) (h0 : 0 ≤ h) (h1 : h ≤ 18446744073709551615) (j0 : 0 ≤ j) (j1 : j ≤ 10) :
    bits .or .u64 (IntKind.u64.wrap (up h j * 64)) (sl h j) = up h (j - 1) := by
  obtain ⟨H, rfl⟩ := Int.eq_ofNat_of_zero_le h0
  obtain ⟨J, rfl⟩ := Int.eq_ofNat_of_zero_le j0
  rw [sl_in _ _ (by omega) (by omega)]
  unfold up slN
  rw [show ((J : Int) + 1).toNat = J + 1 by omega, show ((J : Int) - 1 + 1).toNat = J by omega, show (H : Int).toNat = H by omega, show (J : Int).toNat = J by omega, Nat.pow_succ, ← Nat.div_div_eq_div_mul]
  have hq : H / 64 ^ J ≤ H := Nat.div_le_self _ _
  generalize H / 64 ^ J = q at hq ⊢
  rw [show ((q / 64 : Nat) : Int) * 64 = ((q / 64 * 64 : Nat) : Int) by omega, wrap_u64_nat _ (by omega), or_u64_nat _ _ (by omega) (by omega)]
  have := Nat.two_pow_add_eq_or_of_lt (i := 6) (b := q % 64) (by omega) (q / 64)
  rw [Nat.mul_comm (q / 64) 64, show (64 : Nat) = 2 ^ 6 from rfl] at *
  rw [← this]
  omega

theorem hashM_bd (l : List UInt8) (m : Int) : 0 ≤ hashM l m ∧ hashM l m ≤ 18446744073709551615 := by
  unfold hashM
  have h1 := hashN_lt l
  have h2 : hashN l &&& m.toNat ≤ hashN l := Nat.and_le_left
  omega
theorem hashM_and (l : List UInt8) (m n : Int) (m0 : 0 ≤ m) (m1 : m ≤ 18446744073709551615) (n0 : 0 ≤ n) (n1 : n ≤ 18446744073709551615) :
    bits .and .u64 (hashM l m) n = hashM l (bits .and .u64 m n) := by
  obtain ⟨M, rfl⟩ := Int.eq_ofNat_of_zero_le m0
  obtain ⟨N, rfl⟩ := Int.eq_ofNat_of_zero_le n0
  rw [and_u64_nat M N (by omega) (by omega)]
  unfold hashM
  rw [and_u64_nat _ N (by have h1 := hashN_lt l; have h2 : hashN l &&& (M : Int).toNat ≤ hashN l := Nat.and_le_left; omega) (by omega)]
  rw [show ((M &&& N : Nat) : Int).toNat = M &&& N from rfl, show (M : Int).toNat = M from rfl, Nat.and_assoc]
theorem and_bd (m n : Int) (m0 : 0 ≤ m) (m1 : m ≤ 18446744073709551615) (n0 : 0 ≤ n) (n1 : n ≤ 18446744073709551615) :
    0 ≤ bits .and .u64 m n ∧ bits .and .u64 m n ≤ 18446744073709551615 := by
  obtain ⟨M, rfl⟩ := Int.eq_ofNat_of_zero_le m0
  obtain ⟨N, rfl⟩ := Int.eq_ofNat_of_zero_le n0
  rw [and_u64_nat M N (by omega) (by omega)]
  have : M &&& N ≤ M := Nat.and_le_left
  omega
/-- the mask of a slice -/
theorem one_nat (L : Nat) (hL : L < 10) : IntKind.u64.wrap (63 * 2 ^ (6 * (L : Int)).toNat) = ((63 * 2 ^ (6 * L) : Nat) : Int) ∧ 63 * 2 ^ (6 * L) < 18446744073709551616 := by
  have e : (6 * (L : Int)).toNat = 6 * L := by omega
  have hp : 2 ^ (6 * L) ≤ 2 ^ 54 := Nat.pow_le_pow_right (by decide) (by omega)
  have hb : 63 * 2 ^ (6 * L) < 18446744073709551616 := by omega
  refine ⟨?_, hb⟩
  rw [e, show ((63 : Int) * 2 ^ (6 * L)) = ((63 * 2 ^ (6 * L) : Nat) : Int) by simp]
  exact wrap_u64_nat _ hb
theorem one_bd (l : Int) (l0 : 0 ≤ l) (l1 : l < 10) : 0 ≤ IntKind.u64.wrap (63 * 2 ^ (6 * l).toNat) ∧ IntKind.u64.wrap (63 * 2 ^ (6 * l).toNat) ≤ 18446744073709551615 := by
  obtain ⟨L, rfl⟩ := Int.eq_ofNat_of_zero_le l0
  obtain ⟨e, b⟩ := one_nat L (by omega)
  rw [e]; omega
theorem bit63 (i : Nat) : (63 : Nat).testBit i = decide (i < 6) := by
  rw [show (63 : Nat) = 2 ^ 6 - 1 from rfl, Nat.testBit_two_pow_sub_one]
theorem slN_one (H L : Nat) : slN (H &&& 63 * 2 ^ (6 * L)) L = slN H L := by
  apply Nat.eq_of_testBit_eq
  intro i
  simp only [slN_bit, Nat.testBit_and, Nat.testBit_mul_two_pow, bit63]
  by_cases hi : i < 6
  · rw [show 6 * L + i - 6 * L = i by omega]; simp [hi]
  · simp [hi]
theorem slN_next (H L : Nat) : slN (H &&& 63 * 2 ^ (6 * L)) (L + 1) = 0 := by
  apply Nat.eq_of_testBit_eq
  intro i
  simp only [slN_bit, Nat.testBit_and, Nat.testBit_mul_two_pow, bit63, Nat.zero_testBit]
  rw [show 6 * (L + 1) + i - 6 * L = 6 + i by omega]
  simp
theorem hashM_all (l : List UInt8) : hashM l 18446744073709551615 = hashI l := by
  unfold hashM hashI
  rw [show (18446744073709551615 : Int).toNat = 2 ^ 64 - 1 from rfl, Nat.and_two_pow_sub_one_eq_mod, Nat.mod_eq_of_lt (by have := hashN_lt l; omega)]
theorem one_slice (b : List UInt8) (l : Int) (l0 : 0 ≤ l) (l1 : l < 10) :
    sl (hashM b (IntKind.u64.wrap (63 * 2 ^ (6 * l).toNat))) l = sl (hashM b 18446744073709551615) l := by
  rw [hashM_all]
  obtain ⟨L, rfl⟩ := Int.eq_ofNat_of_zero_le l0
  obtain ⟨e, _⟩ := one_nat L (by omega)
  rw [e, sl_in _ _ (by omega) (by omega), sl_in _ _ (by omega) (by omega)]
  unfold hashM hashI
  exact congrArg _ (slN_one (hashN b) L)
theorem one_next (b : List UInt8) (l : Int) (l0 : 0 ≤ l) (l1 : l < 10) :
    sl (hashM b (IntKind.u64.wrap (63 * 2 ^ (6 * l).toNat))) (l + 1) = 0 := by
  obtain ⟨L, rfl⟩ := Int.eq_ofNat_of_zero_le l0
  obtain ⟨e, _⟩ := one_nat L (by omega)
  rw [e, sl_in _ _ (by omega) (by omega)]
  unfold hashM
  rw [show ((L : Int) + 1).toNat = L + 1 by omega]
  exact congrArg _ (slN_next (hashN b) L)
end Go.Proofs.YtbmoehndnbbhcaaGreatDoor
namespace Go.Proofs.YtbmoehndnbbhcaaGreatDoor
set_option linter.unusedVariables false
set_option linter.unusedSimpArgs false
open Go.RowKit

theorem bl_irrefl : ∀ a : List UInt8, Op.bytesLess a a = false := by
  intro a
  induction a with
  | nil => rfl
  | cons c r ih => simp [Op.bytesLess, ih]
theorem bl_asymm : ∀ a b : List UInt8, Op.bytesLess a b = true → Op.bytesLess b a = false := by
  intro a
  induction a with
  | nil => intro b h; cases b <;> simp_all [Op.bytesLess]
  | cons c r ih =>
    intro b h
    cases b with
    | nil => simp [Op.bytesLess] at h
    | cons d s =>
      simp only [Op.bytesLess, Bool.or_eq_true, decide_eq_true_eq, Bool.and_eq_true, beq_iff_eq, Bool.or_eq_false_iff, decide_eq_false_iff_not, Bool.and_eq_false_iff, beq_eq_false_iff_ne] at h ⊢
      rcases h with h | ⟨h1, h2⟩
      · exact ⟨fun hh => UInt8.lt_irrefl _ (UInt8.lt_trans h hh), Or.inl fun he => by subst he; exact UInt8.lt_irrefl _ h⟩
      · subst h1; exact ⟨UInt8.lt_irrefl _, Or.inr (ih s h2)⟩
theorem bl_total : ∀ a b : List UInt8, Op.bytesLess a b = false → Op.bytesLess b a = false → a = b := by
  intro a
  induction a with
  | nil => intro b h1 h2; cases b <;> simp_all [Op.bytesLess]
  | cons c r ih =>
    intro b h1 h2
    cases b with
    | nil => simp [Op.bytesLess] at h2
    | cons d s =>
      simp only [Op.bytesLess, Bool.or_eq_false_iff, decide_eq_false_iff_not, Bool.and_eq_false_iff, beq_eq_false_iff_ne] at h1 h2
      have e : c = d := by
        have a1 := h1.1; have a2 := h2.1
        rw [UInt8.lt_iff_toNat_lt] at a1 a2
        exact UInt8.toNat_inj.mp (by omega)
      subst e
      rw [ih s (h1.2.resolve_left (by simp)) (h2.2.resolve_left (by simp))]
theorem bl_trans : ∀ a b c : List UInt8, Op.bytesLess a b = true → Op.bytesLess b c = true → Op.bytesLess a c = true := by
  intro a
  induction a with
  | nil => intro b c h1 h2; cases b <;> cases c <;> simp_all [Op.bytesLess]
  | cons x r ih =>
    intro b c h1 h2
    cases b with
    | nil => simp [Op.bytesLess] at h1
    | cons y s =>
      cases c with
      | nil => simp [Op.bytesLess] at h2
      | cons z t =>
        simp only [Op.bytesLess, Bool.or_eq_true, decide_eq_true_eq, Bool.and_eq_true, beq_iff_eq] at h1 h2 ⊢
        rcases h1 with h1 | ⟨rfl, h1⟩
        · rcases h2 with h2 | ⟨rfl, h2⟩
          · exact Or.inl (UInt8.lt_trans h1 h2)
          · exact Or.inl h1
        · rcases h2 with h2 | ⟨rfl, h2⟩
          · exact Or.inl h2
          · exact Or.inr ⟨rfl, ih s t h1 h2⟩

theorem cm_nat (h k : Int) : ∃ c : Nat, cm h k = c ∧ c ≤ 11 ∧ (∀ j : Nat, j < c → sl h j = sl k j) ∧ (c < 11 → ¬ sl h c = sl k c) := by
  have hb := cmFrom_bd h k 11 0
  have hs := cmFrom_spec h k 11 0
  exact ⟨cmFrom h k 11 0, rfl, by omega, fun j hj => hs.1 j (by omega) hj, fun hj => hs.2 (by omega)⟩
theorem cm_uniq (h k : Int) (c : Nat) (hc : c ≤ 11) (h1 : ∀ j : Nat, j < c → sl h j = sl k j) (h2 : c < 11 → ¬ sl h c = sl k c) : cm h k = c := by
  unfold cm
  rw [cmFrom_uniq h k 11 0 c (by omega) (by omega) (fun j _ hj => h1 j hj) (fun hj => h2 (by omega))]
theorem lessB_c (h : Int) (a : List UInt8) (k : Int) (b : List UInt8) (c : Nat) (he : cm h k = c) :
    lessB h a k b = if c < 11 then decide (sl h c < sl k c) else Op.bytesLess a b := by
  unfold lessB; rw [he]
  by_cases hc : c < 11
  · rw [if_pos (by omega), if_pos hc]
  · rw [if_neg (by omega), if_neg hc]
theorem less_irrefl (h : Int) (a : List UInt8) : lessB h a h a = false := by
  rw [lessB_out _ _ _ _ (by rw [cm_self]; omega), bl_irrefl]
theorem less_asymm (h : Int) (a : List UInt8) (k : Int) (b : List UInt8) (hx : lessB h a k b = true) : lessB k b h a = false := by
  obtain ⟨c, e, c1, c2, c3⟩ := cm_nat h k
  have e' := cm_uniq k h c c1 (fun j hj => (c2 j hj).symm) (fun hj he => c3 hj he.symm)
  rw [lessB_c _ _ _ _ c e] at hx
  rw [lessB_c _ _ _ _ c e']
  by_cases hc : c < 11
  · rw [if_pos hc] at hx ⊢
    simp only [decide_eq_true_eq, decide_eq_false_iff_not] at hx ⊢
    omega
  · rw [if_neg hc] at hx ⊢
    exact bl_asymm _ _ hx
theorem less_trans (h : Int) (a : List UInt8) (k : Int) (b : List UInt8) (m : Int) (d : List UInt8) (hx : lessB h a k b = true) (hy : lessB k b m d = true) : lessB h a m d = true := by
  obtain ⟨c, e, c1, c2, c3⟩ := cm_nat h k
  obtain ⟨f, e', f1, f2, f3⟩ := cm_nat k m
  rw [lessB_c _ _ _ _ c e] at hx
  rw [lessB_c _ _ _ _ f e'] at hy
  have hlt : c < f → lessB h a m d = true := by
    intro hcf
    have g := cm_uniq h m c c1 (fun j hj => (c2 j hj).trans (f2 j (by omega))) (fun hj he => c3 hj (he.trans (f2 c hcf).symm))
    rw [lessB_c _ _ _ _ c g, if_pos (by omega)]
    rw [if_pos (by omega)] at hx
    rw [← f2 c hcf]; exact hx
  have hgt : f < c → lessB h a m d = true := by
    intro hcf
    have g := cm_uniq h m f f1 (fun j hj => (c2 j (by omega)).trans (f2 j hj)) (fun hj he => f3 hj ((c2 f hcf).symm.trans he))
    rw [lessB_c _ _ _ _ f g, if_pos (by omega)]
    rw [if_pos (by omega)] at hy
    rw [c2 f hcf]; exact hy
  have heq : c = f → lessB h a m d = true := by
    intro hcf
    subst hcf
    by_cases hc : c < 11
    · rw [if_pos hc] at hx hy
      simp only [decide_eq_true_eq] at hx hy
      have g := cm_uniq h m c c1 (fun j hj => (c2 j hj).trans (f2 j hj)) (fun hj he => by omega)
      rw [lessB_c _ _ _ _ c g, if_pos hc]
      simp only [decide_eq_true_eq]; omega
    · rw [if_neg hc] at hx hy
      have g := cm_uniq h m c c1 (fun j hj => (c2 j hj).trans (f2 j hj)) (fun hj => by omega)
      rw [lessB_c _ _ _ _ c g, if_neg hc]
      exact bl_trans _ _ _ hx hy
  rcases Nat.lt_trichotomy c f with h1 | h1 | h1
  · exact hlt h1
  · exact heq h1
  · exact hgt h1
theorem up_all (h k : Int) (h0 : 0 ≤ h) (h1 : h ≤ 18446744073709551615) (k0 : 0 ≤ k) (k1 : k ≤ 18446744073709551615) (hs : ∀ j : Nat, j < 11 → sl h j = sl k j) :
    ∀ n : Nat, n ≤ 11 → up h (10 - n) = up k (10 - n) := by
  intro n
  induction n with
  | zero => intro _; rw [show (10 : Int) - (0 : Nat) = 10 by omega, up_start h h0 h1, up_start k k0 k1]
  | succ n ih =>
    intro hn
    have ih := ih (by omega)
    have e : (10 : Int) - ((n + 1 : Nat) : Int) = (10 - n) - 1 := by omega
    rw [e, ← up_step h (10 - n) h0 h1 (by omega) (by omega), ← up_step k (10 - n) k0 k1 (by omega) (by omega), ih]
    have := hs (10 - n) (by omega)
    rw [show (((10 - n : Nat)) : Int) = 10 - n by omega] at this
    rw [this]
theorem less_total (h : Int) (a : List UInt8) (k : Int) (b : List UInt8) (h0 : 0 ≤ h) (h1 : h ≤ 18446744073709551615) (k0 : 0 ≤ k) (k1 : k ≤ 18446744073709551615)
    (hx : lessB h a k b = false) (hy : lessB k b h a = false) : h = k ∧ a = b := by
  obtain ⟨c, e, c1, c2, c3⟩ := cm_nat h k
  have e' := cm_uniq k h c c1 (fun j hj => (c2 j hj).symm) (fun hj he => c3 hj he.symm)
  rw [lessB_c _ _ _ _ c e] at hx
  rw [lessB_c _ _ _ _ c e'] at hy
  by_cases hc : c < 11
  · rw [if_pos hc] at hx hy
    simp only [decide_eq_false_iff_not] at hx hy
    have := c3 hc
    omega
  · rw [if_neg hc] at hx hy
    refine ⟨?_, bl_total _ _ hx hy⟩
    have := up_all h k h0 h1 k0 k1 (fun j hj => c2 j (by omega)) 11 (by omega)
    rw [up_end h _ h0 (by omega), up_end k _ k0 (by omega)] at this
    exact this
theorem bytes_ext (a b : ByteArray) (h : a.toList = b.toList) : a = b := by
  rw [Lib.toList_data, Lib.toList_data] at h
  cases a; cases b
  simp only [ByteArray.mk.injEq]
  exact Array.toList_inj.mp h
end Go.Proofs.YtbmoehndnbbhcaaGreatDoor
