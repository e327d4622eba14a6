/- Plain mathematics of the hash values: no program in sight. -/
import Derived.WalkKit
namespace Go.Proofs.Ytagfghihnkkfiaa
set_option linter.unusedVariables false
set_option linter.unusedSimpArgs false
open Go.RowKit

/-- one step of the hash -/
def stepN (h : Nat) (c : UInt8) : Nat := ((h ^^^ c.toNat) * 1099511628211) % 18446744073709551616
def hashN (l : List UInt8) : Nat := l.foldl stepN 14695981039346656037
def hashI (l : List UInt8) : Int := (hashN l : Nat)
def hashM (l : List UInt8) (m : Int) : Int := ((hashN l &&& m.toNat : Nat) : Int)

theorem stepN_lt (h : Nat) (c : UInt8) : stepN h c < 18446744073709551616 := Nat.mod_lt _ (by decide)
theorem foldl_lt (l : List UInt8) : ∀ h, h < 18446744073709551616 → l.foldl stepN h < 18446744073709551616 := by
  induction l with
  | nil => intro h hh; exact hh
  | cons c r ih => intro h _; exact ih _ (stepN_lt h c)
theorem hashN_lt (l : List UInt8) : hashN l < 18446744073709551616 := foldl_lt l _ (by decide)
theorem foldl_snoc (f : Nat → UInt8 → Nat) (a : Nat) (l : List UInt8) (c : UInt8) : (l ++ [c]).foldl f a = f (l.foldl f a) c := by rw [List.foldl_append, List.foldl_cons, List.foldl_nil]
theorem hashN_snoc (l : List UInt8) (c : UInt8) : hashN (l ++ [c]) = stepN (hashN l) c := foldl_snoc _ _ l c

theorem take_snoc (s : ByteArray) (k : Nat) (h : k < s.size) : s.data.toList.take (k + 1) = s.data.toList.take k ++ [s[k]] := by
  rw [List.take_succ_eq_append_getElem (by simpa using h)]; rfl

theorem hashI_step (l : List UInt8) (c : UInt8) : IntKind.u64.wrap (bits .xor .u64 (hashI l) (c.toNat : Int) * 1099511628211) = hashI (l ++ [c]) := by
  unfold hashI
  rw [bits_xor_u64_nat _ _ (hashN_lt l) (by have := c.toNat_lt; omega), IntKind.wrap_u64, hashN_snoc]
  unfold stepN
  omega
theorem u8wrap (c : UInt8) : IntKind.u64.wrap (c.toNat : Int) = (c.toNat : Int) := by
  rw [IntKind.wrap_u64]; have := c.toNat_lt; omega
theorem hashI_bd (l : List UInt8) : 0 ≤ hashI l ∧ hashI l ≤ 18446744073709551615 := by
  unfold hashI; have := hashN_lt l; omega

theorem and_u64_nat (a b : Nat) (ha : a < 18446744073709551616) (hb : b < 18446744073709551616) : bits .and .u64 (a : Int) (b : Int) = ((a &&& b : Nat) : Int) := by
  have hx : a &&& b < 2 ^ 64 := Nat.and_lt_two_pow _ (by omega)
  have h1 : (BitVec.ofInt 64 (a : Int)).toNat = a := by
    rw [BitVec.ofInt_natCast, BitVec.toNat_ofNat]; exact Nat.mod_eq_of_lt (by omega)
  have h2 : (BitVec.ofInt 64 (b : Int)).toNat = b := by
    rw [BitVec.ofInt_natCast, BitVec.toNat_ofNat]; exact Nat.mod_eq_of_lt (by omega)
  show IntKind.u64.wrap ((BitVec.ofInt 64 (a : Int) &&& BitVec.ofInt 64 (b : Int)).toNat : Int) = _
  rw [BitVec.toNat_and, h1, h2, IntKind.wrap_u64]
  omega
theorem hash_mask (l : List UInt8) (m : Int) (h0 : 0 ≤ m) (h1 : m ≤ 18446744073709551615) : bits .and .u64 (hashI l) m = hashM l m := by
  obtain ⟨M, rfl⟩ := Int.eq_ofNat_of_zero_le h0
  unfold hashI hashM
  rw [and_u64_nat _ _ (hashN_lt l) (by omega)]
  rfl

theorem andNot_u64_nat (a b : Nat) (ha : a < 18446744073709551616) (hb : b < 18446744073709551616) : bits .andNot .u64 (a : Int) (b : Int) = ((a &&& (18446744073709551615 - b) : Nat) : Int) := by
  have hx : a &&& (18446744073709551615 - b) < 2 ^ 64 := Nat.and_lt_two_pow _ (by omega)
  have h1 : (BitVec.ofInt 64 (a : Int)).toNat = a := by
    rw [BitVec.ofInt_natCast, BitVec.toNat_ofNat]; exact Nat.mod_eq_of_lt (by omega)
  have h2 : (BitVec.ofInt 64 (b : Int)).toNat = b := by
    rw [BitVec.ofInt_natCast, BitVec.toNat_ofNat]; exact Nat.mod_eq_of_lt (by omega)
  show IntKind.u64.wrap ((BitVec.ofInt 64 (a : Int) &&& ~~~BitVec.ofInt 64 (b : Int)).toNat : Int) = _
  rw [BitVec.toNat_and, BitVec.toNat_not, h1, h2, IntKind.wrap_u64]
  have e : 2 ^ 64 - 1 - b = 18446744073709551615 - b := by omega
  rw [e]
  omega
theorem and_not_self (a b : Nat) (hb : b < 2 ^ 64) : (a &&& b) &&& (2 ^ 64 - 1 - b) = 0 := by
  apply Nat.eq_of_testBit_eq
  intro i
  rw [Nat.testBit_and, Nat.testBit_and, Nat.zero_testBit, show 2 ^ 64 - 1 - b = 2 ^ 64 - (b + 1) by omega, Nat.testBit_two_pow_sub_succ hb]
  cases a.testBit i <;> cases b.testBit i <;> simp
theorem hash_andNot (l : List UInt8) (m : Int) (h0 : 0 ≤ m) (h1 : m ≤ 18446744073709551615) : bits .andNot .u64 (hashM l m) m = 0 := by
  obtain ⟨M, rfl⟩ := Int.eq_ofNat_of_zero_le h0
  unfold hashM
  have hl := hashN_lt l
  have hx : hashN l &&& M < 2 ^ 64 := Nat.and_lt_two_pow _ (by omega)
  rw [show (M : Int).toNat = M from rfl, andNot_u64_nat _ _ (by omega) (by omega)]
  have := and_not_self (hashN l) M (by omega)
  rw [show (18446744073709551615 : Nat) = 2 ^ 64 - 1 from rfl, this]
  rfl
theorem ret_int {k : IntKind} {a b : Int} (h : a = b) : Ending.returned (.int k a) = .returned (.int k b) := by rw [h]
theorem ret_bool {a b : Bool} (h : a = b) : Ending.returned (.bool a) = .returned (.bool b) := by rw [h]

/-- the slice of a level -/
def slN (h l : Nat) : Nat := h / 64 ^ l % 64
def sl (h l : Int) : Int := if l < 0 ∨ 11 ≤ l then 0 else (slN h.toNat l.toNat : Nat)
theorem slN_lt (h l : Nat) : slN h l < 64 := Nat.mod_lt _ (by decide)
theorem sl_in (h l : Int) (l0 : 0 ≤ l) (l1 : l < 11) : sl h l = (slN h.toNat l.toNat : Nat) := by
  unfold sl; rw [if_neg (by omega)]
theorem sl_out (h l : Int) (hl : l < 0 ∨ 11 ≤ l) : sl h l = 0 := by
  unfold sl; rw [if_pos hl]
theorem sl_bd (h l : Int) : 0 ≤ sl h l ∧ sl h l ≤ 63 := by
  unfold sl; split
  · omega
  · have := slN_lt h.toNat l.toNat; omega
theorem and63 (n : Nat) : n &&& 63 = n % 64 := Nat.and_two_pow_sub_one_eq_mod n 6
theorem sl_walk (h l : Int) (h0 : 0 ≤ h) (h1 : h ≤ 18446744073709551615) (l0 : 0 ≤ l) (l1 : l < 11) :
    wrap64 (bits .and .u64 (h / 2 ^ (6 * l).toNat) 63) = sl h l := by
  rw [sl_in h l l0 l1]
  obtain ⟨H, rfl⟩ := Int.eq_ofNat_of_zero_le h0
  obtain ⟨L, rfl⟩ := Int.eq_ofNat_of_zero_le l0
  have e1 : (6 * (L : Int)).toNat = 6 * L := by omega
  have e2 : ((H : Int) / 2 ^ (6 * L)) = ((H / 64 ^ L : Nat) : Int) := by
    rw [show (64 : Nat) = 2 ^ 6 from rfl, ← Nat.pow_mul]
    simp
  have hb : H / 64 ^ L < 18446744073709551616 := Nat.lt_of_le_of_lt (Nat.div_le_self _ _) (by omega)
  rw [e1, e2, show (63 : Int) = ((63 : Nat) : Int) from rfl, and_u64_nat _ _ hb (by omega), and63]
  have hm : H / 64 ^ L % 64 < 64 := Nat.mod_lt _ (by decide)
  rw [IntWalk.wrap64_in _ ⟨by omega, by omega⟩]
  rfl
theorem div_step (h l j : Int) (h0 : 0 ≤ h) (j0 : 0 ≤ j) (jl : j < l) :
    (((h.toNat / 64 ^ (l - (j + 1)).toNat : Nat) : Int) / 64) = ((h.toNat / 64 ^ (l - j).toNat : Nat) : Int) := by
  have e : (l - j).toNat = (l - (j + 1)).toNat + 1 := by omega
  rw [e, Nat.pow_succ, ← Nat.div_div_eq_div_mul]
  omega

def dv (h l j : Int) : Int := ((h.toNat / 64 ^ (l - j).toNat : Nat) : Int)
theorem dv_start (h l : Int) (h0 : 0 ≤ h) : h = dv h l l := by
  unfold dv; simp; omega
theorem dv_bd (h l j : Int) (h0 : 0 ≤ h) (h1 : h ≤ 18446744073709551615) : 0 ≤ dv h l j ∧ dv h l j ≤ 18446744073709551615 := by
  unfold dv
  have := Nat.div_le_self h.toNat (64 ^ (l - j).toNat)
  generalize h.toNat / 64 ^ (l - j).toNat = q at this ⊢
  omega
theorem dv_step (h l j : Int) (h0 : 0 ≤ h) (j0 : 0 < j) (j1 : j ≤ l) : dv h l j / 64 = dv h l (j - 1) := by
  unfold dv
  have := div_step h l (j - 1) h0 (by omega) (by omega)
  rwa [show j - 1 + 1 = j by omega] at this
theorem dv_end (h l j : Int) (h0 : 0 ≤ h) (h1 : h ≤ 18446744073709551615) (l0 : 0 ≤ l) (l1 : l < 11) (hj : j = 0) : dv h l j % 64 = sl h l := by
  subst hj
  rw [sl_in h l l0 l1]
  unfold dv slN
  simp
/-- the number of levels whose slices are equal -/
def cmFrom (h k : Int) : Nat → Nat → Nat
  | 0, l => l
  | n + 1, l => if sl h l = sl k l then cmFrom h k n (l + 1) else l
def cm (h k : Int) : Int := (cmFrom h k 11 0 : Nat)
theorem cmFrom_eq (h k : Int) (n l : Nat) (he : sl h l = sl k l) : cmFrom h k (n + 1) l = cmFrom h k n (l + 1) := by
  simp [cmFrom, he]
theorem cmFrom_ne (h k : Int) (n l : Nat) (he : ¬ sl h l = sl k l) : cmFrom h k (n + 1) l = l := by
  simp [cmFrom, he]
theorem cmFrom_bd (h k : Int) : ∀ n l, l ≤ cmFrom h k n l ∧ cmFrom h k n l ≤ l + n := by
  intro n
  induction n with
  | zero => intro l; simp [cmFrom]
  | succ n ih => intro l; simp only [cmFrom]; have := ih (l + 1); split <;> omega
theorem cm_bd (h k : Int) : 0 ≤ cm h k ∧ cm h k ≤ 11 := by
  unfold cm; have := cmFrom_bd h k 11 0; omega
theorem cmFrom_spec (h k : Int) : ∀ n l, (∀ j : Nat, l ≤ j → j < cmFrom h k n l → sl h j = sl k j) ∧ (cmFrom h k n l < l + n → ¬ sl h (cmFrom h k n l : Nat) = sl k (cmFrom h k n l : Nat)) := by
  intro n
  induction n with
  | zero => intro l; simp only [cmFrom]; exact ⟨by omega, by omega⟩
  | succ n ih =>
    intro l
    by_cases he : sl h l = sl k l
    · rw [cmFrom_eq h k n l he]
      obtain ⟨i1, i2⟩ := ih (l + 1)
      refine ⟨fun j h1 h2 => ?_, fun h1 => i2 (by omega)⟩
      by_cases hj : j = l
      · rw [hj]; exact he
      · exact i1 j (by omega) h2
    · rw [cmFrom_ne h k n l he]
      exact ⟨by omega, fun _ => he⟩
theorem cmFrom_uniq (h k : Int) (n : Nat) : ∀ l c : Nat, l ≤ c → c ≤ l + n → (∀ j : Nat, l ≤ j → j < c → sl h j = sl k j) → (c < l + n → ¬ sl h c = sl k c) → cmFrom h k n l = c := by
  induction n with
  | zero => intro l c h1 h2 _ _; simp only [cmFrom]; omega
  | succ n ih =>
    intro l c h1 h2 h3 h4
    by_cases he : sl h l = sl k l
    · rw [cmFrom_eq h k n l he]
      by_cases hc : c = l
      · subst hc; exact absurd he (h4 (by omega))
      · exact ih (l + 1) c (by omega) (by omega) (fun j a b => h3 j (by omega) b) (fun a => h4 (by omega))
    · rw [cmFrom_ne h k n l he]
      by_cases hc : c = l
      · exact hc.symm
      · exact absurd (h3 l (Nat.le_refl _) (by omega)) he

theorem cm_self (h : Int) : cm h h = 11 := by
  unfold cm
  rw [cmFrom_uniq h h 11 0 11 (by omega) (by omega) (fun _ _ _ => rfl) (by omega)]
  rfl
/-- the order -/
def lessB (h : Int) (a : List UInt8) (k : Int) (b : List UInt8) : Bool :=
  if cm h k < 11 then decide (sl h (cm h k) < sl k (cm h k)) else Op.bytesLess a b
theorem lessB_in (h : Int) (a : List UInt8) (k : Int) (b : List UInt8) (hc : cm h k < 11) : lessB h a k b = decide (sl h (cm h k) < sl k (cm h k)) := by
  unfold lessB; rw [if_pos hc]
theorem lessB_out (h : Int) (a : List UInt8) (k : Int) (b : List UInt8) (hc : ¬ cm h k < 11) : lessB h a k b = Op.bytesLess a b := by
  unfold lessB; rw [if_neg hc]
end Go.Proofs.Ytagfghihnkkfiaa
