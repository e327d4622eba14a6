/- The walk of the program's signed. -/
import Derived.Test.YtnoeiaicligmiaaDoorSUns
namespace Go.Proofs.YtnoeiaicligmiaaDoor
set_option linter.unusedVariables false
set_option linter.unusedSimpArgs false
open Go Go.RowKit
def intR (l : List UInt8) : Int × Bool := match readInt l with | some n => (n, true) | none => (0, false)
theorem intR_some {l : List UInt8} {n : Int} (h : readInt l = some n) : intR l = (n, true) := by unfold intR; rw [h]
theorem intR_none {l : List UInt8} (h : readInt l = none) : intR l = (0, false) := by unfold intR; rw [h]
theorem sig_end {l : List UInt8} {n : Int} {b : Bool} (h : intR l = (n, b)) : Ending.returned (.tuple #[.int .i64 n, .bool b]) = .returned (.tuple #[.int .i64 (intR l).1, .bool (intR l).2]) := by rw [h]
theorem pre_cases (l : List UInt8) (c : UInt8) : (∃ r, l = c :: r ∧ Lib.hasPrefix l [c] = true ∧ Lib.trimPrefix l [c] = r) ∨ (Lib.hasPrefix l [c] = false ∧ Lib.trimPrefix l [c] = l ∧ l.head? ≠ some c) := by
  cases l with
  | nil => exact Or.inr ⟨rfl, rfl, by simp⟩
  | cons b r =>
    by_cases h : b = c
    · subst h
      refine Or.inl ⟨r, rfl, ?_, ?_⟩
      · simp [Lib.hasPrefix, List.isPrefixOf]
      · simp [Lib.trimPrefix, Lib.hasPrefix, List.isPrefixOf]
    · refine Or.inr ⟨?_, ?_, by simpa using h⟩
      · simp [Lib.hasPrefix, List.isPrefixOf, Ne.symm h]
      · simp [Lib.trimPrefix, Lib.hasPrefix, List.isPrefixOf, Ne.symm h]
theorem readInt_minus (r : List UInt8) : readInt (45 :: r) = (match readNat r with | some n => if n = 0 ∨ 9223372036854775808 < n then none else some (-(n : Int)) | none => none) := rfl
theorem readInt_plus {l : List UInt8} (h : l.head? ≠ some 45) : readInt l = (match readNat l with | some n => if 9223372036854775807 < n then none else some (n : Int) | none => none) := by
  unfold readInt
  split
  · simp at h
  · rfl
theorem digits_lt {l : List UInt8} {acc n : Nat} (ha : acc < 18446744073709551616) (h : digits acc l = some n) : n < 18446744073709551616 := by
  induction l generalizing acc with
  | nil => simp only [digits, Option.some.injEq] at h; omega
  | cons b r ih =>
    unfold digits at h
    split at h
    · exact ih (by omega) h
    · simp at h
theorem readNat_lt {l : List UInt8} {n : Nat} (h : readNat l = some n) : n < 18446744073709551616 := by
  unfold readNat at h
  split at h
  · simp at h
  · exact digits_lt (by omega) h
  · split at h
    · simp at h
    · exact digits_lt (by omega) h
theorem neg_wrap (n : Nat) (h0 : n ≠ 0) (h1 : n ≤ 9223372036854775808) : wrap64 (IntKind.u64.wrap (-(n : Int))) = -(n : Int) := by
  have e : IntKind.u64.wrap (-(n : Int)) = 18446744073709551616 - n := by
    unfold IntKind.wrap
    simp [IntKind.bits, IntKind.signed]
    omega
  rw [e]
  unfold wrap64
  omega
set_option maxHeartbeats 1000000 in
theorem signed_any (s : ByteArray) (w : World) (hs : s.size ≤ 4611686018427387904) :
    Calls Tryd.prog 64 #[.string s] w fun e w' => e = .returned (.tuple #[.int .i64 (intR s.data.toList).1, .bool (intR s.data.toList).2]) ∧ Below w.heap.size w w' := by
  rcases pre_cases s.data.toList 45 with ⟨r, hl, hp, ht⟩ | ⟨hp, ht, hh⟩
  · have PC := Lib.hid (Tryd.strings_CutPrefix s ⟨#[45]⟩ w)
    rw [show (ByteArray.mk #[45]).data.toList = [45] from rfl, hp, ht] at PC
    have hrs : (⟨r.toArray⟩ : ByteArray).size ≤ 4611686018427387904 := by
      have := Lib.size_eq s
      rw [hl] at this
      simp only [List.length_cons] at this
      simp [ByteArray.size]
      omega
    have U := Lib.hid (unsigned_any ⟨r.toArray⟩ w hrs)
    have E := Lib.hid (readInt_minus r)
    rw [show (ByteArray.mk r.toArray).data.toList = r from by simp] at U
    rw [hl]
    clear hl hp ht
    cases hn : readNat r with
    | none =>
      rw [natR_none hn] at U
      rw [hn] at E
      have X := Lib.hid (intR_none E.out)
      clear hn
      go_enter Tryd.func64, Tryd.ntmps64
      go_wp2_with fail
      refine PC.out.mono ?_
      rintro e w' ⟨rfl, rfl⟩
      go_wp2_with fail
      refine U.out.mono ?_
      rintro e w2 ⟨rfl, hb⟩
      have HB := Lib.hid hb
      clear hb
      go_wp2_with fail
      go_ret2
      exact ⟨sig_end X.out, HB.out⟩
    | some n =>
      have hlt := readNat_lt hn
      rw [natR_some hn] at U
      rw [hn] at E
      clear hn
      simp only at E
      by_cases h0 : n = 0
      · subst h0
        rw [if_pos (Or.inl rfl)] at E
        have X := Lib.hid (intR_none E.out)
        go_enter Tryd.func64, Tryd.ntmps64
        go_wp2_with fail
        refine PC.out.mono ?_
        rintro e w' ⟨rfl, rfl⟩
        go_wp2_with fail
        refine U.out.mono ?_
        rintro e w2 ⟨rfl, hb⟩
        have HB := Lib.hid hb
        clear hb
        go_wp2_with fail
        go_ret2
        exact ⟨sig_end X.out, HB.out⟩
      have hn0 : ((n : Int) == 0) = false := by simp; omega
      by_cases h63 : 9223372036854775808 < n
      · rw [if_pos (Or.inr h63)] at E
        have X := Lib.hid (intR_none E.out)
        have hd : decide ((9223372036854775808 : Int) < (n : Int)) = true := decide_eq_true (by omega)
        go_enter Tryd.func64, Tryd.ntmps64
        go_wp2_with fail
        refine PC.out.mono ?_
        rintro e w' ⟨rfl, rfl⟩
        go_wp2_with fail
        refine U.out.mono ?_
        rintro e w2 ⟨rfl, hb⟩
        have HB := Lib.hid hb
        clear hb
        go_wp2_with fail
        go_ret2
        exact ⟨sig_end X.out, HB.out⟩
      · rw [if_neg (by omega)] at E
        have X := Lib.hid (intR_some E.out)
        have hd : decide ((9223372036854775808 : Int) < (n : Int)) = false := decide_eq_false (by omega)
        go_enter Tryd.func64, Tryd.ntmps64
        go_wp2_with fail
        refine PC.out.mono ?_
        rintro e w' ⟨rfl, rfl⟩
        go_wp2_with fail
        refine U.out.mono ?_
        rintro e w2 ⟨rfl, hb⟩
        have HB := Lib.hid hb
        clear hb
        go_wp2_with fail
        go_ret2
        exact ⟨sig_end (by rw [neg_wrap n h0 (by omega)]; exact X.out), HB.out⟩
  · have PC := Lib.hid (Tryd.strings_CutPrefix s ⟨#[45]⟩ w)
    rw [show (ByteArray.mk #[45]).data.toList = [45] from rfl, hp, ht] at PC
    rw [show (ByteArray.mk s.data.toList.toArray) = s from by simp] at PC
    have U := Lib.hid (unsigned_any s w hs)
    have E := Lib.hid (readInt_plus hh)
    clear hh hp ht
    cases hn : readNat s.data.toList with
    | none =>
      rw [natR_none hn] at U
      rw [hn] at E
      have X := Lib.hid (intR_none E.out)
      clear hn
      go_enter Tryd.func64, Tryd.ntmps64
      go_wp2_with fail
      refine PC.out.mono ?_
      rintro e w' ⟨rfl, rfl⟩
      go_wp2_with fail
      refine U.out.mono ?_
      rintro e w2 ⟨rfl, hb⟩
      have HB := Lib.hid hb
      clear hb
      go_wp2_with fail
      go_ret2
      exact ⟨sig_end X.out, HB.out⟩
    | some n =>
      have hlt := readNat_lt hn
      rw [natR_some hn] at U
      rw [hn] at E
      clear hn
      simp only at E
      by_cases h63 : 9223372036854775807 < n
      · rw [if_pos h63] at E
        have X := Lib.hid (intR_none E.out)
        have hd : decide ((9223372036854775807 : Int) < (n : Int)) = true := decide_eq_true (by omega)
        go_enter Tryd.func64, Tryd.ntmps64
        go_wp2_with fail
        refine PC.out.mono ?_
        rintro e w' ⟨rfl, rfl⟩
        go_wp2_with fail
        refine U.out.mono ?_
        rintro e w2 ⟨rfl, hb⟩
        have HB := Lib.hid hb
        clear hb
        go_wp2_with fail
        go_ret2
        exact ⟨sig_end X.out, HB.out⟩
      · rw [if_neg h63] at E
        have X := Lib.hid (intR_some E.out)
        have hd : decide ((9223372036854775807 : Int) < (n : Int)) = false := decide_eq_false (by omega)
        go_enter Tryd.func64, Tryd.ntmps64
        go_wp2_with fail
        refine PC.out.mono ?_
        rintro e w' ⟨rfl, rfl⟩
        go_wp2_with fail
        refine U.out.mono ?_
        rintro e w2 ⟨rfl, hb⟩
        have HB := Lib.hid hb
        clear hb
        go_wp2_with fail
        go_ret2
        exact ⟨sig_end X.out, HB.out⟩
end Go.Proofs.YtnoeiaicligmiaaDoor
