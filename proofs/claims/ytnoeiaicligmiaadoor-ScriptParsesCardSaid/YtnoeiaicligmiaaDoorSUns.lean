/- The walk of the program's unsigned. -/
import Derived.Test.YtnoeiaicligmiaaDoorSFmt
import Derived.Laws.RangeAny
namespace Go.Proofs.YtnoeiaicligmiaaDoor
set_option linter.unusedVariables false
set_option linter.unusedSimpArgs false
open Go Go.RowKit
def natR (l : List UInt8) : Int × Bool := match readNat l with | some n => ((n : Int), true) | none => (0, false)
theorem natR_some {l : List UInt8} {n : Nat} (h : readNat l = some n) : natR l = ((n : Int), true) := by unfold natR; rw [h]
theorem natR_none {l : List UInt8} (h : readNat l = none) : natR l = (0, false) := by unfold natR; rw [h]
theorem uns_end {l : List UInt8} {n : Int} {b : Bool} (h : natR l = (n, b)) : Ending.returned (.tuple #[.int .u64 n, .bool b]) = .returned (.tuple #[.int .u64 (natR l).1, .bool (natR l).2]) := by rw [h]
def UnsRel (w : World) (s : ByteArray) (n : Value) (wr : World) : Prop :=
  ∃ j acc : Nat, j ≤ s.size ∧ acc < 18446744073709551616 ∧ n = .int .u64 acc ∧ digits 0 s.data.toList = digits acc (s.data.toList.drop j) ∧ wr = w.iter s j
theorem drop_at (s : ByteArray) (j : Nat) (h : j < s.size) : s.data.toList.drop j = s[j] :: s.data.toList.drop (j + 1) := by
  rw [List.drop_eq_getElem_cons (by rw [← Lib.size_eq]; exact h)]; rfl
theorem iter_below (w : World) (s : ByteArray) (p : Nat) : Below w.heap.size w (w.iter s p) := (Below.refl _ _).alloc (Nat.le_refl _) _
theorem digits_bad (acc : Nat) (b : UInt8) (r : List UInt8) (h : ¬ (48 ≤ b.toNat ∧ b.toNat ≤ 57 ∧ acc * 10 + (b.toNat - 48) < 18446744073709551616)) : digits acc (b :: r) = none := by
  unfold digits; rw [if_neg h]
theorem digits_step (acc : Nat) (b : UInt8) (r : List UInt8) (h : 48 ≤ b.toNat ∧ b.toNat ≤ 57 ∧ acc * 10 + (b.toNat - 48) < 18446744073709551616) : digits acc (b :: r) = digits (acc * 10 + (b.toNat - 48)) r := by
  conv => lhs; unfold digits
  rw [if_pos h]
theorem readNat_bad (s : ByteArray) (hp : 0 < s.size) (h48 : s[0].toNat = 48) (h1 : 1 < s.size) : readNat s.data.toList = none := by
  have e0 := drop_at s 0 hp
  have e1 := drop_at s 1 h1
  rw [List.drop_zero] at e0
  rw [e0, show (0 : Nat) + 1 = 1 from rfl, e1]
  have : s[0] = 48 := UInt8.toNat_inj.1 h48
  simp [readNat, this]
theorem readNat_fine (s : ByteArray) (hp : 0 < s.size) (h : s[0].toNat ≠ 48 ∨ s.size ≤ 1) : readNat s.data.toList = digits 0 s.data.toList := by
  have e0 := drop_at s 0 hp
  rw [List.drop_zero] at e0
  rw [e0, show (0 : Nat) + 1 = 1 from rfl]
  by_cases h1 : 1 < s.size
  · have e1 := drop_at s 1 h1
    rw [e1]
    have : s[0] ≠ 48 := fun hx => by
      have h2 : s[0].toNat = 48 := by rw [hx]; rfl
      omega
    simp [readNat, this]
  · rw [List.drop_of_length_le (by rw [← Lib.size_eq]; omega)]
    rfl
set_option maxHeartbeats 1000000 in
theorem unsigned_any (s : ByteArray) (w : World) (hs : s.size ≤ 4611686018427387904) :
    Calls Tryd.prog 63 #[.string s] w fun e w' => e = .returned (.tuple #[.int .u64 (natR s.data.toList).1, .bool (natR s.data.toList).2]) ∧ Below w.heap.size w w' := by
  by_cases h0 : s.size = 0
  · obtain rfl : s = ⟨#[]⟩ := by
      obtain ⟨⟨l⟩⟩ := s
      cases l with
      | nil => rfl
      | cons x r => simp [ByteArray.size] at h0
    go_enter Tryd.func63, Tryd.ntmps63
    go_wp2
    go_ret2
    exact ⟨uns_end rfl, Below.refl _ _⟩
  have hp : 0 < s.size := by omega
  have hne : ¬ s.toList = [] := by
    rw [Lib.toList_data]
    intro h
    have := Lib.size_eq s
    rw [h] at this
    simp only [List.length_nil] at this
    omega
  have hie : s.toList.isEmpty = false := by simpa using hne
  by_cases hz : s[0].toNat = 48 ∧ 1 < s.size
  · have X := Lib.hid (natR_none (readNat_bad s hp hz.1 hz.2))
    have h48 : ((s[0].toNat : Int) == 48) = true := by simp; omega
    have h1 : decide ((1 : Int) < (s.size : Int)) = true := decide_eq_true (by omega)
    have h1' : (1 : Int) < (s.size : Int) := by omega
    clear hz
    go_enter Tryd.func63, Tryd.ntmps63
    go_wp2
    go_ret2
    exact ⟨uns_end X.out, Below.refl _ _⟩
  have X := Lib.hid (readNat_fine s hp (by omega))
  have key : ((s[0].toNat : Int) == 48) = false ∨ (((s[0].toNat : Int) == 48) = true ∧ s.size ≤ 1) := by
    by_cases h48 : s[0].toNat = 48
    · exact Or.inr ⟨by simp; omega, by omega⟩
    · exact Or.inl (by simp; omega)
  clear hz
  rcases key with hb48 | ⟨hb48, h1⟩
  all_goals
    go_enter Tryd.func63, Tryd.ntmps63
    go_wp2_with fail
    clear hb48
    go_loopw [4] (fun n wr => UnsRel w s n wr) (fun _ wr => s.size - wr.iterPos w.heap.size)
    case atStart => exact ⟨0, 0, by omega, by omega, rfl, rfl, rfl⟩
    case round =>
      obtain ⟨j, acc, hj, hacc, rfl, hd, rfl⟩ := hrel
      have HD := Lib.hid hd
      clear hd
      by_cases hlt : j < s.size
      · have DA := Lib.hid (drop_at s j hlt)
        have hb := UInt8.toNat_lt s[j]
        by_cases ha : s[j].toNat < 128
        · have rn := fun ty => run_next_ascii (P := Tryd.prog) w s j ty hlt ha
          go_wp2_with fail
          all_goals first
            | (go_ret2
               refine ⟨uns_end (natR_none ?_), iter_below _ _ _⟩
               rw [X.out, HD.out, DA.out]
               exact digits_bad _ _ _ (by omega))
            | (refine ⟨⟨j + 1, acc * 10 + (s[j].toNat - 48), by omega, by omega, by go_num, ?_, rfl⟩, by simp; omega⟩
               rw [HD.out, DA.out]
               exact digits_step _ _ _ (by omega))
        · obtain ⟨r0, r1⟩ := decode_high s j hlt (by omega)
          have rn := fun ty => run_next_any (P := Tryd.prog) w s j ty hlt
          have r2 := decode_le s j
          go_wp2_with fail
          all_goals
            go_ret2
            refine ⟨uns_end (natR_none ?_), iter_below _ _ _⟩
            rw [X.out, HD.out, DA.out]
            exact digits_bad _ _ _ (by omega)
      · have rn := fun ty => run_next_end (P := Tryd.prog) w s j ty hlt
        have E := Lib.hid (show readNat s.data.toList = some acc by
          rw [X.out, HD.out, List.drop_of_length_le (by rw [← Lib.size_eq]; omega)]; rfl)
        go_wp2_with fail
        go_ret2
        exact ⟨uns_end (natR_some E.out), iter_below _ _ _⟩
end Go.Proofs.YtnoeiaicligmiaaDoor
