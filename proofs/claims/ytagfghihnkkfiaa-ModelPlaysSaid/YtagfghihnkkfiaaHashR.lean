/- The walks of the reference's hash functions. -/
import Derived.Test.YtagfghihnkkfiaaProg
import Derived.Test.YtagfghihnkkfiaaPlain
import Derived.WalkKit
import Derived.WalkLawsBesides
import Derived.WalkSpells
import Derived.Outline
import Derived.Lib.Hide
namespace Go.Proofs.Ytagfghihnkkfiaa
set_option linter.unusedVariables false
set_option linter.unusedSimpArgs false
open Go.RowKit
theorem hash_ref (s : ByteArray) (m : Int) (w : World) (hs : s.size ≤ maxLen) (h0 : 0 ≤ m) (h1 : m ≤ 18446744073709551615) :
    Calls Try.prog 15 #[.string s, .int .u64 m] w fun e w' => e = .returned (.int .u64 (hashM s.data.toList m)) ∧ w = w' := by
  unfold maxLen at hs
  go_enter Try.func15, Try.ntmps15
  go_wp2
  go_loop [5, 6] (fun n i => ∃ k : Nat, k ≤ s.size ∧ i = .int .i64 k ∧ n = .int .u64 (hashI (s.data.toList.take k))) (fun _ i => s.size - (intOf i).toNat)
  case atStart => exact ⟨0, Nat.zero_le _, rfl, rfl⟩
  case round =>
    obtain ⟨k, hk, rfl, rfl⟩ := hrel
    by_cases hlt : k < s.size
    · go_wp2
      go_round
      case rel => exact ⟨k + 1, by omega, by go_num, by rw [take_snoc s k hlt, ← hashI_step, u8wrap]⟩
      case measure => simp [intOf]; omega
    · go_wp2
      go_ret
      exact ⟨ret_int (by rw [List.take_of_length_le (by simp; omega), hash_mask _ _ h0 h1]), rfl⟩
theorem valid_ref (s : ByteArray) (w : World) (hs : s.size ≤ maxLen) :
    Calls Try.prog 56 #[.string s] w fun e w' => e = .returned (.bool (decide ((s.size : Int) ≤ 64))) ∧ w = w' := by
  unfold maxLen at hs
  go_enter Try.func56, Try.ntmps56
  go_wp2
  go_ret
  exact ⟨rfl, rfl⟩
theorem slice_ref (h l : Int) (w : World) (h0 : 0 ≤ h) (h1 : h ≤ 18446744073709551615) :
    Calls Try.prog 36 #[.int .u64 h, .int .i64 l] w fun e w' => e = .returned (.int .i64 (sl h l)) ∧ w = w' := by
  by_cases hl : l < 0 ∨ 11 ≤ l
  · have X := Lib.hid (sl_out h l hl)
    rcases hl with hl | hl
    · go_enter Try.func36, Try.ntmps36
      go_wp2
      go_ret
      exact ⟨ret_int X.out.symm, rfl⟩
    · have hl' : ¬ l < 0 := by omega
      go_enter Try.func36, Try.ntmps36
      go_wp2
      go_ret
      exact ⟨ret_int X.out.symm, rfl⟩
  · have l0 : 0 ≤ l := by omega
    have l1 : l < 11 := by omega
    have X := Lib.hid (sl_in h l l0 l1)
    clear hl
    go_enter Try.func36, Try.ntmps36
    go_wp2
    go_loop [0, 1] (fun n i => ∃ j : Int, 0 ≤ j ∧ j ≤ l ∧ i = .int .i64 j ∧ n = .int .u64 (dv h l j)) (fun _ i => (intOf i).toNat)
    case atStart => exact ⟨l, l0, Int.le_refl _, rfl, congrArg _ (dv_start h l h0)⟩
    case round =>
      obtain ⟨j, j0, j1, rfl, rfl⟩ := hrel
      have hb := dv_bd h l j h0 h1
      by_cases hlt : 0 < j
      · have Y := Lib.hid (dv_step h l j h0 hlt j1)
        go_wp2
        go_round
        case rel => exact ⟨j - 1, by omega, by omega, rfl, congrArg _ Y.out⟩
        case measure => simp [intOf]; omega
      · have Y := Lib.hid (dv_end h l j h0 h1 l0 l1 (by omega))
        go_wp2
        go_ret
        exact ⟨ret_int Y.out, rfl⟩
theorem less_ref (h k : Int) (a b : ByteArray) (w : World) (h0 : 0 ≤ h) (h1 : h ≤ 18446744073709551615) (k0 : 0 ≤ k) (k1 : k ≤ 18446744073709551615) :
    Calls Try.prog 14 #[.int .u64 h, .string a, .int .u64 k, .string b] w fun e w' => e = .returned (.bool (lessB h a.toList k b.toList)) ∧ w = w' := by
  go_enter Try.func14, Try.ntmps14
  go_wp2
  go_loop [9] (fun i => ∃ j : Nat, j ≤ 11 ∧ cm h k = (cmFrom h k (11 - j) j : Nat) ∧ i = .int .i64 j) (fun i => 11 - (intOf i).toNat)
  case atStart => exact ⟨0, by omega, rfl, rfl⟩
  case round =>
    obtain ⟨j, j1, jc, rfl⟩ := hrel
    have JC := Lib.hid jc
    clear jc
    by_cases hlt : j < 11
    · by_cases he : sl h j = sl k j
      · have HE := Lib.hid he
        have hb : (sl h j != sl k j) = false := by simp [he]
        clear he
        go_wp2_with (go_at_call 36; refine (slice_ref _ _ _ (by omega) (by omega)).mono ?_; rintro e w' ⟨rfl, rfl⟩)
        go_round
        case rel => exact ⟨j + 1, by omega, by rw [JC.out, show 11 - j = (11 - (j + 1)) + 1 by omega, cmFrom_eq h k _ _ HE.out], by go_num⟩
        case measure => simp [intOf]; omega
      · have HE := Lib.hid he
        have hb : (sl h j != sl k j) = true := by simp [he]
        clear he
        have C := Lib.hid (show cm h k = j by rw [JC.out, show 11 - j = (11 - (j + 1)) + 1 by omega, cmFrom_ne h k _ _ HE.out])
        go_wp2_with (go_at_call 36; refine (slice_ref _ _ _ (by omega) (by omega)).mono ?_; rintro e w' ⟨rfl, rfl⟩)
        go_ret
        exact ⟨ret_bool (by rw [lessB_in _ _ _ _ (by rw [C.out]; omega), C.out]), rfl⟩
    · have C := Lib.hid (show cm h k = 11 by rw [JC.out, show 11 - j = 0 by omega, show j = 11 by omega]; rfl)
      go_wp2_with fail
      go_ret
      exact ⟨ret_bool (by rw [lessB_out _ _ _ _ (by rw [C.out]; omega)]), rfl⟩
end Go.Proofs.Ytagfghihnkkfiaa
