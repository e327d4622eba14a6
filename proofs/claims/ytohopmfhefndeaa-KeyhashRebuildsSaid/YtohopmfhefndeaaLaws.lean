/- The walks of the laws on hash values. -/
import Derived.Test.YtohopmfhefndeaaHash
namespace Go.Proofs.Ytohopmfhefndeaa
set_option linter.unusedVariables false
open Go.RowKit
theorem num_a : hashM [97] 18446744073709551615 = 12638187200555641996 := by decide +kernel
theorem num_s : sl 4095 1 = 63 := by decide +kernel
theorem num_c : cm 1 65 = 1 := by decide +kernel
theorem a_hash (w : World) : Calls Try.prog 13 #[.string ⟨#[97]⟩, .int .u64 18446744073709551615] w fun e w' => e = .returned (.int .u64 12638187200555641996) ∧ w = w' :=
  (hash_any ⟨#[97]⟩ 18446744073709551615 w (by decide) (by decide) (by decide)).mono fun e w' ⟨he, hw⟩ => ⟨by rw [he]; exact ret_int num_a, hw⟩
theorem a_slice (w : World) : Calls Try.prog 15 #[.int .u64 4095, .int .i64 1] w fun e w' => e = .returned (.int .i64 63) ∧ w = w' :=
  (slice_any 4095 1 w (by decide) (by decide)).mono fun e w' ⟨he, hw⟩ => ⟨by rw [he]; exact ret_int num_s, hw⟩
theorem a_common (w : World) : Calls Try.prog 17 #[.int .u64 1, .int .u64 65] w fun e w' => e = .returned (.int .i64 1) ∧ w = w' :=
  (common_any 1 65 w (by decide) (by decide) (by decide) (by decide)).mono fun e w' ⟨he, hw⟩ => ⟨by rw [he]; exact ret_int num_c, hw⟩
theorem a_valid (w : World) : Calls Try.prog 11 #[.string ⟨#[97]⟩] w fun e w' => e = .returned (.bool true) ∧ w = w' :=
  (valid_any ⟨#[97]⟩ w (by decide)).mono fun e w' ⟨he, hw⟩ => ⟨by rw [he]; exact ret_bool (by decide), hw⟩
theorem awake_any (w : World) : Calls Try.prog 10 #[] w fun e w' => e = .returned (.bool true) ∧ w = w' := by
  go_enter Try.func10, Try.ntmps10
  go_wp2_with (first | (go_at_call 13; refine (a_hash _).mono ?_; rintro e w' ⟨rfl, rfl⟩) | (go_at_call 15; refine (a_slice _).mono ?_; rintro e w' ⟨rfl, rfl⟩) | (go_at_call 17; refine (a_common _).mono ?_; rintro e w' ⟨rfl, rfl⟩) | (go_at_call 11; refine (a_valid _).mono ?_; rintro e w' ⟨rfl, rfl⟩))
  go_ret
  exact ⟨rfl, rfl⟩
theorem hashes_walk (a0 : ByteArray) (a1 : Int) (w0 : a0.size ≤ maxLen) (h0 : 0 ≤ a1) (h1 : a1 ≤ 18446744073709551615) (w : World) :
    Calls Try.prog 3 #[.string a0, .int .u64 a1] w fun e w' => e = .returned (.bool true) ∧ w = w' := by
  have hb : (bits .andNot .u64 (hashM a0.data.toList a1) a1 == 0) = true := by
    rw [hash_andNot _ _ h0 h1]; rfl
  go_enter Try.func3, Try.ntmps3
  go_wp2_with (first | (go_at_call 10; refine (awake_any _).mono ?_; rintro e w' ⟨rfl, rfl⟩) | (go_at_call 11; refine (valid_any _ _ w0).mono ?_; rintro e w' ⟨rfl, rfl⟩) | (go_at_call 12; refine (valid_ref _ _ w0).mono ?_; rintro e w' ⟨rfl, rfl⟩) | (go_at_call 13; refine (hash_any _ _ _ w0 h0 h1).mono ?_; rintro e w' ⟨rfl, rfl⟩) | (go_at_call 14; refine (hash_ref _ _ _ w0 h0 h1).mono ?_; rintro e w' ⟨rfl, rfl⟩))
  go_ret
  exact ⟨rfl, rfl⟩
end Go.Proofs.Ytohopmfhefndeaa
