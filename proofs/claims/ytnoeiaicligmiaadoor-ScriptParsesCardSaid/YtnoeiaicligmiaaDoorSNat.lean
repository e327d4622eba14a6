/- The walk of the reference's natural. -/
import Derived.Test.YtnoeiaicligmiaaDoorSDig
namespace Go.Proofs.YtnoeiaicligmiaaDoor
set_option linter.unusedVariables false
set_option linter.unusedSimpArgs false
open Go Go.RowKit
theorem app_dig (d : Nat) (suf : List UInt8) (h : d < 10) : (ByteArray.mk #[48, 49, 50, 51, 52, 53, 54, 55, 56, 57]).extract d (d + 1) ++ ⟨suf.toArray⟩ = ⟨(UInt8.ofNat (48 + d) :: suf).toArray⟩ := by
  apply bytes_ext
  rw [Lib.toList_data, Lib.toList_data, ByteArray.data_append, Array.toList_append]
  rcases (by omega : d = 0 ∨ d = 1 ∨ d = 2 ∨ d = 3 ∨ d = 4 ∨ d = 5 ∨ d = 6 ∨ d = 7 ∨ d = 8 ∨ d = 9) with rfl | rfl | rfl | rfl | rfl | rfl | rfl | rfl | rfl | rfl <;> rfl
def NatRel (m : Nat) (v s : Value) : Prop := ∃ (n : Nat) (suf : List UInt8), n < 18446744073709551616 ∧ v = .int .u64 n ∧ s = .string ⟨suf.toArray⟩ ∧ Lib.decDigits n ++ suf = Lib.decDigits m ∧ suf.length ≤ 20
set_option maxHeartbeats 1000000 in
theorem natural_any (m : Nat) (hm : m < 18446744073709551616) (w : World) : Calls Tryd.prog 24 #[.int .u64 m] w fun e w' => e = .returned (.string ⟨(Lib.decDigits m).toArray⟩) ∧ w = w' := by
  go_enter Tryd.func24, Tryd.ntmps24
  go_wp2
  go_loop [0, 3] (fun v s => NatRel m v s) (fun v _ => (intOf v).toNat)
  case atStart => exact ⟨m, [], hm, rfl, rfl, by simp, by simp⟩
  case round =>
    obtain ⟨n, suf, hn, rfl, rfl, he, hs⟩ := hrel
    have HE := Lib.hid he
    clear he
    have hd : n % 10 < 10 := by omega
    generalize hdd : n % 10 = d at hd
    have h10 : (n : Int) % 10 = (d : Int) := by omega
    have HD := Lib.hid hdd
    clear hdd
    have hmeas : ¬ n < 10 → n / 10 < n := by omega
    rcases (by omega : d = 0 ∨ d = 1 ∨ d = 2 ∨ d = 3 ∨ d = 4 ∨ d = 5 ∨ d = 6 ∨ d = 7 ∨ d = 8 ∨ d = 9) with rfl | rfl | rfl | rfl | rfl | rfl | rfl | rfl | rfl | rfl
    all_goals
      by_cases h0 : n < 10
      · have hz : ((n : Int) / 10 == 0) = true := by simp; omega
        go_wp2
        go_ret
        refine ⟨?_, rfl⟩
        have e := HE.out
        rw [dec_one n h0, show n = n % 10 by omega, HD.out] at e
        rw [← e]
        exact congrArg Ending.returned (congrArg Value.string (app_dig _ suf (by decide)))
      · have hz : ((n : Int) / 10 == 0) = false := by simp; omega
        go_wp2
        go_round
        case rel =>
          refine ⟨n / 10, UInt8.ofNat (48 + n % 10) :: suf, by omega, by go_num, ?_, ?_, ?_⟩
          · rw [HD.out]
            exact congrArg Value.string (app_dig _ suf (by decide))
          · have e := HE.out
            rw [dec_more n h0, List.append_assoc] at e
            exact e
          · have e := HE.out
            rw [dec_more n h0, List.append_assoc] at e
            have hl := congrArg List.length e
            have hm2 := dec_len 19 m (by omega)
            simp only [List.length_append, List.length_cons, List.length_nil] at hl ⊢
            omega
        case measure => simp [intOf]; omega
end Go.Proofs.YtnoeiaicligmiaaDoor
