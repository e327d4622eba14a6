/- The walk of the reference's whole. -/
import Derived.Test.YtnoeiaicligmiaaDoorSNat
namespace Go.Proofs.YtnoeiaicligmiaaDoor
set_option linter.unusedVariables false
set_option linter.unusedSimpArgs false
open Go Go.RowKit
theorem app_minus (l : List UInt8) : (ByteArray.mk #[45]) ++ ⟨l.toArray⟩ = ⟨(45 :: l).toArray⟩ := by
  apply bytes_ext
  rw [Lib.toList_data, Lib.toList_data, ByteArray.data_append, Array.toList_append]
  rfl
set_option maxHeartbeats 1000000 in
theorem whole_any (v : Int) (h0 : -9223372036854775808 ≤ v) (h1 : v ≤ 9223372036854775807) (w : World) : Calls Tryd.prog 26 #[.int .i64 v] w fun e w' => e = .returned (.string ⟨(Lib.itoa v).toArray⟩) ∧ w = w' := by
  by_cases hn : v < 0
  · have X := Lib.hid (show Lib.itoa v = 45 :: Lib.decDigits v.natAbs by unfold Lib.itoa; rw [if_pos hn])
    have hl := dec_len 19 v.natAbs (by omega)
    go_enter Tryd.func26, Tryd.ntmps26
    go_wp2_with fail
    have hq : -(v + 1) + 1 = ((v.natAbs : Nat) : Int) := by omega
    rw [hq]
    refine (natural_any v.natAbs (by omega) _).mono ?_
    rintro e w' ⟨rfl, rfl⟩
    clear hq
    go_wp2_with fail
    go_ret
    refine ⟨?_, rfl⟩
    rw [X.out]
    exact congrArg Ending.returned (congrArg Value.string (app_minus _))
  · have X := Lib.hid (show Lib.itoa v = Lib.decDigits v.toNat by unfold Lib.itoa; rw [if_neg hn])
    obtain ⟨n, rfl⟩ := Int.eq_ofNat_of_zero_le (by omega : 0 ≤ v)
    go_enter Tryd.func26, Tryd.ntmps26
    go_wp2_with fail
    refine (natural_any n (by omega) _).mono ?_
    rintro e w' ⟨rfl, rfl⟩
    go_wp2_with fail
    go_ret
    exact ⟨by rw [X.out]; rfl, rfl⟩
end Go.Proofs.YtnoeiaicligmiaaDoor
