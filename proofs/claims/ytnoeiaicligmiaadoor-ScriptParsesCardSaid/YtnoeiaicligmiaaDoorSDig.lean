/- The walk of the reference's digit. -/
import Derived.Test.YtnoeiaicligmiaaDoorSApp
namespace Go.Proofs.YtnoeiaicligmiaaDoor
set_option linter.unusedVariables false
set_option linter.unusedSimpArgs false
open Go Go.RowKit
theorem index_hex64 (n : Nat) (h : n < 16) (W : World) : (Instr.index 9 (.string ⟨#[48, 49, 50, 51, 52, 53, 54, 55, 56, 57, 97, 98, 99, 100, 101, 102]⟩) (.int .i64 n)).run Tryd.prog W = .ok (.int .u8 ((hexD n).toNat : Nat)) W := by
  rcases (by omega : n = 0 ∨ n = 1 ∨ n = 2 ∨ n = 3 ∨ n = 4 ∨ n = 5 ∨ n = 6 ∨ n = 7 ∨ n = 8 ∨ n = 9 ∨ n = 10 ∨ n = 11 ∨ n = 12 ∨ n = 13 ∨ n = 14 ∨ n = 15) with rfl | rfl | rfl | rfl | rfl | rfl | rfl | rfl | rfl | rfl | rfl | rfl | rfl | rfl | rfl | rfl <;> kernel_rfl
/-- the value of a hexadecimal digit, or -1 -/
def hexI (b : UInt8) : Int := match hexV b with | some n => n | none => -1
theorem hexI_at (n : Nat) (h : n < 16) : hexI (hexD n) = n := by unfold hexI; rw [hexV_hexD n h]
theorem hexI_none (b : UInt8) (h : ∀ n, n < 16 → hexD n ≠ b) : hexI b = -1 := by
  unfold hexI
  cases hv : hexV b with
  | none => rfl
  | some n =>
    obtain ⟨h1, h2⟩ := hexD_hexV b n hv
    exact absurd h1 (h n h2)
def DigRel (b : UInt8) (i : Value) : Prop := ∃ k : Nat, k ≤ 16 ∧ i = .int .i64 k ∧ ∀ n, n < k → hexD n ≠ b
set_option maxHeartbeats 1000000 in
theorem digit_any (b : UInt8) (w : World) : Calls Tryd.prog 82 #[.int .u8 (b.toNat : Nat)] w fun e w' => e = .returned (.int .i64 (hexI b)) ∧ w = w' := by
  have hb := UInt8.toNat_lt b
  go_enter Tryd.func82, Tryd.ntmps82
  go_wp2
  go_loop [3] (fun i => DigRel b i) (fun i => 16 - (intOf i).toNat)
  case atStart => exact ⟨0, by omega, rfl, fun n hn => by omega⟩
  case round =>
    obtain ⟨k, hk, rfl, hall⟩ := hrel
    have HA := Lib.hid hall
    clear hall
    by_cases hlt : k < 16
    · have i1 := index_hex64 k hlt
      by_cases he : hexD k = b
      · have X := Lib.hid (show hexI b = k by rw [← he]; exact hexI_at k hlt)
        subst he
        go_wp2
        go_ret
        exact ⟨ret_int X.out.symm, rfl⟩
      · have hx : (((hexD k).toNat : Int) == (b.toNat : Int)) = false := by
          rw [beq_eq_false_iff_ne]
          intro h
          exact he (UInt8.toNat_inj.1 (by omega))
        have HE := Lib.hid he
        clear he
        go_wp2
        go_round
        case rel => exact ⟨k + 1, by omega, by go_num, fun n hn => by
          by_cases e : n = k
          · subst e; exact HE.out
          · exact HA.out n (by omega)⟩
        case measure => simp [intOf]; omega
    · have X := Lib.hid (hexI_none b (fun n hn => HA.out n (by omega)))
      go_wp2
      go_ret
      exact ⟨ret_int X.out.symm, rfl⟩
end Go.Proofs.YtnoeiaicligmiaaDoor
