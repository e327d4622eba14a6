/- The walk of the law's 'small'. -/
import Derived.Test.YtnoeiaicligmiaaDoorSChk
namespace Go.Proofs.YtnoeiaicligmiaaDoor
set_option linter.unusedVariables false
set_option linter.unusedSimpArgs false
open Go Go.RowKit
def SmallRel (ts : List (List OpD)) (i : Value) : Prop := ∃ k : Nat, k ≤ ts.length ∧ i = .int .i64 k ∧ ∀ j t, j < k → ts[j]? = some t → t.length ≤ 20
def smallS (s : ScrD) : Bool := decide (s.threads.length ≤ 12 ∧ s.picks.length ≤ 200 ∧ ∀ t ∈ s.threads, t.length ≤ 20)
theorem ret_bool' {a b : Bool} (h : a = b) : Ending.returned (.bool a) = .returned (.bool b) := by rw [h]
set_option maxHeartbeats 1000000 in
theorem small_any (w : World) (A D : Option Addr) (c d : Nat) (s : ScrD) (h : ScrAt w A D s) :
    Calls Tryd.prog 15 #[scrV s.mask A s.threads.length c D s.picks.length d] w fun e w' => e = .returned (.bool (smallS s)) ∧ Below w.heap.size w w' := by
  obtain ⟨m, ts, ps⟩ := s
  have hl0 := h.l0
  have hl1 := h.l1
  have hl2 := Lib.hid h.l2
  have HT := Lib.hid h.thr
  simp only [scrV] at *
  by_cases h8 : 12 < ts.length
  · have X := Lib.hid (show smallS ⟨m, ts, ps⟩ = false from decide_eq_false (by simp only; omega))
    clear h
    go_enter Tryd.func15, Tryd.ntmps15
    go_wp2
    go_ret
    exact ⟨ret_bool' X.out.symm, (Below.refl _ _).alloc (Nat.le_refl _) _⟩
  by_cases hp : 200 < ps.length
  · have X := Lib.hid (show smallS ⟨m, ts, ps⟩ = false from decide_eq_false (by simp only; omega))
    clear h
    go_enter Tryd.func15, Tryd.ntmps15
    go_wp2
    go_ret
    exact ⟨ret_bool' X.out.symm, (Below.refl _ _).alloc (Nat.le_refl _) _⟩
  have d8 : decide ((12 : Int) < (ts.length : Int)) = false := decide_eq_false (by omega)
  have dp : decide ((200 : Int) < (ps.length : Int)) = false := decide_eq_false (by omega)
  clear h
  go_enter Tryd.func15, Tryd.ntmps15
  go_wp2
  go_loop [3] (fun i => SmallRel ts i) (fun i => ts.length - (intOf i).toNat)
  case atStart => exact ⟨0, by omega, rfl, fun j t hj => by omega⟩
  case round =>
    obtain ⟨k, hk, rfl, hall⟩ := hrel
    have HA := Lib.hid hall
    clear hall d8 dp
    by_cases hlt : k < ts.length
    · obtain ⟨t, ht⟩ : ∃ t, ts[k]? = some t := ⟨_, List.getElem?_eq_getElem hlt⟩
      obtain ⟨b, off, u, cc, rfl, hcell, _⟩ := thr_cell HT.out (.cells #[.int .u64 m, .slice A ts.length c, .slice D ps.length d] 32) ht
      have ht2 := hl2.out t (List.mem_of_getElem? ht)
      have TT := Lib.hid ht
      clear ht
      by_cases h16 : 20 < t.length
      · go_wp2
        go_ret
        refine ⟨ret_bool' ?_, (Below.refl _ _).alloc (Nat.le_refl _) _⟩
        refine (decide_eq_false (fun hh => ?_)).symm
        have := hh.2.2 t (List.mem_of_getElem? TT.out)
        omega
      · go_wp2
        go_round
        case rel => exact ⟨k + 1, by omega, by go_num, fun j t' hj hj' => by
          by_cases e : j = k
          · subst e
            rw [TT.out] at hj'
            simp only [Option.some.injEq] at hj'
            subst hj'
            omega
          · exact HA.out j t' (by omega) hj'⟩
        case measure => simp [intOf]; omega
    · go_wp2
      go_ret
      refine ⟨ret_bool' ?_, (Below.refl _ _).alloc (Nat.le_refl _) _⟩
      refine (decide_eq_true ⟨by simp only; omega, by simp only; omega, fun t ht => ?_⟩).symm
      obtain ⟨i, hi⟩ := List.mem_iff_getElem?.1 ht
      exact HA.out i t (by have := (List.getElem?_eq_some_iff.1 hi).1; simp only at this; omega) hi
end Go.Proofs.YtnoeiaicligmiaaDoor
