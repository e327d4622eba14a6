/- The walks of the reference's Check, and of Operations. -/
import Derived.Test.YtnoeiaicligmiaaDoorSMem
namespace Go.Proofs.YtnoeiaicligmiaaDoor
set_option linter.unusedVariables false
set_option linter.unusedSimpArgs false
open Go Go.RowKit
set_option maxHeartbeats 1000000 in
theorem rcheck_any (w : World) (A D : Option Addr) (c d : Nat) (s : ScrD) (h : ScrAt w A D s) :
    Calls Tryd.prog 23 #[scrV s.mask A s.threads.length c D s.picks.length d] w fun e w' => e = .returned (.int .i64 (checkS s)) ∧ Below w.heap.size w w' := by
  obtain ⟨m, ts, ps⟩ := s
  have hl0 := h.l0
  have hl1 := h.l1
  have hl2 := Lib.hid h.l2
  have HT := Lib.hid h.thr
  simp only [scrV] at *
  by_cases h8 : 8 < ts.length
  · have X := Lib.hid (show checkS ⟨m, ts, ps⟩ = 3 from if_pos (Or.inl h8))
    clear h
    go_enter Tryd.func23, Tryd.ntmps23
    go_wp2
    go_ret
    exact ⟨ret_int X.out.symm, (Below.refl _ _).alloc (Nat.le_refl _) _⟩
  by_cases hp : 67108864 < ps.length
  · have X := Lib.hid (show checkS ⟨m, ts, ps⟩ = 3 from if_pos (Or.inr hp))
    clear h
    go_enter Tryd.func23, Tryd.ntmps23
    go_wp2
    go_ret
    exact ⟨ret_int X.out.symm, (Below.refl _ _).alloc (Nat.le_refl _) _⟩
  have X := Lib.hid (show checkS ⟨m, ts, ps⟩ = if ts.any (fun t => decide (16 < t.length)) then 3 else 0 from if_neg (by simp only; omega))
  have d8 : decide ((8 : Int) < (ts.length : Int)) = false := decide_eq_false (by omega)
  have dp : decide ((67108864 : Int) < (ps.length : Int)) = false := decide_eq_false (by omega)
  clear h
  go_enter Tryd.func23, Tryd.ntmps23
  go_wp2
  go_loop [3] (fun i => ChkRel ts i) (fun i => ts.length - (intOf i).toNat)
  case atStart => exact ⟨0, by omega, rfl, fun j t hj => by omega⟩
  case round =>
    obtain ⟨k, hk, rfl, hall⟩ := hrel
    have HA := Lib.hid hall
    clear hall d8 dp
    by_cases hlt : k < ts.length
    · obtain ⟨t, ht⟩ : ∃ t, ts[k]? = some t := ⟨_, List.getElem?_eq_getElem hlt⟩
      obtain ⟨b, off, u, cc, rfl, hcell, _⟩ := thr_cell HT.out (.cells #[.int .u64 m, .slice A ts.length c, .slice D ps.length d] 32) ht
      have ht2 := hl2.out t (List.mem_of_getElem? ht)
      have TT := Lib.hid ht
      clear ht
      by_cases h16 : 16 < t.length
      · go_wp2
        go_ret
        exact ⟨ret_int (by rw [X.out, any_long TT.out h16]; rfl), (Below.refl _ _).alloc (Nat.le_refl _) _⟩
      · go_wp2
        go_round
        case rel => exact ⟨k + 1, by omega, by go_num, fun j t' hj hj' => by
          by_cases e : j = k
          · subst e
            rw [TT.out] at hj'
            simp only [Option.some.injEq] at hj'
            subst hj'
            omega
          · exact HA.out j t' (by omega) hj'⟩
        case measure => simp [intOf]; omega
    · go_wp2
      go_ret
      refine ⟨ret_int ?_, (Below.refl _ _).alloc (Nat.le_refl _) _⟩
      rw [X.out, none_long (fun i t hi => HA.out i t (by have := (List.getElem?_eq_some_iff.1 hi).1; omega) hi)]
      rfl
def sumL (ts : List (List OpD)) : Int := ((ts.map List.length).sum : Nat)
theorem sumL_take {ts : List (List OpD)} {k : Nat} {t : List OpD} (h : ts[k]? = some t) : sumL (ts.take (k + 1)) = sumL (ts.take k) + t.length := by
  obtain ⟨hk, e⟩ := List.getElem?_eq_some_iff.1 h
  unfold sumL
  rw [List.take_succ_eq_append_getElem hk, e]
  simp
theorem sumL_le (ts : List (List OpD)) (n : Nat) (h : ∀ t ∈ ts, t.length ≤ n) : 0 ≤ sumL ts ∧ sumL ts ≤ ts.length * n := by
  induction ts with
  | nil => simp [sumL]
  | cons t r ih =>
    have h1 := h t (.head _)
    have h2 := ih (fun x hx => h x (.tail _ hx))
    have e : sumL (t :: r) = t.length + sumL r := by simp [sumL]
    rw [e]
    simp only [List.length_cons]
    have e2 : ((r.length + 1 : Nat) : Int) * n = r.length * n + n := by push_cast; rw [Int.add_mul]; omega
    omega
def OpsRel (ts : List (List OpD)) (n i : Value) : Prop := ∃ k : Nat, k ≤ ts.length ∧ i = .int .i64 k ∧ n = .int .i64 (sumL (ts.take k))
set_option maxHeartbeats 1000000 in
theorem ops_any (w : World) (A D : Option Addr) (c d : Nat) (s : ScrD) (h : ScrAt w A D s) (h0 : s.threads.length ≤ 1000) (h1 : ∀ t ∈ s.threads, t.length ≤ 1000) :
    Calls Tryd.prog 21 #[scrV s.mask A s.threads.length c D s.picks.length d] w fun e w' => e = .returned (.int .i64 (sumL s.threads)) ∧ Below w.heap.size w w' := by
  obtain ⟨m, ts, ps⟩ := s
  have H1 := Lib.hid h1
  have HT := Lib.hid h.thr
  have hp := h.l1
  simp only [scrV] at *
  clear h h1
  go_enter Tryd.func21, Tryd.ntmps21
  go_wp2
  go_loop [3, 9] (fun n i => OpsRel ts n i) (fun _ i => ts.length - (intOf i).toNat)
  case atStart => exact ⟨0, by omega, rfl, by simp [sumL]⟩
  case round =>
    obtain ⟨k, hk, rfl, rfl⟩ := hrel
    have hs := sumL_le (ts.take k) 1000 (fun t ht => H1.out t (List.mem_of_mem_take ht))
    have hl : ((ts.take k).length : Int) ≤ 1000 := by simp; omega
    have hs2 : sumL (ts.take k) ≤ 1000000 := by omega
    have hs1 := hs.1
    clear hs hl
    by_cases hlt : k < ts.length
    · obtain ⟨t, ht⟩ : ∃ t, ts[k]? = some t := ⟨_, List.getElem?_eq_getElem hlt⟩
      obtain ⟨b, off, u, cc, rfl, hcell, _⟩ := thr_cell HT.out (.cells #[.int .u64 m, .slice A ts.length c, .slice D ps.length d] 32) ht
      have ht2 := H1.out t (List.mem_of_getElem? ht)
      have TT := Lib.hid (sumL_take ht)
      clear ht
      go_wp2
      go_round
      case rel => exact ⟨k + 1, by omega, by go_num, by rw [TT.out]⟩
      case measure => simp [intOf]; omega
    · go_wp2
      go_ret
      refine ⟨ret_int ?_, (Below.refl _ _).alloc (Nat.le_refl _) _⟩
      rw [List.take_of_length_le (by omega)]
set_option maxHeartbeats 1000000 in
theorem rops_any (w : World) (A D : Option Addr) (c d : Nat) (s : ScrD) (h : ScrAt w A D s) (h0 : s.threads.length ≤ 1000) (h1 : ∀ t ∈ s.threads, t.length ≤ 1000) :
    Calls Tryd.prog 39 #[scrV s.mask A s.threads.length c D s.picks.length d] w fun e w' => e = .returned (.int .i64 (sumL s.threads)) ∧ Below w.heap.size w w' := by
  obtain ⟨m, ts, ps⟩ := s
  have H1 := Lib.hid h1
  have HT := Lib.hid h.thr
  have hp := h.l1
  simp only [scrV] at *
  clear h h1
  go_enter Tryd.func39, Tryd.ntmps39
  go_wp2
  go_loop [3, 4] (fun n i => OpsRel ts n i) (fun _ i => ts.length - (intOf i).toNat)
  case atStart => exact ⟨0, by omega, rfl, by simp [sumL]⟩
  case round =>
    obtain ⟨k, hk, rfl, rfl⟩ := hrel
    have hs := sumL_le (ts.take k) 1000 (fun t ht => H1.out t (List.mem_of_mem_take ht))
    have hl : ((ts.take k).length : Int) ≤ 1000 := by simp; omega
    have hs2 : sumL (ts.take k) ≤ 1000000 := by omega
    have hs1 := hs.1
    clear hs hl
    by_cases hlt : k < ts.length
    · obtain ⟨t, ht⟩ : ∃ t, ts[k]? = some t := ⟨_, List.getElem?_eq_getElem hlt⟩
      obtain ⟨b, off, u, cc, rfl, hcell, _⟩ := thr_cell HT.out (.cells #[.int .u64 m, .slice A ts.length c, .slice D ps.length d] 32) ht
      have ht2 := H1.out t (List.mem_of_getElem? ht)
      have TT := Lib.hid (sumL_take ht)
      clear ht
      go_wp2
      go_round
      case rel => exact ⟨k + 1, by omega, by go_num, by rw [TT.out]⟩
      case measure => simp [intOf]; omega
    · go_wp2
      go_ret
      refine ⟨ret_int ?_, (Below.refl _ _).alloc (Nat.le_refl _) _⟩
      rw [List.take_of_length_le (by omega)]
end Go.Proofs.YtnoeiaicligmiaaDoor
