/- The walks of package model, fourth part: New, and the comparison of ordered. -/
import Derived.Test.YtagfghihnkkfiaaFam
import Derived.Test.YtagfghihnkkfiaaHashP
namespace Go.Proofs.Ytagfghihnkkfiaa
set_option linter.unusedVariables false
set_option linter.unusedSimpArgs false
open Go.RowKit Go.MapKept
set_option maxRecDepth 100000 in
theorem new_any (w : World) (m : Int) :
    Calls Try.prog 7 #[.int .u64 m] w fun e w' => e = .returned (.pointer (some ⟨w.heap.size + 3, 0, none⟩)) ∧ Below w.heap.size w w' ∧
      FamIs w' (w.heap.size + 3) w.heap.size (w.heap.size + 2) { mask := m, maps := [(0, { ref := w.heap.size + 1, vals := [], ro := false })], iters := [] } := by
  have hmm := @run_makeMap Try.prog
  have m0 : MapIs ((w.alloc (.map #[] 0)).alloc (.map #[] 0)) w.heap.size (.int .i64) (Value.int .i64) mapV ([] : List (Int × MapD)) := (MapIs.made w _ _ _).alloc _
  have m1 : ValsIs ((w.alloc (.map #[] 0)).alloc (.map #[] 0)) (w.heap.size + 1) [] := by
    have := MapIs.made (κ := ByteArray) (β := Int) (w.alloc (.map #[] 0)) .string Value.string (Value.int .u64)
    simpa using this
  obtain ⟨o, hrun, hmi⟩ := m0.update (P := Try.prog) key_int inj_int Try.underlying75 Try.underlying3 0 { ref := w.heap.size + 1, vals := [], ro := false }
  have hT := Turned.mk' (w := (w.alloc (.map #[] 0)).alloc (.map #[] 0)) w.heap.size o
  simp only [mapV] at hrun
  generalize ChangeMaps.setBlock ((w.alloc (.map #[] 0)).alloc (.map #[] 0)) w.heap.size o = w2 at *
  have hz : w2.heap.size = w.heap.size + 2 := by rw [hT.size]; simp
  have M0 := Lib.hid hmi
  have M1 := Lib.hid (m1.of_block (hT.block (w.heap.size + 1) (by omega)))
  have BB : Hid (Below w.heap.size w w2) := ⟨hT.os, hT.tape, hT.output, by rw [hz]; omega, fun k hk => by
    rw [hT.block k (by omega), Below.heap_alloc _ _ _ (by simp; omega), Below.heap_alloc _ _ _ hk]⟩
  clear m0 m1 hmi hT
  go_enter Try.func7, Try.ntmps7
  go_wp2_with fail
  go_ret
  refine ⟨rfl, (BB.out.alloc (by omega) _).alloc (by simp; omega) _, ?_⟩
  have hz3 : (w2.alloc (.map #[] 0)).heap.size = w.heap.size + 3 := by simp [hz]
  refine ⟨?_, ?_, ?_, ?_, ?_⟩
  · have := (heap_alloc (w2.alloc (.map #[] 0)) (.cells #[.int .u64 m, .map (some w.heap.size), .map (some (w.heap.size + 2))] 78)).1
    rw [hz3] at this
    exact this
  · exact (M0.out.alloc _).alloc _
  · have := (MapIs.made (κ := Int) (β := IterD) w2 (.int .i64) (Value.int .i64) itV).alloc (.cells #[.int .u64 m, .map (some w.heap.size), .map (some (w.heap.size + 2))] 78)
    rw [hz] at this
    exact this
  · intro p hp
    simp only [List.mem_singleton] at hp
    subst hp
    exact (M1.out.alloc _).alloc _
  · simp
theorem compare_same (k : ByteArray) (w : World) :
    Calls Try.prog 53 #[.string k, .string k] w fun e w' => e = .returned (.int .i64 0) ∧ w = w' := by
  have hi := bl_irrefl k.toList
  go_enter Try.func53, Try.ntmps53
  go_wp2
  go_ret
  exact ⟨rfl, rfl⟩
/-- the order of the pairs of a map -/
def ltP (m : Int) (x y : ByteArray × Int) : Bool := lessB (hashM x.1.data.toList m) x.1.toList (hashM y.1.data.toList m) y.1.toList
def cmpP (m : Int) (x y : ByteArray × Int) : Int := if ltP m x y then -1 else if ltP m y x then 1 else 0
def encP (m : Int) (x : ByteArray × Int) : List Value := [.int .u64 (hashM x.1.data.toList m), .string x.1, .int .u64 x.2]
set_option maxHeartbeats 1000000 in
theorem closure_any (m : Int) (x y : ByteArray × Int) (W : World) :
    Calls Try.prog 51 #[.agg (encP m x).toArray, .agg (encP m y).toArray] W fun e w' => e = .returned (.int .i64 (cmpP m x y)) ∧ ∃ o1 o2, w' = (W.alloc o1).alloc o2 := by
  obtain ⟨k, v⟩ := x
  obtain ⟨k', v'⟩ := y
  have b1 := hashM_bd k.data.toList m
  have b2 := hashM_bd k'.data.toList m
  have X := Lib.hid (show cmpP m (k, v) (k', v') = if lessB (hashM k.data.toList m) k.toList (hashM k'.data.toList m) k'.toList then -1 else if lessB (hashM k'.data.toList m) k'.toList (hashM k.data.toList m) k.toList then 1 else 0 from rfl)
  show Calls Try.prog 51 #[.agg #[.int .u64 (hashM k.data.toList m), .string k, .int .u64 v], .agg #[.int .u64 (hashM k'.data.toList m), .string k', .int .u64 v']] W _
  generalize hashM k.data.toList m = h at *
  generalize hashM k'.data.toList m = h' at *
  rcases hx : lessB h k.toList h' k'.toList with _ | _
  · rcases hy : lessB h' k'.toList h k.toList with _ | _
    · obtain ⟨e1, e2⟩ := less_total h k.toList h' k'.toList b1.1 b1.2 b2.1 b2.2 hx hy
      have e3 := bytes_ext k k' e2
      subst e1 e3
      have Z := Lib.hid (show cmpP m (k, v) (k, v') = 0 by rw [X.out, hx]; simp)
      clear e2 hy X
      go_enter Try.func51, Try.ntmps51
      go_wp2_with (first | (go_at_call 52; ((with_reducible refine (less_any _ _ _ _ _ (by omega) (by omega) (by omega) (by omega)).mono ?_); rintro e w' ⟨rfl, rfl⟩)) | (go_at_call 53; refine (compare_same _ _).mono ?_; rintro e w' ⟨rfl, rfl⟩))
      go_ret
      exact ⟨ret_int Z.out.symm, _, _, rfl⟩
    · have Z := Lib.hid (show cmpP m (k, v) (k', v') = 1 by rw [X.out, hx, hy]; simp)
      clear X
      go_enter Try.func51, Try.ntmps51
      go_wp2_with (go_at_call 52; ((with_reducible refine (less_any _ _ _ _ _ (by omega) (by omega) (by omega) (by omega)).mono ?_); rintro e w' ⟨rfl, rfl⟩))
      go_ret
      exact ⟨ret_int Z.out.symm, _, _, rfl⟩
  · have Z := Lib.hid (show cmpP m (k, v) (k', v') = -1 by rw [X.out, hx]; simp)
    clear X
    go_enter Try.func51, Try.ntmps51
    go_wp2_with (go_at_call 52; ((with_reducible refine (less_any _ _ _ _ _ (by omega) (by omega) (by omega) (by omega)).mono ?_); rintro e w' ⟨rfl, rfl⟩))
    go_ret
    exact ⟨ret_int Z.out.symm, _, _, rfl⟩
end Go.Proofs.Ytagfghihnkkfiaa
