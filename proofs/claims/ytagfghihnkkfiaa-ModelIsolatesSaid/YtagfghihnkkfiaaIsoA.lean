/- Walks: two lists of pairs held against each other; two lists of numbers. -/
import Derived.Test.YtagfghihnkkfiaaOrdP
import Derived.Deep.LoopGhost
namespace Go.Proofs.Ytagfghihnkkfiaa
set_option linter.unusedVariables false
set_option linter.unusedSimpArgs false
open Go.RowKit Go.MapKept
def PairsAt (w : World) (g : Nat) (X : List (ByteArray × Int)) : Prop :=
  ∀ P x, X[P]? = some x → w.cell? ⟨g, P * 2, none⟩ = some (.string x.1) ∧ w.cell? ⟨g, P * 2 + 1, none⟩ = some (.int .u64 x.2)
def IntsIn (w : World) (g : Nat) (X : List Int) : Prop := ∀ P x, X[P]? = some x → w.cell? ⟨g, P, none⟩ = some (.int .i64 x)
theorem PairsAt.of_block {w w' : World} {g : Nat} {X : List (ByteArray × Int)} (h : PairsAt w g X) (hb : w'.heap[g]? = w.heap[g]?) : PairsAt w' g X :=
  fun P x hx => ⟨(World.cell?_of_block hb).trans (h P x hx).1, (World.cell?_of_block hb).trans (h P x hx).2⟩
theorem IntsIn.of_block {w w' : World} {g : Nat} {X : List Int} (h : IntsIn w g X) (hb : w'.heap[g]? = w.heap[g]?) : IntsIn w' g X :=
  fun P x hx => (World.cell?_of_block hb).trans (h P x hx)
def EqLp (w : World) (n : Nat) (i : Value) (wr : World) : Prop := ∃ j : Nat, j ≤ n ∧ i = .int .i64 j ∧ Below w.heap.size w wr ∧ wr.heap = w.heap
set_option maxHeartbeats 1000000 in
theorem pairs_eq (w : World) (g1 g2 c1 c2 : Nat) (X : List (ByteArray × Int)) (h1 : PairsAt w g1 X) (h2 : PairsAt w g2 X) (hn : X.length ≤ 1099511627776) :
    Calls Try.prog 17 #[.slice (some ⟨g1, 0, none⟩) X.length c1, .slice (some ⟨g2, 0, none⟩) X.length c2] w fun e w' => e = .returned (.bool true) ∧ Below w.heap.size w w' := by
  have H1 := Lib.hid h1
  have H2 := Lib.hid h2
  clear h1 h2
  go_enter Try.func17, Try.ntmps17
  go_wp2_with fail
  go_loopw [5] (fun i wr => EqLp w X.length i wr) (fun i _ => X.length - (intOf i).toNat)
  case atStart => exact ⟨0, by omega, rfl, Below.refl _ _, rfl⟩
  case round =>
    obtain ⟨j, hj, rfl, hb, hh⟩ := hrel
    have HB := Lib.hid hb
    have HH := Lib.hid hh
    clear hb hh
    by_cases hlt : j < X.length
    · obtain ⟨x, hx⟩ : ∃ x, X[j]? = some x := ⟨_, List.getElem?_eq_getElem hlt⟩
      obtain ⟨p1, p2⟩ := (H1.out.of_block (w' := wr) (by rw [HH.out])) j x hx
      obtain ⟨q1, q2⟩ := (H2.out.of_block (w' := wr) (by rw [HH.out])) j x hx
      have hj0 : (0 : Int) ≤ j := by omega
      have hj1 : (j : Int) < X.length := by omega
      clear hx
      go_wp2_with fail
      go_quiet (fail)
      go_wp2_with fail
      go_roundw
      case rel => exact ⟨j + 1, by omega, by go_num, below_drewN HB.out _, HH.out⟩
      case measure => simp [intOf]; omega
    · go_wp2_with fail
      go_ret
      exact ⟨rfl, HB.out⟩
set_option maxHeartbeats 1000000 in
theorem ints_eq (w : World) (g1 g2 c1 c2 : Nat) (X : List Int) (h1 : IntsIn w g1 X) (h2 : IntsIn w g2 X) (hn : X.length ≤ 1099511627776) :
    Calls Try.prog 18 #[.slice (some ⟨g1, 0, none⟩) X.length c1, .slice (some ⟨g2, 0, none⟩) X.length c2] w fun e w' => e = .returned (.bool true) ∧ Below w.heap.size w w' := by
  have H1 := Lib.hid h1
  have H2 := Lib.hid h2
  clear h1 h2
  go_enter Try.func18, Try.ntmps18
  go_wp2_with fail
  go_loopw [5] (fun i wr => EqLp w X.length i wr) (fun i _ => X.length - (intOf i).toNat)
  case atStart => exact ⟨0, by omega, rfl, Below.refl _ _, rfl⟩
  case round =>
    obtain ⟨j, hj, rfl, hb, hh⟩ := hrel
    have HB := Lib.hid hb
    have HH := Lib.hid hh
    clear hb hh
    by_cases hlt : j < X.length
    · obtain ⟨x, hx⟩ : ∃ x, X[j]? = some x := ⟨_, List.getElem?_eq_getElem hlt⟩
      have p1 := (H1.out.of_block (w' := wr) (by rw [HH.out])) j x hx
      have q1 := (H2.out.of_block (w' := wr) (by rw [HH.out])) j x hx
      have hj0 : (0 : Int) ≤ j := by omega
      have hj1 : (j : Int) < X.length := by omega
      clear hx
      go_wp2_with fail
      go_quiet (fail)
      go_wp2_with fail
      go_roundw
      case rel => exact ⟨j + 1, by omega, by go_num, below_drewN HB.out _, HH.out⟩
      case measure => simp [intOf]; omega
    · go_wp2_with fail
      go_ret
      exact ⟨rfl, HB.out⟩
end Go.Proofs.Ytagfghihnkkfiaa
