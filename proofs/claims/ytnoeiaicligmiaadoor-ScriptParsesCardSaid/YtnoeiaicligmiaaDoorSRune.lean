/- strings.IndexRune in the text of the hexadecimal digits, at a rune that is no letter of seven bits. -/
import Derived.Test.YtnoeiaicligmiaaDoorSSig
import Derived.Test.YtnoeiaicligmiaaDoorSWho
import Derived.Laws.Runes
import Derived.Lib.Bytealg
import Derived.WalkMore
import Derived.IntWalk
namespace Go.Proofs.YtnoeiaicligmiaaDoor
set_option linter.unusedVariables false
set_option linter.unusedSimpArgs false
open Go Go.RowKit
theorem d16_size : digs16.size = 16 := rfl
theorem d16_ascii : ∀ b ∈ digs16.data.toList, b.toNat < 128 := by decide +kernel
theorem d16_at (j : Nat) (h : j < digs16.size) : (digs16[j]'h).toNat < 128 := d16_ascii _ (Array.getElem_mem_toList (xs := digs16.data) h)
def RuneRel (w : World) (wr : World) : Prop := ∃ j : Nat, j ≤ 16 ∧ wr = w.iter digs16 j
set_option maxRecDepth 100000 in
set_option maxHeartbeats 4000000 in
theorem rune_error (w : World) : Calls Tryd.prog 81 #[.string digs16, .int .i32 65533] w fun e w' => e = .returned (.int .i64 (-1)) ∧ Below w.heap.size w w' := by
  go_enter Tryd.func81, Tryd.ntmps81
  go_wp2_with fail
  go_loopw [] (fun wr => RuneRel w wr) (fun wr => 16 - wr.iterPos w.heap.size)
  case atStart => exact ⟨0, by omega, rfl⟩
  case round =>
    obtain ⟨j, hj, rfl⟩ := hrel
    by_cases hlt : j < 16
    · have h1 := d16_at j hlt
      have rn := fun ty => run_next_ascii (P := Tryd.prog) w digs16 j ty hlt h1
      have hne : (((digs16[j]'hlt).toNat : Int) == 65533) = false := by simp; omega
      go_wp2_with fail
      exact ⟨⟨j + 1, by omega, rfl⟩, by simp; omega⟩
    · have rn := fun ty => run_next_end (P := Tryd.prog) w digs16 j ty hlt
      go_wp2_with fail
      go_ret
      exact ⟨rfl, iter_below _ _ _⟩
set_option maxRecDepth 100000 in
set_option maxHeartbeats 4000000 in
theorem rune_bad (w : World) (r : Int) (h0 : 128 ≤ r) (h1 : r ≤ 2147483647) (hne : r ≠ 65533) (hv : Lib.validRune r = false) : Calls Tryd.prog 81 #[.string digs16, .int .i32 r] w fun e w' => e = .returned (.int .i64 (-1)) ∧ Below w.heap.size w w' := by
  have hx : (r == 65533) = false := by simpa using hne
  have V := Lib.hid (Tryd.utf8_ValidRune r w)
  rw [hv] at V
  have d1 : decide (r < 128) = false := decide_eq_false (by omega)
  clear hv hne
  go_enter Tryd.func81, Tryd.ntmps81
  go_wp2_with fail
  refine V.out.mono ?_
  rintro e w' ⟨rfl, rfl⟩
  go_wp2_with fail
  go_ret
  exact ⟨rfl, Below.refl _ _⟩
theorem quiet_plus {P : Program} {f : FuncId} {args : Array Value} {w : World} {a n : Nat} {v : Value} (h : Calls P f args (w.drewN (a + n)) fun e w' => e = .returned v ∧ w' = w.drewN (a + n)) :
    Calls P f args (w.drewN (a + n)) fun e w' => e = .returned v ∧ ∃ m, w' = w.drewN (a + m) := h.mono fun _ _ ⟨he, hw⟩ => ⟨he, n, hw⟩
def RgRel (m : Nat) (w : World) (i : Value) (wr : World) : Prop := i = .int .i64 (m : Int) ∧ w = wr
set_option maxRecDepth 100000 in
set_option maxHeartbeats 4000000 in
theorem rune_good (w : World) (r : Int) (h0 : 128 ≤ r) (h1 : r ≤ 2147483647) (hne : r ≠ 65533) (hv : Lib.validRune r = true) : Calls Tryd.prog 81 #[.string digs16, .int .i32 r] w fun e w' => e = .returned (.int .i64 (-1)) ∧ Below w.heap.size w w' := by
  have hx : (r == 65533) = false := by simpa using hne
  have V := Lib.hid (Tryd.utf8_ValidRune r w)
  rw [hv] at V
  have d1 : decide (r < 128) = false := decide_eq_false (by omega)
  obtain ⟨n2, n4, nl⟩ := encode_facts r (by rw [validRune_eq]; exact hv) h0
  clear hv hne
  generalize hN : Utf8.encode r = N at n2 n4 nl
  go_enter Tryd.func81, Tryd.ntmps81
  go_wp2_with fail
  refine V.out.mono ?_
  rintro e w' ⟨rfl, rfl⟩
  go_wp2_with fail
  go_step3
  go_wp2_with fail
  obtain ⟨m, hm⟩ : ∃ m : Nat, m = N.size - 1 := ⟨_, rfl⟩
  have hm1 : m < N.size := by omega
  have hc : 128 ≤ N[m].toNat := by
    have := nl (by omega)
    simp only [← hm] at this
    exact this
  have e1 : (N.size : Int) - 1 = (m : Int) := by omega
  simp only [e1]
  have m1 : 1 ≤ m := by omega
  have m3 : m ≤ 3 := by omega
  clear nl e1 hm
  have i1 : ∀ W, (Instr.index 9 (.string digs16) (.int .i64 (m : Int))).run Tryd.prog W = .ok (.int .u8 ((hexD m).toNat : Nat)) W := fun W => index_hex64 m (by omega) W
  have hx16 : (hexD m).toNat < 128 := by
    have : ∀ k : Fin 16, (hexD k.val).toNat < 128 := by decide +kernel
    exact this ⟨m, by omega⟩
  have hne : ((((hexD m).toNat : Nat) : Int) != ((N[m].toNat : Nat) : Int)) = true := by simp; omega
  have d16 : (digs16.size : Int) = 16 := rfl
  have s0 : (0 : Int) ≤ m := by omega
  have s1 : (m : Int) < N.size := by omega
  go_loopw [9] (fun i wr => RgRel m w' i wr) (fun _ _ => 0)
  case atStart => exact ⟨rfl, rfl⟩
  case round =>
    obtain ⟨rfl, rfl⟩ := hrel
    go_wp2_with fail
    go_step3
    go_wp2_with fail
    go_quiet (fail)
    go_wp2_with fail
    have IB : ∀ W, Calls Tryd.prog 91 #[.string (digs16.extract (m + 1) 16), .int .u8 ((N[m].toNat : Nat) : Int)] W fun e w'' => e = .returned (.int .i64 (-1)) ∧ w'' = W := fun W => by
      have h := Tryd.strings_IndexByte (digs16.extract (m + 1) 16) ((N[m].toNat : Nat) : Int) W
      rw [← Lib.firstIdx_eq, firstIdx_ascii digs16 (m + 1) 16 _ d16_ascii (by simpa using hc)] at h
      exact h
    have HI := Lib.hid IB
    clear IB
    have wm : IntKind.i64.wrap ((m : Int) + 1) = (m : Int) + 1 := IntWalk.i64_in _ (by omega)
    have wm0 : (0 : Int) ≤ (m : Int) + 1 := by omega
    have wm1 : ((m : Int) + 1).toNat = m + 1 := by omega
    have wm2 : (m : Int) + 1 ≤ 16 := by omega
    go_quiet ((go_at_call 91; exact quiet_plus (HI.out _)))
    clear wm wm0 wm1 wm2
    go_wp2_with fail
    show bodyPost Tryd.prog Tryd.f81 (fun e w'' => e = .returned (.int .i64 (-1)) ∧ Below w'.heap.size w' w'') Exit.ret _ _
    go_ret
    exact ⟨rfl, FewDraws.below ⟨_, rfl⟩ _⟩
theorem rune_any (w : World) (r : Int) (h0 : 128 ≤ r) (h1 : r ≤ 2147483647) : Calls Tryd.prog 81 #[.string digs16, .int .i32 r] w fun e w' => e = .returned (.int .i64 (-1)) ∧ Below w.heap.size w w' := by
  by_cases he : r = 65533
  · subst he; exact rune_error w
  · cases hv : Lib.validRune r with
    | true => exact rune_good w r h0 h1 he hv
    | false => exact rune_bad w r h0 h1 he hv
end Go.Proofs.YtnoeiaicligmiaaDoor
