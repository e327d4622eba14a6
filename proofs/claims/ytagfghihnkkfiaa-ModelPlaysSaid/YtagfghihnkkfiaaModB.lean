/- The walks of package model, second part: refusal, set, remove. -/
import Derived.Test.YtagfghihnkkfiaaModA
namespace Go.Proofs.Ytagfghihnkkfiaa
set_option linter.unusedVariables false
set_option linter.unusedSimpArgs false
open Go.RowKit Go.MapKept
theorem refusal_map (w : World) (bf bm bi : Nat) (F : FamD) (t i : Int) (o : OpD) (h : FamIs w bf bm bi F) (hk : o.key.size ≤ maxLen) (hb : ¬ (numberOf t i < 0 ∨ o.kind < 1 ∨ 13 < o.kind)) (h13 : ¬ o.kind = 13) :
    Calls Try.prog 29 #[.pointer (some ⟨bf, 0, none⟩), .int .i64 t, .int .i64 i, o.val] w fun e w' => e = .returned (.int .i64 (refusalD F t i o)) ∧ Below w.heap.size w w' := by
  have X := Lib.hid (show refusalD F t i o = (if unfitD F o != 0 then unfitD F o else if takenD F (numberOf t i) then 8 else 0) by unfold refusalD; rw [if_neg hb, if_neg (by simp [h13])])
  have hA := h.below ((Below.refl w.heap.size w).alloc (Nat.le_refl _) (.cells #[.int .i64 o.kind, .int .i64 o.handle, .string o.key, .int .u64 o.value, .int .u64 o.expect] 39))
  have hu := unfit_any (w.alloc (.cells #[.int .i64 o.kind, .int .i64 o.handle, .string o.key, .int .u64 o.value, .int .u64 o.expect] 39)) bf bm bi F o hA hk
  obtain ⟨kind, handle, key, value, expect⟩ := o
  unfold OpD.val at hu ⊢
  simp only at h13 hb X hA hu
  have hkd : (kind == 13) = false := by simp [h13]
  have hlf := h.lt (k := bf) (Or.inl rfl)
  have hn0 : ¬ numberOf t i < 0 := fun hh => hb (Or.inl hh)
  have hn1 : 1 ≤ kind := by omega
  have hn2 : kind ≤ 13 := by omega
  have T := Lib.hid (show takenD F (numberOf t i) = ((alook F.maps (numberOf t i)).isSome || (alook F.iters (numberOf t i)).isSome) from rfl)
  clear h hb h13
  have HU := Lib.hid hu
  have HA := Lib.hid hA
  clear hu hA
  generalize unfitD F ⟨kind, handle, key, value, expect⟩ = u at *
  by_cases hz : u = 0
  · subst hz
    go_enter Try.func29, Try.ntmps29
    go_wp2_with (go_at_call 30; refine (number_any _ _ _).mono ?_; rintro e w' ⟨rfl, rfl⟩)
    refine HU.out.mono ?_
    rintro e w1 ⟨rfl, hb1⟩
    have h1 := HA.out.below hb1
    have hlf1 := h1.lt (k := bf) (Or.inl rfl)
    have hlm := h1.lt (k := bm) (Or.inr (Or.inl rfl))
    have hli := h1.lt (k := bi) (Or.inr (Or.inr (Or.inl rfl)))
    obtain ⟨c0, c1, c2⟩ := h1.cell
    obtain ⟨a1, a2, a3⟩ := blocks_alloc hlm
    obtain ⟨b1, b2, b3⟩ := blocks_alloc hli
    obtain ⟨k2, k3⟩ := cells_alloc hlf1
    obtain ⟨x, y, hm⟩ := h1.ask_maps (numberOf t i)
    obtain ⟨x1, y1, z1, hi⟩ := h1.ask_iters (numberOf t i)
    have BB := Lib.hid (Below.trans ((Below.refl w.heap.size w).alloc (Nat.le_refl _) _) (hb1.mono (by simp)))
    clear HA HU h1 hb1
    generalize (alook F.maps (numberOf t i)).isSome = q1 at *
    generalize (alook F.iters (numberOf t i)).isSome = q2 at *
    go_wp2_with fail
    all_goals
      go_ret
      refine ⟨ret_int ?_, (BB.out.alloc (by have := BB.out.size; omega) _).alloc (by have := BB.out.size; simp; omega) _⟩
      rw [X.out, T.out]
      clear X T hm hi a1 a2 a3 b1 b2 b3 c0 c1 c2 k2 k3
      simp_all
  · have hz' : (u != 0) = true := by simp [hz]
    go_enter Try.func29, Try.ntmps29
    go_wp2_with (go_at_call 30; refine (number_any _ _ _).mono ?_; rintro e w' ⟨rfl, rfl⟩)
    refine HU.out.mono ?_
    rintro e w1 ⟨rfl, hb1⟩
    have BB := Lib.hid (Below.trans ((Below.refl w.heap.size w).alloc (Nat.le_refl _) _) (hb1.mono (by simp)))
    clear HA HU hb1
    go_wp2_with fail
    go_ret
    exact ⟨ret_int (by rw [X.out, hz']; rfl), BB.out⟩
theorem refusal_any (w : World) (bf bm bi : Nat) (F : FamD) (t i : Int) (o : OpD) (h : FamIs w bf bm bi F) (hk : o.key.size ≤ maxLen) :
    Calls Try.prog 29 #[.pointer (some ⟨bf, 0, none⟩), .int .i64 t, .int .i64 i, o.val] w fun e w' => e = .returned (.int .i64 (refusalD F t i o)) ∧ Below w.heap.size w w' := by
  by_cases hb : numberOf t i < 0 ∨ o.kind < 1 ∨ 13 < o.kind
  · exact refusal_bad w bf bm bi F t i o h hk hb
  by_cases h13 : o.kind = 13
  · exact refusal_next w bf bm bi F t i o h hk hb h13
  · exact refusal_map w bf bm bi F t i o h hk hb h13
end Go.Proofs.Ytagfghihnkkfiaa
