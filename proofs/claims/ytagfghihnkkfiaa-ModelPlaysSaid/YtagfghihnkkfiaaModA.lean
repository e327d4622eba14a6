/- The walks of package model, first part: the refusals. -/
import Derived.Test.YtagfghihnkkfiaaFam
import Derived.Test.YtagfghihnkkfiaaHashP
import Derived.RegionTactic
import Derived.ChangeAlike
import Derived.BigRegion
namespace Go.Proofs.Ytagfghihnkkfiaa
set_option linter.unusedVariables false
set_option linter.unusedSimpArgs false
open Go.RowKit Go.MapKept
theorem number_any (t i : Int) (w : World) :
    Calls Try.prog 30 #[.int .i64 t, .int .i64 i] w fun e w' => e = .returned (.int .i64 (numberOf t i)) ∧ w = w' := by
  by_cases h1 : t < 0
  · have X := Lib.hid (show numberOf t i = -1 from if_pos (by omega))
    go_enter Try.func30, Try.ntmps30
    go_wp2
    go_ret
    exact ⟨ret_int X.out.symm, rfl⟩
  by_cases h2 : 8 ≤ t
  · have X := Lib.hid (show numberOf t i = -1 from if_pos (by omega))
    go_enter Try.func30, Try.ntmps30
    go_wp2
    go_ret
    exact ⟨ret_int X.out.symm, rfl⟩
  by_cases h3 : i < 0
  · have X := Lib.hid (show numberOf t i = -1 from if_pos (by omega))
    go_enter Try.func30, Try.ntmps30
    go_wp2
    go_ret
    exact ⟨ret_int X.out.symm, rfl⟩
  by_cases h4 : 16 ≤ i
  · have X := Lib.hid (show numberOf t i = -1 from if_pos (by omega))
    go_enter Try.func30, Try.ntmps30
    go_wp2
    go_ret
    exact ⟨ret_int X.out.symm, rfl⟩
  · have X := Lib.hid (show numberOf t i = 1 + t * 16 + i from if_neg (by omega))
    go_enter Try.func30, Try.ntmps30
    go_wp2
    go_ret
    exact ⟨ret_int X.out.symm, rfl⟩
theorem unfit_none (w : World) (bf bm bi : Nat) (F : FamD) (o : OpD) (h : FamIs w bf bm bi F) (hk : o.key.size ≤ maxLen) (hn : alook F.maps o.handle = none) :
    Calls Try.prog 47 #[.pointer (some ⟨bf, 0, none⟩), o.val] w fun e w' => e = .returned (.int .i64 5) ∧ Below w.heap.size w w' := by
  obtain ⟨kind, handle, key, value, expect⟩ := o
  unfold OpD.val
  have hlf := h.lt (k := bf) (Or.inl rfl)
  have hlm := h.lt (k := bm) (Or.inr (Or.inl rfl))
  obtain ⟨c0, c1, c2⟩ := h.cell
  have hl := h.look_maps handle true
  simp only [if_true] at hl hn
  rw [hn] at hl
  simp only [outOf, Option.isSome_none] at hl
  obtain ⟨a1, a2, a3⟩ := blocks_alloc hlm
  have hd : ∀ (W : World), W.drew.heap = W.heap := fun _ => rfl
  clear h hn
  go_enter Try.func47, Try.ntmps47
  go_wp2_with fail
  go_region
  go_wp2_with fail
  go_ret
  exact ⟨rfl, (((Below.refl _ _).alloc (Nat.le_refl _) _).alloc (by simp) _).drew⟩
theorem unfit_some (w : World) (bf bm bi : Nat) (F : FamD) (o : OpD) (d : MapD) (h : FamIs w bf bm bi F) (hk : o.key.size ≤ maxLen) (hn : alook F.maps o.handle = some d) :
    Calls Try.prog 47 #[.pointer (some ⟨bf, 0, none⟩), o.val] w fun e w' => e = .returned (.int .i64 (unfitD F o)) ∧ Below w.heap.size w w' := by
  obtain ⟨kind, handle, key, value, expect⟩ := o
  unfold OpD.val
  have hlf := h.lt (k := bf) (Or.inl rfl)
  have hlm := h.lt (k := bm) (Or.inr (Or.inl rfl))
  obtain ⟨c0, c1, c2⟩ := h.cell
  have hl := h.look_maps handle true
  simp only [if_true] at hl hn
  rw [hn] at hl
  simp only [outOf, Option.isSome_some, mapV] at hl
  obtain ⟨a1, a2, a3⟩ := blocks_alloc hlm
  have hd : ∀ (W : World), W.drew.heap = W.heap := fun _ => rfl
  have HN : Hid (unfitD F ⟨kind, handle, key, value, expect⟩ = unfitK kind key d.ro) := by show unfitD _ _ = _; unfold unfitD; rw [hn]
  clear h hn
  generalize hro : d.ro = ro at *
  clear hro
  go_enter Try.func47, Try.ntmps47
  go_wp2_with fail
  go_region
  go_wp2_with (go_at_call 60; refine (valid_any _ _ hk).mono ?_; rintro e w' ⟨rfl, rfl⟩)
  all_goals
    go_ret
    refine ⟨ret_int ?_, (((Below.refl _ _).alloc (Nat.le_refl _) _).alloc (by simp) _).drew⟩
    rw [HN.out]
    clear HN hl a1 a2 a3 hd c0 c1 c2
    simp_all [unfitK] <;> omega
theorem unfit_any (w : World) (bf bm bi : Nat) (F : FamD) (o : OpD) (h : FamIs w bf bm bi F) (hk : o.key.size ≤ maxLen) :
    Calls Try.prog 47 #[.pointer (some ⟨bf, 0, none⟩), o.val] w fun e w' => e = .returned (.int .i64 (unfitD F o)) ∧ Below w.heap.size w w' := by
  cases hn : alook F.maps o.handle with
  | none =>
    refine (unfit_none w bf bm bi F o h hk hn).mono fun e w' ⟨he, hb⟩ => ⟨?_, hb⟩
    rw [he]; unfold unfitD; rw [hn]
  | some d => exact unfit_some w bf bm bi F o d h hk hn
theorem refusal_bad (w : World) (bf bm bi : Nat) (F : FamD) (t i : Int) (o : OpD) (h : FamIs w bf bm bi F) (hk : o.key.size ≤ maxLen) (hb : numberOf t i < 0 ∨ o.kind < 1 ∨ 13 < o.kind) :
    Calls Try.prog 29 #[.pointer (some ⟨bf, 0, none⟩), .int .i64 t, .int .i64 i, o.val] w fun e w' => e = .returned (.int .i64 (refusalD F t i o)) ∧ Below w.heap.size w w' := by
  have X := Lib.hid (show refusalD F t i o = 1 from if_pos hb)
  obtain ⟨kind, handle, key, value, expect⟩ := o
  unfold OpD.val
  clear h
  by_cases h1 : numberOf t i < 0
  · go_enter Try.func29, Try.ntmps29
    go_wp2_with (go_at_call 30; refine (number_any _ _ _).mono ?_; rintro e w' ⟨rfl, rfl⟩)
    go_ret
    exact ⟨ret_int X.out.symm, (Below.refl _ _).alloc (Nat.le_refl _) _⟩
  by_cases h2 : kind < 1
  · go_enter Try.func29, Try.ntmps29
    go_wp2_with (go_at_call 30; refine (number_any _ _ _).mono ?_; rintro e w' ⟨rfl, rfl⟩)
    go_ret
    exact ⟨ret_int X.out.symm, (Below.refl _ _).alloc (Nat.le_refl _) _⟩
  · have h3 : 13 < kind := by rcases hb with hb | hb | hb <;> first | exact absurd hb h1 | exact absurd hb h2 | exact hb
    clear hb
    go_enter Try.func29, Try.ntmps29
    go_wp2_with (go_at_call 30; refine (number_any _ _ _).mono ?_; rintro e w' ⟨rfl, rfl⟩)
    go_ret
    exact ⟨ret_int X.out.symm, (Below.refl _ _).alloc (Nat.le_refl _) _⟩
theorem refusal_next (w : World) (bf bm bi : Nat) (F : FamD) (t i : Int) (o : OpD) (h : FamIs w bf bm bi F) (hk : o.key.size ≤ maxLen) (hb : ¬ (numberOf t i < 0 ∨ o.kind < 1 ∨ 13 < o.kind)) (h13 : o.kind = 13) :
    Calls Try.prog 29 #[.pointer (some ⟨bf, 0, none⟩), .int .i64 t, .int .i64 i, o.val] w fun e w' => e = .returned (.int .i64 (refusalD F t i o)) ∧ Below w.heap.size w w' := by
  have X := Lib.hid (show refusalD F t i o = (if lostD F t o.handle then 5 else if takenD F (numberOf t i) then 8 else 0) by unfold refusalD; rw [if_neg hb, if_pos (by simp [h13])])
  obtain ⟨kind, handle, key, value, expect⟩ := o
  unfold OpD.val
  simp only at h13 hb X
  subst h13
  have hlf := h.lt (k := bf) (Or.inl rfl)
  have hlm := h.lt (k := bm) (Or.inr (Or.inl rfl))
  have hli := h.lt (k := bi) (Or.inr (Or.inr (Or.inl rfl)))
  obtain ⟨c0, c1, c2⟩ := h.cell
  obtain ⟨a1, a2, a3⟩ := blocks_alloc hlm
  obtain ⟨b1, b2, b3⟩ := blocks_alloc hli
  obtain ⟨k2, k3⟩ := cells_alloc hlf
  have hd := drew_heap
  have hn0 : ¬ numberOf t i < 0 := fun hh => hb (Or.inl hh)
  obtain ⟨x, y, hm⟩ := h.ask_maps (numberOf t i)
  obtain ⟨x1, y1, z1, hi⟩ := h.ask_iters (numberOf t i)
  have hl := h.look_iters handle true
  have T := Lib.hid (show takenD F (numberOf t i) = ((alook F.maps (numberOf t i)).isSome || (alook F.iters (numberOf t i)).isSome) from rfl)
  generalize (alook F.maps (numberOf t i)).isSome = q1 at *
  generalize (alook F.iters (numberOf t i)).isSome = q2 at *
  cases hn : alook F.iters handle with
  | none =>
    have L := Lib.hid (show lostD F t handle = true by unfold lostD; rw [hn])
    rw [hn] at hl
    simp only [if_true, outOf, Option.isSome_none] at hl
    clear hn h hb
    go_enter Try.func29, Try.ntmps29
    go_wp2_with (go_at_call 30; refine (number_any _ _ _).mono ?_; rintro e w' ⟨rfl, rfl⟩)
    go_region
    go_wp2_with fail
    go_ret
    exact ⟨ret_int (by rw [X.out, L.out]; rfl), (((Below.refl _ _).alloc (Nat.le_refl _) _).alloc (by simp) _).drew⟩
  | some d =>
    obtain ⟨dt, dn, dp⟩ := d
    have L := Lib.hid (show lostD F t handle = (dt != t) by unfold lostD; rw [hn])
    rw [hn] at hl
    simp only [if_true, outOf, itV, Option.isSome_some] at hl
    clear hn h hb
    go_enter Try.func29, Try.ntmps29
    go_wp2_with (go_at_call 30; refine (number_any _ _ _).mono ?_; rintro e w' ⟨rfl, rfl⟩)
    go_region
    go_wp2_with fail
    all_goals
      go_ret
      refine ⟨ret_int ?_, ?_⟩
      rotate_left
      · first
          | exact (((Below.refl _ _).alloc (Nat.le_refl _) _).alloc (by simp) _).drew
          | exact (((((Below.refl _ _).alloc (Nat.le_refl _) _).alloc (by simp) _).alloc (by simp; omega) _).alloc (by simp; omega) _).drew
      · rw [X.out, L.out, T.out]
        clear X L T hl hm hi a1 a2 a3 b1 b2 b3 hd c0 c1 c2 k2 k3
        simp_all
end Go.Proofs.Ytagfghihnkkfiaa
