/- Families that differ in the order of their maps alone: plain law. -/
import Derived.Test.YtagfghihnkkfiaaPlOne
namespace Go.Proofs.Ytagfghihnkkfiaa
set_option linter.unusedVariables false
set_option linter.unusedSimpArgs false
open Go.RowKit Go.MapKept
structure EqvA (A B : AFam) : Prop where
  mask : A.mask = B.mask
  iters : A.iters = B.iters
  maps : A.maps.Perm B.maps
theorem EqvA.refl (A : AFam) : EqvA A A := ⟨rfl, rfl, List.Perm.refl _⟩
theorem EqvA.trans {A B C : AFam} (h : EqvA A B) (k : EqvA B C) : EqvA A C := ⟨h.mask.trans k.mask, h.iters.trans k.iters, h.maps.trans k.maps⟩
theorem EqvA.look {A B : AFam} (h : EqvA A B) (hn : NdA B) (k : Int) : alook A.maps k = alook B.maps k := alook_perm hn.maps h.maps k
theorem aset_perm2 {L M : List (Int × AMap)} (hp : L.Perm M) (hn : (M.map (·.1)).Nodup) (k : Int) (v : AMap) : (aset L k v).Perm (aset M k v) := by
  have hL : (L.map (·.1)).Nodup := (hp.map (·.1)).nodup_iff.2 hn
  have nL := aset_nodup hL k v
  have nM := aset_nodup hn k v
  have hl : ∀ q, alook (aset L k v) q = alook (aset M k v) q := fun q => by
    by_cases hq : q = k
    · subst hq; rw [alook_aset_self, alook_aset_self]
    · rw [alook_aset_ne _ _ _ _ hq, alook_aset_ne _ _ _ _ hq, alook_perm hn hp]
  refine (List.perm_ext_iff_of_nodup (nodup_of_keys nL) (nodup_of_keys nM)).2 fun p => ⟨fun h => ?_, fun h => ?_⟩
  · have := alook_some nL h
    rw [hl] at this
    exact alook_mem this
  · have := alook_some nM h
    rw [← hl] at this
    exact alook_mem this
theorem EqvA.set {A B : AFam} (h : EqvA A B) (hn : NdA B) (k : Int) (v : AMap) : EqvA { A with maps := aset A.maps k v } { B with maps := aset B.maps k v } := ⟨h.mask, h.iters, aset_perm2 h.maps hn.maps k v⟩
theorem refusal_eqv {A B : AFam} (h : EqvA A B) (hn : NdA B) (t i : Int) (o : OpD) : refusalA A t i o = refusalA B t i o := by
  have hl := h.look hn
  unfold refusalA unfitA takenA lostA
  simp only [hl, h.iters]
theorem applyA_eqv {A B : AFam} (h : EqvA A B) (hn : NdA B) (t i : Int) (o : OpD) : (applyA A t i o).2 = (applyA B t i o).2 ∧ EqvA (applyA A t i o).1 (applyA B t i o).1 := by
  have hl := h.look hn
  unfold applyA
  rw [refusal_eqv h hn]
  by_cases hz : refusalA B t i o ≠ 0
  · rw [if_pos hz, if_pos hz]
    exact ⟨rfl, h⟩
  · rw [if_neg hz, if_neg hz]
    by_cases hk : o.kind = 13
    · rw [if_pos hk, if_pos hk]
      unfold nextA
      rw [h.iters]
      cases hi : alook B.iters o.handle with
      | none => exact ⟨rfl, h⟩
      | some it =>
        simp only [hl]
        cases hm : alook B.maps it.number with
        | none => exact ⟨rfl, h⟩
        | some d =>
          simp only
          by_cases hp : (d.vals.length : Int) ≤ it.pos
          · rw [if_pos hp, if_pos hp]
            exact ⟨rfl, h⟩
          · rw [if_neg hp, if_neg hp, h.mask]
            exact ⟨rfl, ⟨rfl, rfl, h.maps⟩⟩
    · rw [if_neg hk, if_neg hk, hl]
      cases hm : alook B.maps o.handle with
      | none => exact ⟨rfl, h⟩
      | some d =>
        simp only
        unfold doA
        by_cases c4 : o.kind ≤ 4
        · rw [if_pos c4, if_pos c4]; exact ⟨rfl, h.set hn _ _⟩
        rw [if_neg c4, if_neg c4]
        by_cases c6 : o.kind ≤ 6
        · rw [if_pos c6, if_pos c6]; exact ⟨rfl, h.set hn _ _⟩
        rw [if_neg c6, if_neg c6]
        by_cases c7 : o.kind = 7
        · rw [if_pos c7, if_pos c7]; exact ⟨rfl, h⟩
        rw [if_neg c7, if_neg c7]
        by_cases c9 : o.kind ≤ 9
        · rw [if_pos c9, if_pos c9]; exact ⟨rfl, h.set hn _ _⟩
        rw [if_neg c9, if_neg c9]
        by_cases c10 : o.kind = 10
        · rw [if_pos c10, if_pos c10]; exact ⟨rfl, h.set hn _ _⟩
        rw [if_neg c10, if_neg c10]
        by_cases c11 : o.kind = 11
        · rw [if_pos c11, if_pos c11]; exact ⟨rfl, h⟩
        rw [if_neg c11, if_neg c11, h.iters]
        exact ⟨rfl, ⟨h.mask, rfl, h.maps⟩⟩
theorem mapEq_eqv {B B' : AFam} (h : EqvA B B') (hn : NdA B') : mapEqA B = mapEqA B' := by
  funext p
  unfold mapEqA
  rw [h.look hn]
theorem eqA_eqv {A A' B B' : AFam} (h : EqvA A A') (k : EqvA B B') (hn : NdA B') : eqA A B = eqA A' B' := by
  unfold eqA
  rw [h.mask, k.mask, h.iters, k.iters, mapEq_eqv k hn, h.maps.length_eq, k.maps.length_eq, h.maps.all_eq]
theorem NdA.eqv {A B : AFam} (h : EqvA A B) (hn : NdA B) : NdA A :=
  ⟨(h.maps.map (·.1)).nodup_iff.2 hn.maps, h.iters ▸ hn.iters, fun p hp => hn.vals p (h.maps.mem_iff.1 hp)⟩
theorem OkA.eqv {N : Nat} {A B : AFam} (h : EqvA A B) (hn : NdA B) (ok : OkA N B) : OkA N A :=
  ⟨h.mask ▸ ok.m0, h.mask ▸ ok.m1, fun p hp => ok.keys p (h.maps.mem_iff.1 hp), fun p hp => ok.lens p (h.maps.mem_iff.1 hp), h.iters ▸ ok.poss, fun p hp => by rw [h.look hn]; exact ok.nums p (h.iters ▸ hp), by rw [h.maps.length_eq]; exact ok.count⟩
/-- the number of iterators -/
theorem iters_apply (A : AFam) (t i : Int) (o : OpD) : (applyA A t i o).1.iters.length ≤ A.iters.length + 1 := by
  unfold applyA
  split
  · simp
  split
  · unfold nextA
    split
    · simp
    · split
      · simp
      · split
        · simp
        · exact aset_len _ _ _
  · split
    · simp
    · unfold doA
      repeat' split
      all_goals first | (simp only []; omega) | exact aset_len _ _ _
end Go.Proofs.Ytagfghihnkkfiaa
