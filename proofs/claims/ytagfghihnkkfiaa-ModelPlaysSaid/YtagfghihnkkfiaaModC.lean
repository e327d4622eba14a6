/- The walks of package model, third part: set, remove. -/
import Derived.Test.YtagfghihnkkfiaaFam
import Derived.Test.YtagfghihnkkfiaaHashP
import Derived.OwnWalk
import Derived.Maps.Own
import Derived.Maps.OwnSet
namespace Go.Proofs.Ytagfghihnkkfiaa
set_option linter.unusedVariables false
set_option linter.unusedSimpArgs false
open Go.RowKit Go.MapKept
theorem blocks_alloc4 {w : World} {b : Nat} (hb : b < w.heap.size) (o o2 o3 o4 : Obj) : ((((w.alloc o).alloc o2).alloc o3).alloc o4).heap[b]? = w.heap[b]? := by
  obtain ⟨_, _, a3⟩ := blocks_alloc hb
  rw [Below.heap_alloc _ o4 b (by simp; omega), a3]
/-- the cases of a permission -/
theorem perm_cases {kind expect v : Int} {q : Bool} {f : Option Int} (hq : f.isSome = q) (hv : f.getD 0 = v) (hp : permK kind expect f = true) :
    (kind = 2 ∧ q = false) ∨ (kind = 3 ∧ q = true) ∨ (kind = 4 ∧ q = true ∧ (v == expect) = true) ∨ ((kind == 2) = false ∧ (kind == 3) = false ∧ (kind == 4) = false) := by
  unfold permK at hp
  rw [hq, hv] at hp
  by_cases h2 : kind = 2
  · subst h2; simp at hp; exact Or.inl ⟨rfl, hp⟩
  by_cases h3 : kind = 3
  · subst h3; simp at hp; exact Or.inr (Or.inl ⟨rfl, hp⟩)
  by_cases h4 : kind = 4
  · subst h4; simp at hp; exact Or.inr (Or.inr (Or.inl ⟨rfl, hp.1, by simp [hp.2]⟩))
  · exact Or.inr (Or.inr (Or.inr ⟨by simp [h2], by simp [h3], by simp [h4]⟩))
theorem perm_not {kind expect v : Int} {q : Bool} {f : Option Int} (hq : f.isSome = q) (hv : f.getD 0 = v) (hp : permK kind expect f = false) :
    (kind = 2 ∧ q = true) ∨ (kind = 3 ∧ q = false) ∨ (kind = 4 ∧ q = false) ∨ (kind = 4 ∧ q = true ∧ (v == expect) = false) := by
  unfold permK at hp
  rw [hq, hv] at hp
  by_cases h2 : kind = 2
  · subst h2; simp at hp; exact Or.inl ⟨rfl, hp⟩
  by_cases h3 : kind = 3
  · subst h3; simp at hp; exact Or.inr (Or.inl ⟨rfl, hp⟩)
  by_cases h4 : kind = 4
  · subst h4
    cases q
    · exact Or.inr (Or.inr (Or.inl ⟨rfl, rfl⟩))
    · simp at hp; exact Or.inr (Or.inr (Or.inr ⟨rfl, rfl, by simp [hp]⟩))
  · simp [h2, h3, h4] at hp
set_option maxRecDepth 100000 in
set_option maxHeartbeats 1000000 in
theorem set_yes (w : World) (d : MapD) (o : OpD) (h : ValsIs w d.ref d.vals) (hp : permK o.kind o.expect (alook d.vals o.key) = true) :
    Calls Try.prog 31 #[mapV d, o.val] w fun e w' => e = .returned (.agg (setR d.vals o).cells) ∧ ValsIs w' d.ref (setV d.vals o) ∧ Only (· = d.ref) w w' := by
  have X := Lib.hid (show setV d.vals o = aset d.vals o.key o.value from if_pos hp)
  have Y := Lib.hid (show setR d.vals o = { found := (alook d.vals o.key).isSome, value := (alook d.vals o.key).getD 0, count := 1 } by unfold setR; rw [if_pos hp])
  obtain ⟨kind, handle, key, value, expect⟩ := o
  obtain ⟨r, L, ro⟩ := d
  simp only [OpD.val, mapV] at *
  have hlr := h.lt
  obtain ⟨a1, a2, a3⟩ := blocks_alloc hlr
  have a4 := blocks_alloc4 hlr
  have hl := h.look key
  have H := Lib.hid h
  clear h
  have hc := perm_cases rfl rfl hp
  clear hp
  generalize (alook L key).isSome = q at *
  generalize (alook L key).getD 0 = v at *
  rcases hc with ⟨rfl, rfl⟩ | ⟨rfl, rfl⟩ | ⟨rfl, rfl, hv⟩ | ⟨h2, h3, h4⟩
  all_goals
    go_enter Try.func31, Try.ntmps31
    go_wp2_with (at_mapUpdate; (refine wpList_update_is _ rfl _ _ _ 72 rfl 9 22 Try.underlying72 Try.underlying9 key_str inj_str ((((H.out.alloc _).alloc _).alloc _).alloc _) rfl key rfl value rfl ?_); intro w1 hm1 ht1; (have hsz : w.heap.size + 1 + 1 + 1 < w1.heap.size := by (have := ht1.size; simp at this; omega)); have hc1 := fun j => ht1.cell (w.heap.size + 1 + 1 + 1) j (by omega); have hf1 := fun j => ht1.frozen (w.heap.size + 1 + 1 + 1) j (by omega); have hc2 := fun j => ht1.cell (w.heap.size + 1 + 1) j (by omega); have hf2 := fun j => ht1.frozen (w.heap.size + 1 + 1) j (by omega); have M1 := Lib.hid hm1; have T1 := Lib.hid ht1; clear hm1 ht1)
    refine bodyPost_ret (v := .agg (setR L _).cells) ?hres rfl ⟨rfl, ?_, ?_⟩
    case hres => rw [Y.out]; simp [results, Try.results31, go_sem, ResD.cells, hc1, hc2]
    · rw [X.out]
      iterate 9 (refine MapIs.setAt ?_ (by omega) _)
      exact M1.out
    · iterate 9 (refine Only.setAt ?_ (by omega) _)
      refine Only.turned ?_ T1.out (Or.inl rfl)
      exact ((((Only.refl _ _).alloc _).alloc _).alloc _).alloc _
set_option maxRecDepth 100000 in
set_option maxHeartbeats 1000000 in
theorem set_no (w : World) (d : MapD) (o : OpD) (h : ValsIs w d.ref d.vals) (hp : permK o.kind o.expect (alook d.vals o.key) = false) :
    Calls Try.prog 31 #[mapV d, o.val] w fun e w' => e = .returned (.agg (setR d.vals o).cells) ∧ ValsIs w' d.ref (setV d.vals o) ∧ Only (· = d.ref) w w' := by
  have X := Lib.hid (show setV d.vals o = d.vals by unfold setV; rw [hp]; rfl)
  have Y := Lib.hid (show setR d.vals o = { found := (alook d.vals o.key).isSome, value := (alook d.vals o.key).getD 0, count := 0 } by unfold setR; rw [hp]; rfl)
  obtain ⟨kind, handle, key, value, expect⟩ := o
  obtain ⟨r, L, ro⟩ := d
  simp only [OpD.val, mapV] at *
  have hlr := h.lt
  obtain ⟨a1, a2, a3⟩ := blocks_alloc hlr
  have a4 := blocks_alloc4 hlr
  have hl := h.look key
  have H := Lib.hid h
  clear h
  have hc := perm_not rfl rfl hp
  clear hp
  generalize (alook L key).isSome = q at *
  generalize (alook L key).getD 0 = v at *
  rcases hc with ⟨rfl, rfl⟩ | ⟨rfl, rfl⟩ | ⟨rfl, rfl⟩ | ⟨rfl, rfl, hv⟩
  all_goals
    go_enter Try.func31, Try.ntmps31
    go_wp2_with fail
    refine bodyPost_ret (v := .agg (setR L _).cells) ?hres rfl ⟨rfl, ?_, ?_⟩
    case hres => rw [Y.out]; simp [results, Try.results31, go_sem, ResD.cells]
    · rw [X.out]
      exact (((H.out.alloc _).alloc _).alloc _).alloc _
    · exact ((((Only.refl _ _).alloc _).alloc _).alloc _).alloc _
theorem set_any (w : World) (d : MapD) (o : OpD) (h : ValsIs w d.ref d.vals) :
    Calls Try.prog 31 #[mapV d, o.val] w fun e w' => e = .returned (.agg (setR d.vals o).cells) ∧ ValsIs w' d.ref (setV d.vals o) ∧ Only (· = d.ref) w w' := by
  cases hp : permK o.kind o.expect (alook d.vals o.key) with
  | true => exact set_yes w d o h hp
  | false => exact set_no w d o h hp
/-- the cases of a removal -/
theorem drop_cases {kind expect v : Int} {q : Bool} {f : Option Int} (hq : f.isSome = q) (hv : f.getD 0 = v) (hp : dropK kind expect f = true) :
    (q = true ∧ kind = 5) ∨ (q = true ∧ (kind == 5) = false ∧ (v == expect) = true) := by
  unfold dropK at hp
  rw [hq, hv] at hp
  simp only [Bool.and_eq_true, Bool.or_eq_true] at hp
  by_cases h5 : kind = 5
  · exact Or.inl ⟨hp.1, h5⟩
  · exact Or.inr ⟨hp.1, by simp [h5], hp.2.resolve_left (by simp [h5])⟩
theorem drop_not {kind expect v : Int} {q : Bool} {f : Option Int} (hq : f.isSome = q) (hv : f.getD 0 = v) (hp : dropK kind expect f = false) :
    (q = false) ∨ (q = true ∧ (kind == 5) = false ∧ (v == expect) = false) := by
  unfold dropK at hp
  rw [hq, hv] at hp
  simp only [Bool.and_eq_false_iff, Bool.or_eq_false_iff] at hp
  cases q
  · exact Or.inl rfl
  · exact Or.inr ⟨rfl, (hp.resolve_left (by simp))⟩
set_option maxRecDepth 100000 in
set_option maxHeartbeats 1000000 in
theorem remove_yes (w : World) (d : MapD) (o : OpD) (h : ValsIs w d.ref d.vals) (hp : dropK o.kind o.expect (alook d.vals o.key) = true) :
    Calls Try.prog 32 #[mapV d, o.val] w fun e w' => e = .returned (.agg (removeR d.vals o).cells) ∧ ValsIs w' d.ref (removeV d.vals o) ∧ Only (· = d.ref) w w' := by
  have X := Lib.hid (show removeV d.vals o = adel d.vals o.key from if_pos hp)
  have Y := Lib.hid (show removeR d.vals o = { found := (alook d.vals o.key).isSome, value := (alook d.vals o.key).getD 0, count := 1 } by unfold removeR; rw [if_pos hp])
  obtain ⟨kind, handle, key, value, expect⟩ := o
  obtain ⟨r, L, ro⟩ := d
  simp only [OpD.val, mapV] at *
  have hlr := h.lt
  obtain ⟨a1, a2, a3⟩ := blocks_alloc hlr
  have a4 := blocks_alloc4 hlr
  have hl := h.look key
  have H := Lib.hid h
  clear h
  have hc := drop_cases rfl rfl hp
  clear hp
  generalize (alook L key).isSome = q at *
  generalize (alook L key).getD 0 = v at *
  rcases hc with ⟨rfl, rfl⟩ | ⟨rfl, h5, hv⟩
  all_goals
    go_enter Try.func32, Try.ntmps32
    go_wp2_with (at_delete; (refine wpList_delete_is _ rfl _ _ 72 9 rfl 22 Try.underlying72 Try.underlying9 key_str inj_str ((((H.out.alloc _).alloc _).alloc _).alloc _) rfl key rfl ?_); intro w1 hm1 ht1; (have hsz : w.heap.size + 1 + 1 + 1 < w1.heap.size := by (have := ht1.size; simp at this; omega)); have hc1 := fun j => ht1.cell (w.heap.size + 1 + 1 + 1) j (by omega); have hf1 := fun j => ht1.frozen (w.heap.size + 1 + 1 + 1) j (by omega); have hc2 := fun j => ht1.cell (w.heap.size + 1 + 1) j (by omega); have hf2 := fun j => ht1.frozen (w.heap.size + 1 + 1) j (by omega); have M1 := Lib.hid hm1; have T1 := Lib.hid ht1; clear hm1 ht1)
    refine bodyPost_ret (v := .agg (removeR L _).cells) ?hres rfl ⟨rfl, ?_, ?_⟩
    case hres => rw [Y.out]; simp [results, Try.results32, go_sem, ResD.cells, hc1, hc2]
    · rw [X.out]
      iterate 9 (refine MapIs.setAt ?_ (by omega) _)
      exact M1.out
    · iterate 9 (refine Only.setAt ?_ (by omega) _)
      refine Only.turned ?_ T1.out (Or.inl rfl)
      exact ((((Only.refl _ _).alloc _).alloc _).alloc _).alloc _
set_option maxRecDepth 100000 in
set_option maxHeartbeats 1000000 in
theorem remove_no (w : World) (d : MapD) (o : OpD) (h : ValsIs w d.ref d.vals) (hp : dropK o.kind o.expect (alook d.vals o.key) = false) :
    Calls Try.prog 32 #[mapV d, o.val] w fun e w' => e = .returned (.agg (removeR d.vals o).cells) ∧ ValsIs w' d.ref (removeV d.vals o) ∧ Only (· = d.ref) w w' := by
  have X := Lib.hid (show removeV d.vals o = d.vals by unfold removeV; rw [hp]; rfl)
  have Y := Lib.hid (show removeR d.vals o = { found := (alook d.vals o.key).isSome, value := (alook d.vals o.key).getD 0, count := 0 } by unfold removeR; rw [hp]; rfl)
  obtain ⟨kind, handle, key, value, expect⟩ := o
  obtain ⟨r, L, ro⟩ := d
  simp only [OpD.val, mapV] at *
  have hlr := h.lt
  obtain ⟨a1, a2, a3⟩ := blocks_alloc hlr
  have a4 := blocks_alloc4 hlr
  have hl := h.look key
  have H := Lib.hid h
  clear h
  have hc := drop_not rfl rfl hp
  clear hp
  generalize (alook L key).isSome = q at *
  generalize (alook L key).getD 0 = v at *
  rcases hc with rfl | ⟨rfl, h5, hv⟩
  all_goals
    go_enter Try.func32, Try.ntmps32
    go_wp2_with fail
    refine bodyPost_ret (v := .agg (removeR L _).cells) ?hres rfl ⟨rfl, ?_, ?_⟩
    case hres => rw [Y.out]; simp [results, Try.results32, go_sem, ResD.cells]
    · rw [X.out]
      exact (((H.out.alloc _).alloc _).alloc _).alloc _
    · exact ((((Only.refl _ _).alloc _).alloc _).alloc _).alloc _
theorem remove_any (w : World) (d : MapD) (o : OpD) (h : ValsIs w d.ref d.vals) :
    Calls Try.prog 32 #[mapV d, o.val] w fun e w' => e = .returned (.agg (removeR d.vals o).cells) ∧ ValsIs w' d.ref (removeV d.vals o) ∧ Only (· = d.ref) w w' := by
  cases hp : dropK o.kind o.expect (alook d.vals o.key) with
  | true => exact remove_yes w d o h hp
  | false => exact remove_no w d o h hp
end Go.Proofs.Ytagfghihnkkfiaa
