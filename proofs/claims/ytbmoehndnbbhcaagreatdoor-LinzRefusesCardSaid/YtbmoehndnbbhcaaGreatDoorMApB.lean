/- The walks of package model, tenth part: Apply up to the switch. The walks of package model: Apply, remove. Printed by mkapply.py. The walks of package model: Apply, remove-if. Printed by mkapply.py. -/
import Derived.Test.YtbmoehndnbbhcaaGreatDoorMFamB
import Derived.Deep.RegionWith
import Derived.Deep.DeepCutAuto
import Derived.Test.YtbmoehndnbbhcaaGreatDoorMModC
namespace Go.Proofs.YtbmoehndnbbhcaaGreatDoor
set_option linter.unusedVariables false
set_option linter.unusedSimpArgs false
open Go.RowKit Go.MapKept
def opC (o : OpD) : Array Value := #[.int .i64 o.kind, .int .i64 o.handle, .string o.key, .int .u64 o.value, .int .u64 o.expect]
theorem two_blocks (w : World) (o1 o2 : Obj) : ((w.alloc o1).alloc o2).heap[w.heap.size]? = some o1 ∧ ((w.alloc o1).alloc o2).heap[w.heap.size + 1]? = some o2 := by
  refine ⟨?_, ?_⟩
  · rw [Below.heap_alloc _ _ _ (by simp <;> omega)]; exact (heap_alloc w o1).1
  · have := (heap_alloc (w.alloc o1) o2).1
    simpa using this
theorem FamIs.look_some {w : World} {bf bm bi : Nat} {F : FamD} (h : FamIs w bf bm bi F) (k : Int) :
    ∃ x y, (∀ W : World, W.heap[bm]? = w.heap[bm]? → (Instr.lookup 100 (.map (some bm)) (.int .i64 k) false).run Tryz.prog W = .ok (.agg #[.map x, .bool y]) W) ∧ ∀ d, alook F.maps k = some d → x = some d.ref ∧ y = d.ro := by
  cases hn : alook F.maps k with
  | none => exact ⟨none, false, fun W hW => by (have := h.look_maps k false W hW; rw [hn] at this; simpa [outOf] using this), by simp⟩
  | some d => exact ⟨some d.ref, d.ro, fun W hW => by (have := h.look_maps k false W hW; rw [hn] at this; simpa [outOf, mapV] using this), by simp⟩
theorem refusal_zero (w : World) (bf bm bi : Nat) (F : FamD) (t i : Int) (o : OpD) (h : FamIs w bf bm bi F) (hk : o.key.size ≤ maxLen) (hz : refusalD F t i o = 0) :
    Calls Tryz.prog 41 #[.pointer (some ⟨bf, 0, none⟩), .int .i64 t, .int .i64 i, o.val] w fun e w' => e = .returned (.int .i64 0) ∧ Below w.heap.size w w' :=
  (refusal_any w bf bm bi F t i o h hk).mono fun e w' ⟨he, hb⟩ => ⟨he.trans (by rw [hz]), hb⟩
theorem refusal_not (w : World) (bf bm bi : Nat) (F : FamD) (t i : Int) (o : OpD) (h : FamIs w bf bm bi F) (hk : o.key.size ≤ maxLen) (e0 : Int) (hz : refusalD F t i o = e0) :
    Calls Tryz.prog 41 #[.pointer (some ⟨bf, 0, none⟩), .int .i64 t, .int .i64 i, o.val] w fun e w' => e = .returned (.int .i64 e0) ∧ Below w.heap.size w w' :=
  (refusal_any w bf bm bi F t i o h hk).mono fun e w' ⟨he, hb⟩ => ⟨he.trans (by rw [hz]), hb⟩
set_option maxRecDepth 100000 in
set_option maxHeartbeats 1000000 in
theorem apply_err (w : World) (bf bm bi : Nat) (F : FamD) (t i : Int) (o : OpD) (h : FamIs w bf bm bi F) (hk : o.key.size ≤ maxLen) (e0 : Int) (hz : refusalD F t i o = e0) (he : e0 ≠ 0) :
    Calls Tryz.prog 21 #[.pointer (some ⟨bf, 0, none⟩), .int .i64 t, .int .i64 i, o.val] w fun e w' => e = .returned (.agg (ResD.cells { err := e0 })) ∧ FamIs w' bf bm bi F ∧ Below w.heap.size w w' := by
  obtain ⟨kind, handle, key, value, expect⟩ := o
  simp only [OpD.val] at *
  have HH := Lib.hid h
  have HZ := Lib.hid hz
  clear h hz
  go_enter Tryz.func21, Tryz.ntmps21
  go_wp2_with (go_at_call 41; (refine (refusal_not _ bf bm bi F t i ⟨kind, handle, key, value, expect⟩ (HH.out.below ?hb) hk e0 HZ.out).mono ?_); (case hb => exact ((Below.refl _ _).alloc (Nat.le_refl _) _).alloc (by simp) _); rintro e w1 ⟨rfl, hg⟩; (have R1 : w1.heap[w.heap.size + 1]? = some (.cells (ResD.cells {}) 45 (0, 0)) := (hg.block (w.heap.size + 1) (by simp <;> omega)).trans (two_blocks w _ _).2); (have BW : Below w.heap.size w w1 := (((Below.refl _ _).alloc (Nat.le_refl _) _).alloc (by simp) _).trans (hg.mono (by simp <;> omega))); (have u0 : ∀ j : Nat, w1.cell? ⟨w.heap.size + 1, j, none⟩ = (ResD.cells {})[j]? := fun j => blk_cell R1 j); (have u1 : ∀ j : Nat, w1.frozen? ⟨w.heap.size + 1, j, none⟩ = false := fun j => by simp [World.frozen?, R1]); simp only [ResD.cells] at u0; have BW := Lib.hid BW; clear hg R1)
  refine bodyPost_ret (v := .agg (ResD.cells { err := e0 })) ?hres rfl ⟨rfl, ?_, ?_⟩
  case hres => simp [results, Tryz.results21, go_sem, ResD.cells, u0]
  · refine HH.out.below ?_
    iterate 8 (refine Below.setCell ?_ (by show w.heap.size ≤ w.heap.size + 1; omega) _)
    exact BW.out
  · iterate 8 (refine Below.setCell ?_ (by show w.heap.size ≤ w.heap.size + 1; omega) _)
    exact BW.out
/-- what lies there when the switch begins -/
def ApMid (w : World) (o : OpD) (x : Option Nat) (y : Bool) (s11 : Value) (wx : World) : Prop :=
  ∃ g, s11 = .pointer (some ⟨g, 0, none⟩) ∧ wx.heap[g]? = some (.cells #[.map x, .bool y] 99 (0, 0)) ∧ w.heap.size + 1 < g ∧
    wx.heap[w.heap.size]? = some (.cells (opC o) 60 (0, 0)) ∧ wx.heap[w.heap.size + 1]? = some (.cells (ResD.cells {}) 45 (0, 0)) ∧ Below w.heap.size w wx
theorem apmid {w w1 : World} {o : OpD} {x : Option Nat} {y : Bool} (R0 : w1.heap[w.heap.size]? = some (.cells (opC o) 60 (0, 0))) (R1 : w1.heap[w.heap.size + 1]? = some (.cells (ResD.cells {}) 45 (0, 0))) (BW : Below w.heap.size w w1) :
    ApMid w o x y (.pointer (some ⟨w1.heap.size, 0, none⟩)) (w1.alloc (.cells #[.map x, .bool y] 99)).drew := by
  have hs : w.heap.size + 1 < w1.heap.size := (Array.getElem?_eq_some_iff.1 R1).1
  exact ⟨w1.heap.size, rfl, (heap_alloc w1 _).1, hs, (alloc_old w1 _ _ (by omega)).trans R0, (alloc_old w1 _ _ (by omega)).trans R1, (BW.alloc (by omega) _).drew⟩
set_option maxRecDepth 100000 in
set_option maxHeartbeats 2000000 in
theorem apply_set (w : World) (bf bm bi : Nat) (F : FamD) (t i : Int) (o : OpD) (h : FamIs w bf bm bi F) (hk : o.key.size ≤ maxLen) (hz : refusalD F t i o = 0) (d : MapD) (hm : alook F.maps o.handle = some d) (hkd : o.kind = 1 ∨ o.kind = 2 ∨ o.kind = 3 ∨ o.kind = 4) :
    Calls Tryz.prog 21 #[.pointer (some ⟨bf, 0, none⟩), .int .i64 t, .int .i64 i, o.val] w fun e w' => e = .returned (.agg (setR d.vals o).cells) ∧ FamIs w' bf bm bi { F with maps := aset F.maps o.handle { d with vals := setV d.vals o } } ∧ Only (F.own bf bm bi) w w' := by
  obtain ⟨kind, handle, key, value, expect⟩ := o
  simp only [OpD.val] at *
  obtain ⟨x, y, hl, hxy⟩ := h.look_some handle
  obtain ⟨rfl, rfl⟩ := hxy d hm
  have hlf := h.lt (k := bf) (Or.inl rfl)
  have hlm := h.lt (k := bm) (Or.inr (Or.inl rfl))
  have hli := h.lt (k := bi) (Or.inr (Or.inr (Or.inl rfl)))
  obtain ⟨c0, c1, c2⟩ := h.cell
  have HH := Lib.hid h
  have HZ := Lib.hid hz
  have HM := Lib.hid hm
  have hd := drew_heap
  clear h hz hm hxy
  go_enter Tryz.func21, Tryz.ntmps21
  go_upto_region 5 with (first | (go_at_call 41; (refine (refusal_zero _ bf bm bi F t i ⟨kind, handle, key, value, expect⟩ (HH.out.below ?hb) hk HZ.out).mono ?_); (case hb => exact ((Below.refl _ _).alloc (Nat.le_refl _) _).alloc (by simp) _); rintro e w1 ⟨rfl, hg⟩; (have R0 : w1.heap[w.heap.size]? = some (.cells (opC ⟨kind, handle, key, value, expect⟩) 60 (0, 0)) := (hg.block w.heap.size (by simp <;> omega)).trans (two_blocks w _ _).1); (have R1 : w1.heap[w.heap.size + 1]? = some (.cells (ResD.cells {}) 45 (0, 0)) := (hg.block (w.heap.size + 1) (by simp <;> omega)).trans (two_blocks w _ _).2); (have BW : Below w.heap.size w w1 := (((Below.refl _ _).alloc (Nat.le_refl _) _).alloc (by simp) _).trans (hg.mono (by simp <;> omega))); (have u0 : ∀ j : Nat, w1.cell? ⟨w.heap.size, j, none⟩ = (opC ⟨kind, handle, key, value, expect⟩)[j]? := fun j => blk_cell R0 j); simp only [opC] at u0; (have u1 : w1.heap[bm]? = w.heap[bm]? := BW.block bm hlm); (have u2 : ∀ j : Nat, w1.cell? ⟨bf, j, none⟩ = w.cell? ⟨bf, j, none⟩ := fun j => World.cell?_of_block (BW.block bf hlf)); (have u3 : w.heap.size < w1.heap.size := by (have := (Array.getElem?_eq_some_iff.1 R1).1; omega)); (have u4 := blocks_alloc (w := w1) (b := bm) (by omega)); (have v0 : bf < w1.heap.size := by omega); obtain ⟨u5, u6, u7⟩ := u4; have R0 := Lib.hid R0; have R1 := Lib.hid R1; have BW := Lib.hid BW; clear hg) | (go_at_call 36; refine (number_any _ _ _).mono ?_; rintro e w' ⟨rfl, rfl⟩))
  go_cut [11] (fun s11 wx => ApMid w ⟨kind, handle, key, value, expect⟩ (some d.ref) d.ro s11 wx)
  case first =>
    go_region
    go_wp2_with fail
    go_meet
    exact apmid R0.out R1.out BW.out
  case rest =>
    obtain ⟨g, rfl, m1, m2, m3, m4, m5⟩ := hcut
    have n0 : ∀ j : Nat, wc.cell? ⟨w.heap.size, j, none⟩ = (opC ⟨kind, handle, key, value, expect⟩)[j]? := fun j => blk_cell m3 j
    have n1 : ∀ j : Nat, wc.cell? ⟨g, j, none⟩ = (#[Value.map (some d.ref), Value.bool d.ro])[j]? := fun j => blk_cell m1 j
    simp only [opC] at n0
    have hv := (HH.out.vals _ (alook_mem HM.out))
    have hlr := hv.lt
    have HV := Lib.hid (hv.of_block (m5.block _ hv.lt))
    have M4 := Lib.hid m4
    have M5 := Lib.hid m5
    clear hv m1 m3 m4 m5 c0 c1 c2 hl
    rcases hkd with rfl | rfl | rfl | rfl
    all_goals
      go_wp2_with (go_at_call 42; (refine (set_any _ d ⟨_, handle, key, value, expect⟩ HV.out).mono ?_); rintro e w2 ⟨rfl, hv2, ho2⟩; (have S1 : w2.heap[w.heap.size + 1]? = some (.cells (ResD.cells {}) 45 (0, 0)) := (ho2.block _ (Array.getElem?_eq_some_iff.1 M4.out).1 (by omega)).trans M4.out); (have q0 : ∀ j : Nat, w2.cell? ⟨w.heap.size + 1, j, none⟩ = (ResD.cells {})[j]? := fun j => blk_cell S1 j); (have q1 : ∀ j : Nat, w2.frozen? ⟨w.heap.size + 1, j, none⟩ = false := fun j => by simp [World.frozen?, S1]); simp only [ResD.cells] at q0 ⊢; have V2 := Lib.hid hv2; have O2 := Lib.hid ho2; clear hv2 ho2 S1)
      refine bodyPost_ret (v := .agg (setR d.vals _).cells) ?hres rfl ⟨rfl, ?_, ?_⟩
      case hres => simp [results, Tryz.results21, go_sem, ResD.cells, q0]
      · refine HH.out.set_vals HM.out (fun k hk hne => ?_) ?_
        · iterate 8 (rw [Below.heap_setCell _ _ _ k (by show k ≠ w.heap.size + 1; omega)])
          exact (O2.out.block k (by have := M5.out.size; omega) hne).trans (M5.out.block k hk)
        · iterate 8 (refine MapIs.setAt ?_ (by omega) _)
          exact V2.out
      · iterate 8 (refine Only.setAt ?_ (by omega) _)
        exact (Only.of_below M5.out).trans O2.out (fun i hi => Or.inl (Or.inr (Or.inr (Or.inr ⟨_, alook_mem HM.out, hi.symm⟩))))
end Go.Proofs.YtbmoehndnbbhcaaGreatDoor
namespace Go.Proofs.YtbmoehndnbbhcaaGreatDoor
set_option linter.unusedVariables false
set_option linter.unusedSimpArgs false
open Go.RowKit Go.MapKept
set_option maxRecDepth 100000 in
set_option maxHeartbeats 2000000 in
theorem apply_remove5 (w : World) (bf bm bi : Nat) (F : FamD) (t i : Int) (o : OpD) (h : FamIs w bf bm bi F) (hk : o.key.size ≤ maxLen) (hz : refusalD F t i o = 0) (d : MapD) (hm : alook F.maps o.handle = some d) (hkd : o.kind = 5) :
    Calls Tryz.prog 21 #[.pointer (some ⟨bf, 0, none⟩), .int .i64 t, .int .i64 i, o.val] w fun e w' => e = .returned (.agg (removeR d.vals o).cells) ∧ FamIs w' bf bm bi { F with maps := aset F.maps o.handle { d with vals := removeV d.vals o } } ∧ Only (F.own bf bm bi) w w' := by
  obtain ⟨kind, handle, key, value, expect⟩ := o
  simp only [OpD.val] at *
  obtain ⟨x, y, hl, hxy⟩ := h.look_some handle
  obtain ⟨rfl, rfl⟩ := hxy d hm
  have hlf := h.lt (k := bf) (Or.inl rfl)
  have hlm := h.lt (k := bm) (Or.inr (Or.inl rfl))
  have hli := h.lt (k := bi) (Or.inr (Or.inr (Or.inl rfl)))
  obtain ⟨c0, c1, c2⟩ := h.cell
  have HH := Lib.hid h
  have HZ := Lib.hid hz
  have HM := Lib.hid hm
  have hd := drew_heap
  have HK := Lib.hid hkd
  clear h hz hm hxy hkd
  go_enter Tryz.func21, Tryz.ntmps21
  go_upto_region 5 with (first | (go_at_call 41; (refine (refusal_zero _ bf bm bi F t i ⟨kind, handle, key, value, expect⟩ (HH.out.below ?hb) hk HZ.out).mono ?_); (case hb => exact ((Below.refl _ _).alloc (Nat.le_refl _) _).alloc (by simp) _); rintro e w1 ⟨rfl, hg⟩; (have R0 : w1.heap[w.heap.size]? = some (.cells (opC ⟨kind, handle, key, value, expect⟩) 60 (0, 0)) := (hg.block w.heap.size (by simp <;> omega)).trans (two_blocks w _ _).1); (have R1 : w1.heap[w.heap.size + 1]? = some (.cells (ResD.cells {}) 45 (0, 0)) := (hg.block (w.heap.size + 1) (by simp <;> omega)).trans (two_blocks w _ _).2); (have BW : Below w.heap.size w w1 := (((Below.refl _ _).alloc (Nat.le_refl _) _).alloc (by simp) _).trans (hg.mono (by simp <;> omega))); (have u0 : ∀ j : Nat, w1.cell? ⟨w.heap.size, j, none⟩ = (opC ⟨kind, handle, key, value, expect⟩)[j]? := fun j => blk_cell R0 j); simp only [opC] at u0; (have u1 : w1.heap[bm]? = w.heap[bm]? := BW.block bm hlm); (have u2 : ∀ j : Nat, w1.cell? ⟨bf, j, none⟩ = w.cell? ⟨bf, j, none⟩ := fun j => World.cell?_of_block (BW.block bf hlf)); (have u3 : w.heap.size < w1.heap.size := by (have := (Array.getElem?_eq_some_iff.1 R1).1; omega)); (have u4 := blocks_alloc (w := w1) (b := bm) (by omega)); (have v0 : bf < w1.heap.size := by omega); obtain ⟨u5, u6, u7⟩ := u4; have R0 := Lib.hid R0; have R1 := Lib.hid R1; have BW := Lib.hid BW; clear hg) | (go_at_call 36; refine (number_any _ _ _).mono ?_; rintro e w' ⟨rfl, rfl⟩))
  go_cut [11] (fun s11 wx => ApMid w ⟨kind, handle, key, value, expect⟩ (some d.ref) d.ro s11 wx)
  case first =>
    go_region
    go_wp2_with fail
    go_meet
    exact apmid R0.out R1.out BW.out
  case rest =>
    obtain ⟨g, rfl, m1, m2, m3, m4, m5⟩ := hcut
    have n0 : ∀ j : Nat, wc.cell? ⟨w.heap.size, j, none⟩ = (opC ⟨kind, handle, key, value, expect⟩)[j]? := fun j => blk_cell m3 j
    have n1 : ∀ j : Nat, wc.cell? ⟨g, j, none⟩ = (#[Value.map (some d.ref), Value.bool d.ro])[j]? := fun j => blk_cell m1 j
    simp only [opC] at n0
    have hv := (HH.out.vals _ (alook_mem HM.out))
    have hlr : d.ref < w.heap.size := hv.lt
    have HV := Lib.hid (hv.of_block (m5.block _ hv.lt))
    have M4 := Lib.hid m4
    have M5 := Lib.hid m5
    clear hv m1 m3 m4 m5 c0 c1 c2 hl
    have hkd := HK.out
    clear HK
    subst hkd
    all_goals
      go_wp2_with (go_at_call 43; (refine (remove_any _ d ⟨_, handle, key, value, expect⟩ HV.out).mono ?_); rintro e w2 ⟨rfl, hv2, ho2⟩; (have S1 : w2.heap[w.heap.size + 1]? = some (.cells (ResD.cells {}) 45 (0, 0)) := (ho2.block _ (Array.getElem?_eq_some_iff.1 M4.out).1 (by omega)).trans M4.out); (have q0 : ∀ j : Nat, w2.cell? ⟨w.heap.size + 1, j, none⟩ = (ResD.cells {})[j]? := fun j => blk_cell S1 j); (have q1 : ∀ j : Nat, w2.frozen? ⟨w.heap.size + 1, j, none⟩ = false := fun j => by simp [World.frozen?, S1]); simp only [ResD.cells] at q0 ⊢; have V2 := Lib.hid hv2; have O2 := Lib.hid ho2; clear hv2 ho2 S1)
      refine bodyPost_ret (v := .agg (removeR d.vals _).cells) ?hres rfl ⟨rfl, ?_, ?_⟩
      case hres => simp [results, Tryz.results21, go_sem, ResD.cells, q0]
      · refine HH.out.set_vals HM.out (fun k hk hne => ?_) ?_
        · iterate 8 (rw [Below.heap_setCell _ _ _ k (by show k ≠ w.heap.size + 1; omega)])
          exact (O2.out.block k (by have := M5.out.size; omega) hne).trans (M5.out.block k hk)
        · iterate 8 (refine MapIs.setAt ?_ (by omega) _)
          exact V2.out
      · iterate 8 (refine Only.setAt ?_ (by omega) _)
        exact (Only.of_below M5.out).trans O2.out (fun i hi => Or.inl (Or.inr (Or.inr (Or.inr ⟨_, alook_mem HM.out, hi.symm⟩))))
end Go.Proofs.YtbmoehndnbbhcaaGreatDoor
namespace Go.Proofs.YtbmoehndnbbhcaaGreatDoor
set_option linter.unusedVariables false
set_option linter.unusedSimpArgs false
open Go.RowKit Go.MapKept
set_option maxRecDepth 100000 in
set_option maxHeartbeats 2000000 in
theorem apply_remove6 (w : World) (bf bm bi : Nat) (F : FamD) (t i : Int) (o : OpD) (h : FamIs w bf bm bi F) (hk : o.key.size ≤ maxLen) (hz : refusalD F t i o = 0) (d : MapD) (hm : alook F.maps o.handle = some d) (hkd : o.kind = 6) :
    Calls Tryz.prog 21 #[.pointer (some ⟨bf, 0, none⟩), .int .i64 t, .int .i64 i, o.val] w fun e w' => e = .returned (.agg (removeR d.vals o).cells) ∧ FamIs w' bf bm bi { F with maps := aset F.maps o.handle { d with vals := removeV d.vals o } } ∧ Only (F.own bf bm bi) w w' := by
  obtain ⟨kind, handle, key, value, expect⟩ := o
  simp only [OpD.val] at *
  obtain ⟨x, y, hl, hxy⟩ := h.look_some handle
  obtain ⟨rfl, rfl⟩ := hxy d hm
  have hlf := h.lt (k := bf) (Or.inl rfl)
  have hlm := h.lt (k := bm) (Or.inr (Or.inl rfl))
  have hli := h.lt (k := bi) (Or.inr (Or.inr (Or.inl rfl)))
  obtain ⟨c0, c1, c2⟩ := h.cell
  have HH := Lib.hid h
  have HZ := Lib.hid hz
  have HM := Lib.hid hm
  have hd := drew_heap
  have HK := Lib.hid hkd
  clear h hz hm hxy hkd
  go_enter Tryz.func21, Tryz.ntmps21
  go_upto_region 5 with (first | (go_at_call 41; (refine (refusal_zero _ bf bm bi F t i ⟨kind, handle, key, value, expect⟩ (HH.out.below ?hb) hk HZ.out).mono ?_); (case hb => exact ((Below.refl _ _).alloc (Nat.le_refl _) _).alloc (by simp) _); rintro e w1 ⟨rfl, hg⟩; (have R0 : w1.heap[w.heap.size]? = some (.cells (opC ⟨kind, handle, key, value, expect⟩) 60 (0, 0)) := (hg.block w.heap.size (by simp <;> omega)).trans (two_blocks w _ _).1); (have R1 : w1.heap[w.heap.size + 1]? = some (.cells (ResD.cells {}) 45 (0, 0)) := (hg.block (w.heap.size + 1) (by simp <;> omega)).trans (two_blocks w _ _).2); (have BW : Below w.heap.size w w1 := (((Below.refl _ _).alloc (Nat.le_refl _) _).alloc (by simp) _).trans (hg.mono (by simp <;> omega))); (have u0 : ∀ j : Nat, w1.cell? ⟨w.heap.size, j, none⟩ = (opC ⟨kind, handle, key, value, expect⟩)[j]? := fun j => blk_cell R0 j); simp only [opC] at u0; (have u1 : w1.heap[bm]? = w.heap[bm]? := BW.block bm hlm); (have u2 : ∀ j : Nat, w1.cell? ⟨bf, j, none⟩ = w.cell? ⟨bf, j, none⟩ := fun j => World.cell?_of_block (BW.block bf hlf)); (have u3 : w.heap.size < w1.heap.size := by (have := (Array.getElem?_eq_some_iff.1 R1).1; omega)); (have u4 := blocks_alloc (w := w1) (b := bm) (by omega)); (have v0 : bf < w1.heap.size := by omega); obtain ⟨u5, u6, u7⟩ := u4; have R0 := Lib.hid R0; have R1 := Lib.hid R1; have BW := Lib.hid BW; clear hg) | (go_at_call 36; refine (number_any _ _ _).mono ?_; rintro e w' ⟨rfl, rfl⟩))
  go_cut [11] (fun s11 wx => ApMid w ⟨kind, handle, key, value, expect⟩ (some d.ref) d.ro s11 wx)
  case first =>
    go_region
    go_wp2_with fail
    go_meet
    exact apmid R0.out R1.out BW.out
  case rest =>
    obtain ⟨g, rfl, m1, m2, m3, m4, m5⟩ := hcut
    have n0 : ∀ j : Nat, wc.cell? ⟨w.heap.size, j, none⟩ = (opC ⟨kind, handle, key, value, expect⟩)[j]? := fun j => blk_cell m3 j
    have n1 : ∀ j : Nat, wc.cell? ⟨g, j, none⟩ = (#[Value.map (some d.ref), Value.bool d.ro])[j]? := fun j => blk_cell m1 j
    simp only [opC] at n0
    have hv := (HH.out.vals _ (alook_mem HM.out))
    have hlr : d.ref < w.heap.size := hv.lt
    have HV := Lib.hid (hv.of_block (m5.block _ hv.lt))
    have M4 := Lib.hid m4
    have M5 := Lib.hid m5
    clear hv m1 m3 m4 m5 c0 c1 c2 hl
    have hkd := HK.out
    clear HK
    subst hkd
    all_goals
      go_wp2_with (go_at_call 43; (refine (remove_any _ d ⟨_, handle, key, value, expect⟩ HV.out).mono ?_); rintro e w2 ⟨rfl, hv2, ho2⟩; (have S1 : w2.heap[w.heap.size + 1]? = some (.cells (ResD.cells {}) 45 (0, 0)) := (ho2.block _ (Array.getElem?_eq_some_iff.1 M4.out).1 (by omega)).trans M4.out); (have q0 : ∀ j : Nat, w2.cell? ⟨w.heap.size + 1, j, none⟩ = (ResD.cells {})[j]? := fun j => blk_cell S1 j); (have q1 : ∀ j : Nat, w2.frozen? ⟨w.heap.size + 1, j, none⟩ = false := fun j => by simp [World.frozen?, S1]); simp only [ResD.cells] at q0 ⊢; have V2 := Lib.hid hv2; have O2 := Lib.hid ho2; clear hv2 ho2 S1)
      refine bodyPost_ret (v := .agg (removeR d.vals _).cells) ?hres rfl ⟨rfl, ?_, ?_⟩
      case hres => simp [results, Tryz.results21, go_sem, ResD.cells, q0]
      · refine HH.out.set_vals HM.out (fun k hk hne => ?_) ?_
        · iterate 8 (rw [Below.heap_setCell _ _ _ k (by show k ≠ w.heap.size + 1; omega)])
          exact (O2.out.block k (by have := M5.out.size; omega) hne).trans (M5.out.block k hk)
        · iterate 8 (refine MapIs.setAt ?_ (by omega) _)
          exact V2.out
      · iterate 8 (refine Only.setAt ?_ (by omega) _)
        exact (Only.of_below M5.out).trans O2.out (fun i hi => Or.inl (Or.inr (Or.inr (Or.inr ⟨_, alook_mem HM.out, hi.symm⟩))))
end Go.Proofs.YtbmoehndnbbhcaaGreatDoor
