/- The walks of package model: Apply, look-up. Printed by mkapply.py. The walks of package model: Apply, size. Printed by mkapply.py. The walks of package model: Apply, iterate. Printed by mkapply.py. -/
import Derived.Test.YtbmoehndnbbhcaaGreatDoorMApB
namespace Go.Proofs.YtbmoehndnbbhcaaGreatDoor
set_option linter.unusedVariables false
set_option linter.unusedSimpArgs false
open Go.RowKit Go.MapKept
set_option maxRecDepth 100000 in
set_option maxHeartbeats 2000000 in
theorem apply_look (w : World) (bf bm bi : Nat) (F : FamD) (t i : Int) (o : OpD) (h : FamIs w bf bm bi F) (hk : o.key.size ≤ maxLen) (hz : refusalD F t i o = 0) (d : MapD) (hm : alook F.maps o.handle = some d) (hkd : o.kind = 7) :
    Calls Tryz.prog 21 #[.pointer (some ⟨bf, 0, none⟩), .int .i64 t, .int .i64 i, o.val] w fun e w' => e = .returned (.agg (ResD.cells { found := (alook d.vals o.key).isSome, value := (alook d.vals o.key).getD 0 })) ∧ FamIs w' bf bm bi F ∧ Only (F.own bf bm bi) w w' := by
  obtain ⟨kind, handle, key, value, expect⟩ := o
  simp only [OpD.val] at *
  obtain ⟨x, y, hl, hxy⟩ := h.look_some handle
  obtain ⟨rfl, rfl⟩ := hxy d hm
  have hlf := h.lt (k := bf) (Or.inl rfl)
  have hlm := h.lt (k := bm) (Or.inr (Or.inl rfl))
  have hli := h.lt (k := bi) (Or.inr (Or.inr (Or.inl rfl)))
  obtain ⟨c0, c1, c2⟩ := h.cell
  have HH := Lib.hid h
  have HZ := Lib.hid hz
  have HM := Lib.hid hm
  have hd := drew_heap
  have HK := Lib.hid hkd
  clear h hz hm hxy hkd
  go_enter Tryz.func21, Tryz.ntmps21
  go_upto_region 5 with (first | (go_at_call 41; (refine (refusal_zero _ bf bm bi F t i ⟨kind, handle, key, value, expect⟩ (HH.out.below ?hb) hk HZ.out).mono ?_); (case hb => exact ((Below.refl _ _).alloc (Nat.le_refl _) _).alloc (by simp) _); rintro e w1 ⟨rfl, hg⟩; (have R0 : w1.heap[w.heap.size]? = some (.cells (opC ⟨kind, handle, key, value, expect⟩) 60 (0, 0)) := (hg.block w.heap.size (by simp <;> omega)).trans (two_blocks w _ _).1); (have R1 : w1.heap[w.heap.size + 1]? = some (.cells (ResD.cells {}) 45 (0, 0)) := (hg.block (w.heap.size + 1) (by simp <;> omega)).trans (two_blocks w _ _).2); (have BW : Below w.heap.size w w1 := (((Below.refl _ _).alloc (Nat.le_refl _) _).alloc (by simp) _).trans (hg.mono (by simp <;> omega))); (have u0 : ∀ j : Nat, w1.cell? ⟨w.heap.size, j, none⟩ = (opC ⟨kind, handle, key, value, expect⟩)[j]? := fun j => blk_cell R0 j); simp only [opC] at u0; (have u1 : w1.heap[bm]? = w.heap[bm]? := BW.block bm hlm); (have u2 : ∀ j : Nat, w1.cell? ⟨bf, j, none⟩ = w.cell? ⟨bf, j, none⟩ := fun j => World.cell?_of_block (BW.block bf hlf)); (have u3 : w.heap.size < w1.heap.size := by (have := (Array.getElem?_eq_some_iff.1 R1).1; omega)); (have u4 := blocks_alloc (w := w1) (b := bm) (by omega)); (have v0 : bf < w1.heap.size := by omega); obtain ⟨u5, u6, u7⟩ := u4; have R0 := Lib.hid R0; have R1 := Lib.hid R1; have BW := Lib.hid BW; clear hg) | (go_at_call 36; refine (number_any _ _ _).mono ?_; rintro e w' ⟨rfl, rfl⟩))
  go_cut [11] (fun s11 wx => ApMid w ⟨kind, handle, key, value, expect⟩ (some d.ref) d.ro s11 wx)
  case first =>
    go_region
    go_wp2_with fail
    go_meet
    exact apmid R0.out R1.out BW.out
  case rest =>
    obtain ⟨g, rfl, m1, m2, m3, m4, m5⟩ := hcut
    have n0 : ∀ j : Nat, wc.cell? ⟨w.heap.size, j, none⟩ = (opC ⟨kind, handle, key, value, expect⟩)[j]? := fun j => blk_cell m3 j
    have n1 : ∀ j : Nat, wc.cell? ⟨g, j, none⟩ = (#[Value.map (some d.ref), Value.bool d.ro])[j]? := fun j => blk_cell m1 j
    simp only [opC] at n0
    have hv := (HH.out.vals _ (alook_mem HM.out))
    have hlr : d.ref < w.heap.size := hv.lt
    have HV := Lib.hid (hv.of_block (m5.block _ hv.lt))
    have M4 := Lib.hid m4
    have M5 := Lib.hid m5
    have y0 : ∀ j : Nat, wc.cell? ⟨w.heap.size + 1, j, none⟩ = (ResD.cells {})[j]? := fun j => blk_cell m4 j
    have y1 : ∀ j : Nat, wc.frozen? ⟨w.heap.size + 1, j, none⟩ = false := fun j => by simp [World.frozen?, m4]
    simp only [ResD.cells] at y0
    have hlk := ValsIs.look (hv.of_block (m5.block _ hv.lt)) key wc rfl
    clear hv m1 m3 m4 m5 c0 c1 c2 hl
    have hkd := HK.out
    clear HK
    subst hkd
    go_wp2_with fail
    refine bodyPost_ret (v := .agg (ResD.cells { found := (alook d.vals key).isSome, value := (alook d.vals key).getD 0 })) ?hres rfl ⟨rfl, ?_, ?_⟩
    case hres => simp [results, Tryz.results21, go_sem, ResD.cells, y0]
    · refine HH.out.below ?_
      iterate 8 (refine Below.setCell ?_ (by show w.heap.size ≤ w.heap.size + 1; omega) _)
      exact M5.out
    · iterate 8 (refine Only.setAt ?_ (by omega) _)
      exact Only.of_below M5.out
end Go.Proofs.YtbmoehndnbbhcaaGreatDoor
namespace Go.Proofs.YtbmoehndnbbhcaaGreatDoor
set_option linter.unusedVariables false
set_option linter.unusedSimpArgs false
open Go.RowKit Go.MapKept
set_option maxRecDepth 100000 in
set_option maxHeartbeats 2000000 in
theorem apply_size (w : World) (bf bm bi : Nat) (F : FamD) (t i : Int) (o : OpD) (h : FamIs w bf bm bi F) (hk : o.key.size ≤ maxLen) (hz : refusalD F t i o = 0) (d : MapD) (hm : alook F.maps o.handle = some d) (hkd : o.kind = 11) :
    Calls Tryz.prog 21 #[.pointer (some ⟨bf, 0, none⟩), .int .i64 t, .int .i64 i, o.val] w fun e w' => e = .returned (.agg (ResD.cells { count := d.vals.length })) ∧ FamIs w' bf bm bi F ∧ Only (F.own bf bm bi) w w' := by
  obtain ⟨kind, handle, key, value, expect⟩ := o
  simp only [OpD.val] at *
  obtain ⟨x, y, hl, hxy⟩ := h.look_some handle
  obtain ⟨rfl, rfl⟩ := hxy d hm
  have hlf := h.lt (k := bf) (Or.inl rfl)
  have hlm := h.lt (k := bm) (Or.inr (Or.inl rfl))
  have hli := h.lt (k := bi) (Or.inr (Or.inr (Or.inl rfl)))
  obtain ⟨c0, c1, c2⟩ := h.cell
  have HH := Lib.hid h
  have HZ := Lib.hid hz
  have HM := Lib.hid hm
  have hd := drew_heap
  have HK := Lib.hid hkd
  clear h hz hm hxy hkd
  go_enter Tryz.func21, Tryz.ntmps21
  go_upto_region 5 with (first | (go_at_call 41; (refine (refusal_zero _ bf bm bi F t i ⟨kind, handle, key, value, expect⟩ (HH.out.below ?hb) hk HZ.out).mono ?_); (case hb => exact ((Below.refl _ _).alloc (Nat.le_refl _) _).alloc (by simp) _); rintro e w1 ⟨rfl, hg⟩; (have R0 : w1.heap[w.heap.size]? = some (.cells (opC ⟨kind, handle, key, value, expect⟩) 60 (0, 0)) := (hg.block w.heap.size (by simp <;> omega)).trans (two_blocks w _ _).1); (have R1 : w1.heap[w.heap.size + 1]? = some (.cells (ResD.cells {}) 45 (0, 0)) := (hg.block (w.heap.size + 1) (by simp <;> omega)).trans (two_blocks w _ _).2); (have BW : Below w.heap.size w w1 := (((Below.refl _ _).alloc (Nat.le_refl _) _).alloc (by simp) _).trans (hg.mono (by simp <;> omega))); (have u0 : ∀ j : Nat, w1.cell? ⟨w.heap.size, j, none⟩ = (opC ⟨kind, handle, key, value, expect⟩)[j]? := fun j => blk_cell R0 j); simp only [opC] at u0; (have u1 : w1.heap[bm]? = w.heap[bm]? := BW.block bm hlm); (have u2 : ∀ j : Nat, w1.cell? ⟨bf, j, none⟩ = w.cell? ⟨bf, j, none⟩ := fun j => World.cell?_of_block (BW.block bf hlf)); (have u3 : w.heap.size < w1.heap.size := by (have := (Array.getElem?_eq_some_iff.1 R1).1; omega)); (have u4 := blocks_alloc (w := w1) (b := bm) (by omega)); (have v0 : bf < w1.heap.size := by omega); obtain ⟨u5, u6, u7⟩ := u4; have R0 := Lib.hid R0; have R1 := Lib.hid R1; have BW := Lib.hid BW; clear hg) | (go_at_call 36; refine (number_any _ _ _).mono ?_; rintro e w' ⟨rfl, rfl⟩))
  go_cut [11] (fun s11 wx => ApMid w ⟨kind, handle, key, value, expect⟩ (some d.ref) d.ro s11 wx)
  case first =>
    go_region
    go_wp2_with fail
    go_meet
    exact apmid R0.out R1.out BW.out
  case rest =>
    obtain ⟨g, rfl, m1, m2, m3, m4, m5⟩ := hcut
    have n0 : ∀ j : Nat, wc.cell? ⟨w.heap.size, j, none⟩ = (opC ⟨kind, handle, key, value, expect⟩)[j]? := fun j => blk_cell m3 j
    have n1 : ∀ j : Nat, wc.cell? ⟨g, j, none⟩ = (#[Value.map (some d.ref), Value.bool d.ro])[j]? := fun j => blk_cell m1 j
    simp only [opC] at n0
    have hv := (HH.out.vals _ (alook_mem HM.out))
    have hlr : d.ref < w.heap.size := hv.lt
    have HV := Lib.hid (hv.of_block (m5.block _ hv.lt))
    have M4 := Lib.hid m4
    have M5 := Lib.hid m5
    have y0 : ∀ j : Nat, wc.cell? ⟨w.heap.size + 1, j, none⟩ = (ResD.cells {})[j]? := fun j => blk_cell m4 j
    have y1 : ∀ j : Nat, wc.frozen? ⟨w.heap.size + 1, j, none⟩ = false := fun j => by simp [World.frozen?, m4]
    simp only [ResD.cells] at y0
    have hln := fun ty => MapIs.len (P := Tryz.prog) Tryz.underlying97 (hv.of_block (m5.block _ hv.lt)) ty
    clear hv m1 m3 m4 m5 c0 c1 c2 hl
    have hkd := HK.out
    clear HK
    subst hkd
    go_wp2_with fail
    refine bodyPost_ret (v := .agg (ResD.cells { count := d.vals.length })) ?hres rfl ⟨rfl, ?_, ?_⟩
    case hres => simp [results, Tryz.results21, go_sem, ResD.cells, y0]
    · refine HH.out.below ?_
      iterate 8 (refine Below.setCell ?_ (by show w.heap.size ≤ w.heap.size + 1; omega) _)
      exact M5.out
    · iterate 8 (refine Only.setAt ?_ (by omega) _)
      exact Only.of_below M5.out
end Go.Proofs.YtbmoehndnbbhcaaGreatDoor
namespace Go.Proofs.YtbmoehndnbbhcaaGreatDoor
set_option linter.unusedVariables false
set_option linter.unusedSimpArgs false
open Go.RowKit Go.MapKept
set_option maxRecDepth 100000 in
set_option maxHeartbeats 2000000 in
theorem apply_iterate (w : World) (bf bm bi : Nat) (F : FamD) (t i : Int) (o : OpD) (h : FamIs w bf bm bi F) (hk : o.key.size ≤ maxLen) (hz : refusalD F t i o = 0) (d : MapD) (hm : alook F.maps o.handle = some d) (hkd : o.kind = 12) :
    Calls Tryz.prog 21 #[.pointer (some ⟨bf, 0, none⟩), .int .i64 t, .int .i64 i, o.val] w fun e w' => e = .returned (.agg (ResD.cells { found := true })) ∧ FamIs w' bf bm bi { F with iters := aset F.iters (numberOf t i) ⟨t, o.handle, 0⟩ } ∧ Only (F.own bf bm bi) w w' := by
  obtain ⟨kind, handle, key, value, expect⟩ := o
  simp only [OpD.val] at *
  obtain ⟨x, y, hl, hxy⟩ := h.look_some handle
  obtain ⟨rfl, rfl⟩ := hxy d hm
  have hlf := h.lt (k := bf) (Or.inl rfl)
  have hlm := h.lt (k := bm) (Or.inr (Or.inl rfl))
  have hli := h.lt (k := bi) (Or.inr (Or.inr (Or.inl rfl)))
  obtain ⟨c0, c1, c2⟩ := h.cell
  have HH := Lib.hid h
  have HZ := Lib.hid hz
  have HM := Lib.hid hm
  have hd := drew_heap
  have HK := Lib.hid hkd
  clear h hz hm hxy hkd
  go_enter Tryz.func21, Tryz.ntmps21
  go_upto_region 5 with (first | (go_at_call 41; (refine (refusal_zero _ bf bm bi F t i ⟨kind, handle, key, value, expect⟩ (HH.out.below ?hb) hk HZ.out).mono ?_); (case hb => exact ((Below.refl _ _).alloc (Nat.le_refl _) _).alloc (by simp) _); rintro e w1 ⟨rfl, hg⟩; (have R0 : w1.heap[w.heap.size]? = some (.cells (opC ⟨kind, handle, key, value, expect⟩) 60 (0, 0)) := (hg.block w.heap.size (by simp <;> omega)).trans (two_blocks w _ _).1); (have R1 : w1.heap[w.heap.size + 1]? = some (.cells (ResD.cells {}) 45 (0, 0)) := (hg.block (w.heap.size + 1) (by simp <;> omega)).trans (two_blocks w _ _).2); (have BW : Below w.heap.size w w1 := (((Below.refl _ _).alloc (Nat.le_refl _) _).alloc (by simp) _).trans (hg.mono (by simp <;> omega))); (have u0 : ∀ j : Nat, w1.cell? ⟨w.heap.size, j, none⟩ = (opC ⟨kind, handle, key, value, expect⟩)[j]? := fun j => blk_cell R0 j); simp only [opC] at u0; (have u1 : w1.heap[bm]? = w.heap[bm]? := BW.block bm hlm); (have u2 : ∀ j : Nat, w1.cell? ⟨bf, j, none⟩ = w.cell? ⟨bf, j, none⟩ := fun j => World.cell?_of_block (BW.block bf hlf)); (have u3 : w.heap.size < w1.heap.size := by (have := (Array.getElem?_eq_some_iff.1 R1).1; omega)); (have u4 := blocks_alloc (w := w1) (b := bm) (by omega)); (have v0 : bf < w1.heap.size := by omega); obtain ⟨u5, u6, u7⟩ := u4; have R0 := Lib.hid R0; have R1 := Lib.hid R1; have BW := Lib.hid BW; clear hg) | (go_at_call 36; refine (number_any _ _ _).mono ?_; rintro e w' ⟨rfl, rfl⟩))
  go_cut [11] (fun s11 wx => ApMid w ⟨kind, handle, key, value, expect⟩ (some d.ref) d.ro s11 wx)
  case first =>
    go_region
    go_wp2_with fail
    go_meet
    exact apmid R0.out R1.out BW.out
  case rest =>
    obtain ⟨g, rfl, m1, m2, m3, m4, m5⟩ := hcut
    have n0 : ∀ j : Nat, wc.cell? ⟨w.heap.size, j, none⟩ = (opC ⟨kind, handle, key, value, expect⟩)[j]? := fun j => blk_cell m3 j
    have n1 : ∀ j : Nat, wc.cell? ⟨g, j, none⟩ = (#[Value.map (some d.ref), Value.bool d.ro])[j]? := fun j => blk_cell m1 j
    simp only [opC] at n0
    have hv := (HH.out.vals _ (alook_mem HM.out))
    have hlr : d.ref < w.heap.size := hv.lt
    have HV := Lib.hid (hv.of_block (m5.block _ hv.lt))
    have M4 := Lib.hid m4
    have M5 := Lib.hid m5
    have hbi : wc.heap[bi]? = w.heap[bi]? := m5.block bi hli
    have hcb : wc.cell? ⟨bf, 2, none⟩ = some (.map (some bi)) := (World.cell?_of_block (m5.block bf hlf)).trans c2
    have mi : MapIs wc.drew bi (.int .i64) (Value.int .i64) itV F.iters := HH.out.iters.of_block hbi
    obtain ⟨ob, hrun, hmi⟩ := mi.update (P := Tryz.prog) key_int inj_int Tryz.underlying101 Tryz.underlying3 (numberOf t i) ⟨t, handle, 0⟩
    have hT := Turned.mk' (w := wc.drew) bi ob
    simp only [itV] at hrun
    generalize ChangeMaps.setBlock wc.drew bi ob = w8 at *
    have q8 : w8.heap[w.heap.size + 1]? = some (.cells (ResD.cells {}) 45 (0, 0)) := (hT.block _ (by omega)).trans m4
    have yc : ∀ j : Nat, w8.cell? ⟨w.heap.size + 1, j, none⟩ = (ResD.cells {})[j]? := fun j => blk_cell q8 j
    have yf : ∀ j : Nat, w8.frozen? ⟨w.heap.size + 1, j, none⟩ = false := fun j => by simp [World.frozen?, q8]
    simp only [ResD.cells] at yc
    have FIN := Lib.hid (And.intro hmi hT)
    clear mi hmi hT q8 hbi
    clear hv m1 m3 m4 m5 c0 c1 c2 hl
    have hkd := HK.out
    clear HK
    subst hkd
    go_wp2_with fail
    go_region
    go_wp2_with fail
    refine bodyPost_ret (v := .agg (ResD.cells { found := true })) ?hres rfl ⟨rfl, ?_, ?_⟩
    case hres => simp [results, Tryz.results21, go_sem, ResD.cells, yc]
    · obtain ⟨hmi, hT⟩ := FIN.out
      refine HH.out.set_iters (fun k hk hne => ?_) ?_
      · iterate 8 (rw [Below.heap_setCell _ _ _ k (by show k ≠ w.heap.size + 1; omega)])
        exact (hT.block k hne).trans (M5.out.block k hk)
      · iterate 8 (refine MapIs.setAt ?_ (by omega) _)
        exact hmi
    · obtain ⟨hmi, hT⟩ := FIN.out
      iterate 8 (refine Only.setAt ?_ (by omega) _)
      exact ((Only.of_below M5.out).drew).turned hT (Or.inl (Or.inr (Or.inr (Or.inl rfl))))
end Go.Proofs.YtbmoehndnbbhcaaGreatDoor
