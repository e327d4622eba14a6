/- The walks of package model: Apply, size. Printed by mkapply.py. -/
import Derived.Test.YtagfghihnkkfiaaModK
namespace Go.Proofs.Ytagfghihnkkfiaa
set_option linter.unusedVariables false
set_option linter.unusedSimpArgs false
open Go.RowKit Go.MapKept
set_option maxRecDepth 100000 in
set_option maxHeartbeats 2000000 in
theorem apply_size (w : World) (bf bm bi : Nat) (F : FamD) (t i : Int) (o : OpD) (h : FamIs w bf bm bi F) (hk : o.key.size ≤ maxLen) (hz : refusalD F t i o = 0) (d : MapD) (hm : alook F.maps o.handle = some d) (hkd : o.kind = 11) :
    Calls Try.prog 10 #[.pointer (some ⟨bf, 0, none⟩), .int .i64 t, .int .i64 i, o.val] w fun e w' => e = .returned (.agg (ResD.cells { count := d.vals.length })) ∧ FamIs w' bf bm bi F ∧ Only (F.own bf bm bi) w w' := by
  obtain ⟨kind, handle, key, value, expect⟩ := o
  simp only [OpD.val] at *
  obtain ⟨x, y, hl, hxy⟩ := h.look_some handle
  obtain ⟨rfl, rfl⟩ := hxy d hm
  have hlf := h.lt (k := bf) (Or.inl rfl)
  have hlm := h.lt (k := bm) (Or.inr (Or.inl rfl))
  have hli := h.lt (k := bi) (Or.inr (Or.inr (Or.inl rfl)))
  obtain ⟨c0, c1, c2⟩ := h.cell
  have HH := Lib.hid h
  have HZ := Lib.hid hz
  have HM := Lib.hid hm
  have hd := drew_heap
  have HK := Lib.hid hkd
  clear h hz hm hxy hkd
  go_enter Try.func10, Try.ntmps10
  go_upto_region 5 with (first | (go_at_call 29; (refine (refusal_zero _ bf bm bi F t i ⟨kind, handle, key, value, expect⟩ (HH.out.below ?hb) hk HZ.out).mono ?_); (case hb => exact ((Below.refl _ _).alloc (Nat.le_refl _) _).alloc (by simp) _); rintro e w1 ⟨rfl, hg⟩; (have R0 : w1.heap[w.heap.size]? = some (.cells (opC ⟨kind, handle, key, value, expect⟩) 39 (0, 0)) := (hg.block w.heap.size (by simp <;> omega)).trans (two_blocks w _ _).1); (have R1 : w1.heap[w.heap.size + 1]? = some (.cells (ResD.cells {}) 35 (0, 0)) := (hg.block (w.heap.size + 1) (by simp <;> omega)).trans (two_blocks w _ _).2); (have BW : Below w.heap.size w w1 := (((Below.refl _ _).alloc (Nat.le_refl _) _).alloc (by simp) _).trans (hg.mono (by simp <;> omega))); (have u0 : ∀ j : Nat, w1.cell? ⟨w.heap.size, j, none⟩ = (opC ⟨kind, handle, key, value, expect⟩)[j]? := fun j => blk_cell R0 j); simp only [opC] at u0; (have u1 : w1.heap[bm]? = w.heap[bm]? := BW.block bm hlm); (have u2 : ∀ j : Nat, w1.cell? ⟨bf, j, none⟩ = w.cell? ⟨bf, j, none⟩ := fun j => World.cell?_of_block (BW.block bf hlf)); (have u3 : w.heap.size < w1.heap.size := by (have := (Array.getElem?_eq_some_iff.1 R1).1; omega)); (have u4 := blocks_alloc (w := w1) (b := bm) (by omega)); (have v0 : bf < w1.heap.size := by omega); obtain ⟨u5, u6, u7⟩ := u4; have R0 := Lib.hid R0; have R1 := Lib.hid R1; have BW := Lib.hid BW; clear hg) | (go_at_call 30; refine (number_any _ _ _).mono ?_; rintro e w' ⟨rfl, rfl⟩))
  go_cut [11] (fun s11 wx => ApMid w ⟨kind, handle, key, value, expect⟩ (some d.ref) d.ro s11 wx)
  case first =>
    go_region
    go_wp2_with fail
    go_meet
    exact apmid R0.out R1.out BW.out
  case rest =>
    obtain ⟨g, rfl, m1, m2, m3, m4, m5⟩ := hcut
    have n0 : ∀ j : Nat, wc.cell? ⟨w.heap.size, j, none⟩ = (opC ⟨kind, handle, key, value, expect⟩)[j]? := fun j => blk_cell m3 j
    have n1 : ∀ j : Nat, wc.cell? ⟨g, j, none⟩ = (#[Value.map (some d.ref), Value.bool d.ro])[j]? := fun j => blk_cell m1 j
    simp only [opC] at n0
    have hv := (HH.out.vals _ (alook_mem HM.out))
    have hlr : d.ref < w.heap.size := hv.lt
    have HV := Lib.hid (hv.of_block (m5.block _ hv.lt))
    have M4 := Lib.hid m4
    have M5 := Lib.hid m5
    have y0 : ∀ j : Nat, wc.cell? ⟨w.heap.size + 1, j, none⟩ = (ResD.cells {})[j]? := fun j => blk_cell m4 j
    have y1 : ∀ j : Nat, wc.frozen? ⟨w.heap.size + 1, j, none⟩ = false := fun j => by simp [World.frozen?, m4]
    simp only [ResD.cells] at y0
    have hln := fun ty => MapIs.len (P := Try.prog) Try.underlying72 (hv.of_block (m5.block _ hv.lt)) ty
    clear hv m1 m3 m4 m5 c0 c1 c2 hl
    have hkd := HK.out
    clear HK
    subst hkd
    go_wp2_with fail
    refine bodyPost_ret (v := .agg (ResD.cells { count := d.vals.length })) ?hres rfl ⟨rfl, ?_, ?_⟩
    case hres => simp [results, Try.results10, go_sem, ResD.cells, y0]
    · refine HH.out.below ?_
      iterate 8 (refine Below.setCell ?_ (by show w.heap.size ≤ w.heap.size + 1; omega) _)
      exact M5.out
    · iterate 8 (refine Only.setAt ?_ (by omega) _)
      exact Only.of_below M5.out
end Go.Proofs.Ytagfghihnkkfiaa
