/- The walks of package model: Apply, snapshot. Printed by mkapply.py. -/
import Derived.Test.YtagfghihnkkfiaaModK
import Derived.Test.YtagfghihnkkfiaaLaid
namespace Go.Proofs.Ytagfghihnkkfiaa
set_option linter.unusedVariables false
set_option linter.unusedSimpArgs false
open Go.RowKit Go.MapKept
theorem clone_any (w : World) (r : Nat) (es : Array MapEntry) (clock : Nat) (hb : w.heap[r]? = some (.map es clock)) :
    Calls Try.prog 33 #[.map (some r)] w fun e w' => e = .returned (.map (some w.heap.size)) ∧ w' = w.alloc (.map es clock) :=
  AnyW.maps_Clone Try.cloneV r es clock w hb
set_option maxRecDepth 100000 in
set_option maxHeartbeats 2000000 in
theorem apply_clone8 (w : World) (bf bm bi : Nat) (F : FamD) (t i : Int) (o : OpD) (h : FamIs w bf bm bi F) (hk : o.key.size ≤ maxLen) (hz : refusalD F t i o = 0) (d : MapD) (hm : alook F.maps o.handle = some d) (hnew : alook F.maps (numberOf t i) = none) (hkd : o.kind = 8) :
    Calls Try.prog 10 #[.pointer (some ⟨bf, 0, none⟩), .int .i64 t, .int .i64 i, o.val] w fun e w' => e = .returned (.agg (ResD.cells { found := true })) ∧ (∃ ref, w.heap.size ≤ ref ∧ FamIs w' bf bm bi { F with maps := aset F.maps (numberOf t i) ⟨ref, d.vals, o.kind == 9⟩ }) ∧ Only (F.own bf bm bi) w w' := by
  obtain ⟨kind, handle, key, value, expect⟩ := o
  simp only [OpD.val] at *
  obtain ⟨x, y, hl, hxy⟩ := h.look_some handle
  obtain ⟨rfl, rfl⟩ := hxy d hm
  have hlf := h.lt (k := bf) (Or.inl rfl)
  have hlm := h.lt (k := bm) (Or.inr (Or.inl rfl))
  have hli := h.lt (k := bi) (Or.inr (Or.inr (Or.inl rfl)))
  obtain ⟨c0, c1, c2⟩ := h.cell
  have HH := Lib.hid h
  have HZ := Lib.hid hz
  have HM := Lib.hid hm
  have hd := drew_heap
  have HK := Lib.hid hkd
  clear h hz hm hxy hkd
  go_enter Try.func10, Try.ntmps10
  go_upto_region 5 with (first | (go_at_call 29; (refine (refusal_zero _ bf bm bi F t i ⟨kind, handle, key, value, expect⟩ (HH.out.below ?hb) hk HZ.out).mono ?_); (case hb => exact ((Below.refl _ _).alloc (Nat.le_refl _) _).alloc (by simp) _); rintro e w1 ⟨rfl, hg⟩; (have R0 : w1.heap[w.heap.size]? = some (.cells (opC ⟨kind, handle, key, value, expect⟩) 39 (0, 0)) := (hg.block w.heap.size (by simp <;> omega)).trans (two_blocks w _ _).1); (have R1 : w1.heap[w.heap.size + 1]? = some (.cells (ResD.cells {}) 35 (0, 0)) := (hg.block (w.heap.size + 1) (by simp <;> omega)).trans (two_blocks w _ _).2); (have BW : Below w.heap.size w w1 := (((Below.refl _ _).alloc (Nat.le_refl _) _).alloc (by simp) _).trans (hg.mono (by simp <;> omega))); (have u0 : ∀ j : Nat, w1.cell? ⟨w.heap.size, j, none⟩ = (opC ⟨kind, handle, key, value, expect⟩)[j]? := fun j => blk_cell R0 j); simp only [opC] at u0; (have u1 : w1.heap[bm]? = w.heap[bm]? := BW.block bm hlm); (have u2 : ∀ j : Nat, w1.cell? ⟨bf, j, none⟩ = w.cell? ⟨bf, j, none⟩ := fun j => World.cell?_of_block (BW.block bf hlf)); (have u3 : w.heap.size < w1.heap.size := by (have := (Array.getElem?_eq_some_iff.1 R1).1; omega)); (have u4 := blocks_alloc (w := w1) (b := bm) (by omega)); (have v0 : bf < w1.heap.size := by omega); obtain ⟨u5, u6, u7⟩ := u4; have R0 := Lib.hid R0; have R1 := Lib.hid R1; have BW := Lib.hid BW; clear hg) | (go_at_call 30; refine (number_any _ _ _).mono ?_; rintro e w' ⟨rfl, rfl⟩))
  go_cut [11] (fun s11 wx => ApMid w ⟨kind, handle, key, value, expect⟩ (some d.ref) d.ro s11 wx)
  case first =>
    go_region
    go_wp2_with fail
    go_meet
    exact apmid R0.out R1.out BW.out
  case rest =>
    obtain ⟨g, rfl, m1, m2, m3, m4, m5⟩ := hcut
    obtain ⟨wo, rfl⟩ : ∃ wo : World, wo = wc := ⟨_, rfl⟩
    have n0 : ∀ j : Nat, wo.cell? ⟨w.heap.size, j, none⟩ = (opC ⟨kind, handle, key, value, expect⟩)[j]? := fun j => blk_cell m3 j
    have n1 : ∀ j : Nat, wo.cell? ⟨g, j, none⟩ = (#[Value.map (some d.ref), Value.bool d.ro])[j]? := fun j => blk_cell m1 j
    simp only [opC] at n0
    have hv := (HH.out.vals _ (alook_mem HM.out))
    have hlr : d.ref < w.heap.size := hv.lt
    have HV := Lib.hid (hv.of_block (m5.block _ hv.lt))
    have M4 := Lib.hid m4
    have M5 := Lib.hid m5
    obtain ⟨es, clock, hb, hs, hkk, hL⟩ := HV.out
    have hcb : wo.cell? ⟨bf, 1, none⟩ = some (.map (some bm)) := (World.cell?_of_block (m5.block bf hlf)).trans c1
    have hsz : w.heap.size + 1 < wo.heap.size := (Array.getElem?_eq_some_iff.1 m4).1
    have s0 : w.heap.size < wo.heap.size := by omega
    have s1 : bf < wo.heap.size := by omega
    have s2 : g < wo.heap.size := (Array.getElem?_eq_some_iff.1 m1).1
    have mi : MapIs (wo.alloc (.map es clock)).drew bm (.int .i64) (Value.int .i64) mapV F.maps := (HH.out.maps.of_block (m5.block bm hlm)).alloc _
    obtain ⟨ob, hrun, hmi⟩ := mi.update (P := Try.prog) key_int inj_int Try.underlying75 Try.underlying3 (numberOf t i) ⟨wo.heap.size, d.vals, kind == 9⟩
    have hT := Turned.mk' (w := (wo.alloc (.map es clock)).drew) bm ob
    have hva : ValsIs (wo.alloc (.map es clock)).drew wo.heap.size d.vals := ⟨es, clock, (heap_alloc wo _).1, hs, hkk, hL⟩
    simp only [mapV] at hrun
    generalize ChangeMaps.setBlock ((wo.alloc (.map es clock)).drew) bm ob = w8 at *
    have q8 : w8.heap[w.heap.size + 1]? = some (.cells (ResD.cells {}) 35 (0, 0)) := (hT.block _ (by omega)).trans ((alloc_old wo _ _ hsz).trans m4)
    have yc : ∀ j : Nat, w8.cell? ⟨w.heap.size + 1, j, none⟩ = (ResD.cells {})[j]? := fun j => blk_cell q8 j
    have yf : ∀ j : Nat, w8.frozen? ⟨w.heap.size + 1, j, none⟩ = false := fun j => by simp [World.frozen?, q8]
    simp only [ResD.cells] at yc
    have hv8 : ValsIs w8 wo.heap.size d.vals := hva.of_block (hT.block _ (by omega))
    have FIN := Lib.hid (And.intro hmi (And.intro hT hv8))
    have HB := Lib.hid hb
    clear mi hmi hT hva hv8 q8 hb hs hkk hL
    clear hv m1 m3 m4 m5 c0 c1 c2 hl
    have hkd := HK.out
    clear HK
    subst hkd
    have e9 : ((8 : Int) == 9) = false := by decide
    rw [e9] at hrun
    clear e9
    all_goals
      go_upto_region 20 with fail
      go_cut [] (fun wx => wx = w8)
      case first =>
        go_region_with (go_at_call 33; (refine (clone_any _ d.ref es clock ?hb).mono ?_); (case hb => exact HB.out); rintro e w2 ⟨rfl, rfl⟩)
        all_goals
          go_wp2_with fail
          go_meet
          rfl
      case rest =>
        subst hcut
        go_wp2_with fail
        refine bodyPost_ret (v := .agg (ResD.cells { found := true })) ?hres rfl ⟨rfl, ⟨wo.heap.size, by omega, ?_⟩, ?_⟩
        case hres => simp [results, Try.results10, go_sem, ResD.cells, yc]
        · obtain ⟨hmi, hT, hv8⟩ := FIN.out
          refine HH.out.new_map hnew (fun k hk hne => ?_) ?_ (by show w.heap.size ≤ wo.heap.size; omega) ?_
          · iterate 8 (rw [Below.heap_setCell _ _ _ k (by show k ≠ w.heap.size + 1; omega)])
            exact (hT.block k hne).trans ((alloc_old wo _ _ (by omega)).trans (M5.out.block k hk))
          · iterate 8 (refine MapIs.setAt ?_ (by omega) _)
            exact hmi
          · iterate 8 (refine MapIs.setAt ?_ (by show wo.heap.size ≠ w.heap.size + 1; omega) _)
            exact hv8
        · obtain ⟨hmi, hT, hv8⟩ := FIN.out
          iterate 8 (refine Only.setAt ?_ (by omega) _)
          exact (((Only.of_below M5.out).alloc _).drew).turned hT (Or.inl (Or.inr (Or.inl rfl)))
end Go.Proofs.Ytagfghihnkkfiaa
