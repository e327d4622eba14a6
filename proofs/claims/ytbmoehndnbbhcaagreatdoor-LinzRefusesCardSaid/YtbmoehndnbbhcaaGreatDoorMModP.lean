/- The walks of package model: Apply, snapshot. Printed by mkapply.py. The walks of package model: Apply, freeze. Printed by mkapply.py. Apply for every operation, over families as plain data. -/
import Derived.Test.YtbmoehndnbbhcaaGreatDoorMApB
import Derived.Test.YtbmoehndnbbhcaaGreatDoorLaid
import Derived.Test.YtbmoehndnbbhcaaGreatDoorMApE
import Derived.Test.YtbmoehndnbbhcaaGreatDoorMModE
import Derived.Test.YtbmoehndnbbhcaaGreatDoorMApG
import Derived.Test.YtbmoehndnbbhcaaGreatDoorMModH
namespace Go.Proofs.YtbmoehndnbbhcaaGreatDoor
set_option linter.unusedVariables false
set_option linter.unusedSimpArgs false
open Go.RowKit Go.MapKept
theorem clone_any (w : World) (r : Nat) (es : Array MapEntry) (clock : Nat) (hb : w.heap[r]? = some (.map es clock)) :
    Calls Tryz.prog 44 #[.map (some r)] w fun e w' => e = .returned (.map (some w.heap.size)) ∧ w' = w.alloc (.map es clock) :=
  AnyW.maps_Clone Tryz.cloneV r es clock w hb
set_option maxRecDepth 100000 in
set_option maxHeartbeats 2000000 in
theorem apply_clone8 (w : World) (bf bm bi : Nat) (F : FamD) (t i : Int) (o : OpD) (h : FamIs w bf bm bi F) (hk : o.key.size ≤ maxLen) (hz : refusalD F t i o = 0) (d : MapD) (hm : alook F.maps o.handle = some d) (hnew : alook F.maps (numberOf t i) = none) (hkd : o.kind = 8) :
    Calls Tryz.prog 21 #[.pointer (some ⟨bf, 0, none⟩), .int .i64 t, .int .i64 i, o.val] w fun e w' => e = .returned (.agg (ResD.cells { found := true })) ∧ (∃ ref, w.heap.size ≤ ref ∧ FamIs w' bf bm bi { F with maps := aset F.maps (numberOf t i) ⟨ref, d.vals, o.kind == 9⟩ }) ∧ Only (F.own bf bm bi) w w' := by
  obtain ⟨kind, handle, key, value, expect⟩ := o
  simp only [OpD.val] at *
  obtain ⟨x, y, hl, hxy⟩ := h.look_some handle
  obtain ⟨rfl, rfl⟩ := hxy d hm
  have hlf := h.lt (k := bf) (Or.inl rfl)
  have hlm := h.lt (k := bm) (Or.inr (Or.inl rfl))
  have hli := h.lt (k := bi) (Or.inr (Or.inr (Or.inl rfl)))
  obtain ⟨c0, c1, c2⟩ := h.cell
  have HH := Lib.hid h
  have HZ := Lib.hid hz
  have HM := Lib.hid hm
  have hd := drew_heap
  have HK := Lib.hid hkd
  clear h hz hm hxy hkd
  go_enter Tryz.func21, Tryz.ntmps21
  go_upto_region 5 with (first | (go_at_call 41; (refine (refusal_zero _ bf bm bi F t i ⟨kind, handle, key, value, expect⟩ (HH.out.below ?hb) hk HZ.out).mono ?_); (case hb => exact ((Below.refl _ _).alloc (Nat.le_refl _) _).alloc (by simp) _); rintro e w1 ⟨rfl, hg⟩; (have R0 : w1.heap[w.heap.size]? = some (.cells (opC ⟨kind, handle, key, value, expect⟩) 60 (0, 0)) := (hg.block w.heap.size (by simp <;> omega)).trans (two_blocks w _ _).1); (have R1 : w1.heap[w.heap.size + 1]? = some (.cells (ResD.cells {}) 45 (0, 0)) := (hg.block (w.heap.size + 1) (by simp <;> omega)).trans (two_blocks w _ _).2); (have BW : Below w.heap.size w w1 := (((Below.refl _ _).alloc (Nat.le_refl _) _).alloc (by simp) _).trans (hg.mono (by simp <;> omega))); (have u0 : ∀ j : Nat, w1.cell? ⟨w.heap.size, j, none⟩ = (opC ⟨kind, handle, key, value, expect⟩)[j]? := fun j => blk_cell R0 j); simp only [opC] at u0; (have u1 : w1.heap[bm]? = w.heap[bm]? := BW.block bm hlm); (have u2 : ∀ j : Nat, w1.cell? ⟨bf, j, none⟩ = w.cell? ⟨bf, j, none⟩ := fun j => World.cell?_of_block (BW.block bf hlf)); (have u3 : w.heap.size < w1.heap.size := by (have := (Array.getElem?_eq_some_iff.1 R1).1; omega)); (have u4 := blocks_alloc (w := w1) (b := bm) (by omega)); (have v0 : bf < w1.heap.size := by omega); obtain ⟨u5, u6, u7⟩ := u4; have R0 := Lib.hid R0; have R1 := Lib.hid R1; have BW := Lib.hid BW; clear hg) | (go_at_call 36; refine (number_any _ _ _).mono ?_; rintro e w' ⟨rfl, rfl⟩))
  go_cut [11] (fun s11 wx => ApMid w ⟨kind, handle, key, value, expect⟩ (some d.ref) d.ro s11 wx)
  case first =>
    go_region
    go_wp2_with fail
    go_meet
    exact apmid R0.out R1.out BW.out
  case rest =>
    obtain ⟨g, rfl, m1, m2, m3, m4, m5⟩ := hcut
    obtain ⟨wo, rfl⟩ : ∃ wo : World, wo = wc := ⟨_, rfl⟩
    have n0 : ∀ j : Nat, wo.cell? ⟨w.heap.size, j, none⟩ = (opC ⟨kind, handle, key, value, expect⟩)[j]? := fun j => blk_cell m3 j
    have n1 : ∀ j : Nat, wo.cell? ⟨g, j, none⟩ = (#[Value.map (some d.ref), Value.bool d.ro])[j]? := fun j => blk_cell m1 j
    simp only [opC] at n0
    have hv := (HH.out.vals _ (alook_mem HM.out))
    have hlr : d.ref < w.heap.size := hv.lt
    have HV := Lib.hid (hv.of_block (m5.block _ hv.lt))
    have M4 := Lib.hid m4
    have M5 := Lib.hid m5
    obtain ⟨es, clock, hb, hs, hkk, hL⟩ := HV.out
    have hcb : wo.cell? ⟨bf, 1, none⟩ = some (.map (some bm)) := (World.cell?_of_block (m5.block bf hlf)).trans c1
    have hsz : w.heap.size + 1 < wo.heap.size := (Array.getElem?_eq_some_iff.1 m4).1
    have s0 : w.heap.size < wo.heap.size := by omega
    have s1 : bf < wo.heap.size := by omega
    have s2 : g < wo.heap.size := (Array.getElem?_eq_some_iff.1 m1).1
    have mi : MapIs (wo.alloc (.map es clock)).drew bm (.int .i64) (Value.int .i64) mapV F.maps := (HH.out.maps.of_block (m5.block bm hlm)).alloc _
    obtain ⟨ob, hrun, hmi⟩ := mi.update (P := Tryz.prog) key_int inj_int Tryz.underlying100 Tryz.underlying3 (numberOf t i) ⟨wo.heap.size, d.vals, kind == 9⟩
    have hT := Turned.mk' (w := (wo.alloc (.map es clock)).drew) bm ob
    have hva : ValsIs (wo.alloc (.map es clock)).drew wo.heap.size d.vals := ⟨es, clock, (heap_alloc wo _).1, hs, hkk, hL⟩
    simp only [mapV] at hrun
    generalize ChangeMaps.setBlock ((wo.alloc (.map es clock)).drew) bm ob = w8 at *
    have q8 : w8.heap[w.heap.size + 1]? = some (.cells (ResD.cells {}) 45 (0, 0)) := (hT.block _ (by omega)).trans ((alloc_old wo _ _ hsz).trans m4)
    have yc : ∀ j : Nat, w8.cell? ⟨w.heap.size + 1, j, none⟩ = (ResD.cells {})[j]? := fun j => blk_cell q8 j
    have yf : ∀ j : Nat, w8.frozen? ⟨w.heap.size + 1, j, none⟩ = false := fun j => by simp [World.frozen?, q8]
    simp only [ResD.cells] at yc
    have hv8 : ValsIs w8 wo.heap.size d.vals := hva.of_block (hT.block _ (by omega))
    have FIN := Lib.hid (And.intro hmi (And.intro hT hv8))
    have HB := Lib.hid hb
    clear mi hmi hT hva hv8 q8 hb hs hkk hL
    clear hv m1 m3 m4 m5 c0 c1 c2 hl
    have hkd := HK.out
    clear HK
    subst hkd
    have e9 : ((8 : Int) == 9) = false := by decide
    rw [e9] at hrun
    clear e9
    all_goals
      go_upto_region 20 with fail
      go_cut [] (fun wx => wx = w8)
      case first =>
        go_region_with (go_at_call 44; (refine (clone_any _ d.ref es clock ?hb).mono ?_); (case hb => exact HB.out); rintro e w2 ⟨rfl, rfl⟩)
        all_goals
          go_wp2_with fail
          go_meet
          rfl
      case rest =>
        subst hcut
        go_wp2_with fail
        refine bodyPost_ret (v := .agg (ResD.cells { found := true })) ?hres rfl ⟨rfl, ⟨wo.heap.size, by omega, ?_⟩, ?_⟩
        case hres => simp [results, Tryz.results21, go_sem, ResD.cells, yc]
        · obtain ⟨hmi, hT, hv8⟩ := FIN.out
          refine HH.out.new_map hnew (fun k hk hne => ?_) ?_ (by show w.heap.size ≤ wo.heap.size; omega) ?_
          · iterate 8 (rw [Below.heap_setCell _ _ _ k (by show k ≠ w.heap.size + 1; omega)])
            exact (hT.block k hne).trans ((alloc_old wo _ _ (by omega)).trans (M5.out.block k hk))
          · iterate 8 (refine MapIs.setAt ?_ (by omega) _)
            exact hmi
          · iterate 8 (refine MapIs.setAt ?_ (by show wo.heap.size ≠ w.heap.size + 1; omega) _)
            exact hv8
        · obtain ⟨hmi, hT, hv8⟩ := FIN.out
          iterate 8 (refine Only.setAt ?_ (by omega) _)
          exact (((Only.of_below M5.out).alloc _).drew).turned hT (Or.inl (Or.inr (Or.inl rfl)))
end Go.Proofs.YtbmoehndnbbhcaaGreatDoor
namespace Go.Proofs.YtbmoehndnbbhcaaGreatDoor
set_option linter.unusedVariables false
set_option linter.unusedSimpArgs false
open Go.RowKit Go.MapKept
set_option maxRecDepth 100000 in
set_option maxHeartbeats 2000000 in
theorem apply_clone9 (w : World) (bf bm bi : Nat) (F : FamD) (t i : Int) (o : OpD) (h : FamIs w bf bm bi F) (hk : o.key.size ≤ maxLen) (hz : refusalD F t i o = 0) (d : MapD) (hm : alook F.maps o.handle = some d) (hnew : alook F.maps (numberOf t i) = none) (hkd : o.kind = 9) :
    Calls Tryz.prog 21 #[.pointer (some ⟨bf, 0, none⟩), .int .i64 t, .int .i64 i, o.val] w fun e w' => e = .returned (.agg (ResD.cells { found := true })) ∧ (∃ ref, w.heap.size ≤ ref ∧ FamIs w' bf bm bi { F with maps := aset F.maps (numberOf t i) ⟨ref, d.vals, o.kind == 9⟩ }) ∧ Only (F.own bf bm bi) w w' := by
  obtain ⟨kind, handle, key, value, expect⟩ := o
  simp only [OpD.val] at *
  obtain ⟨x, y, hl, hxy⟩ := h.look_some handle
  obtain ⟨rfl, rfl⟩ := hxy d hm
  have hlf := h.lt (k := bf) (Or.inl rfl)
  have hlm := h.lt (k := bm) (Or.inr (Or.inl rfl))
  have hli := h.lt (k := bi) (Or.inr (Or.inr (Or.inl rfl)))
  obtain ⟨c0, c1, c2⟩ := h.cell
  have HH := Lib.hid h
  have HZ := Lib.hid hz
  have HM := Lib.hid hm
  have hd := drew_heap
  have HK := Lib.hid hkd
  clear h hz hm hxy hkd
  go_enter Tryz.func21, Tryz.ntmps21
  go_upto_region 5 with (first | (go_at_call 41; (refine (refusal_zero _ bf bm bi F t i ⟨kind, handle, key, value, expect⟩ (HH.out.below ?hb) hk HZ.out).mono ?_); (case hb => exact ((Below.refl _ _).alloc (Nat.le_refl _) _).alloc (by simp) _); rintro e w1 ⟨rfl, hg⟩; (have R0 : w1.heap[w.heap.size]? = some (.cells (opC ⟨kind, handle, key, value, expect⟩) 60 (0, 0)) := (hg.block w.heap.size (by simp <;> omega)).trans (two_blocks w _ _).1); (have R1 : w1.heap[w.heap.size + 1]? = some (.cells (ResD.cells {}) 45 (0, 0)) := (hg.block (w.heap.size + 1) (by simp <;> omega)).trans (two_blocks w _ _).2); (have BW : Below w.heap.size w w1 := (((Below.refl _ _).alloc (Nat.le_refl _) _).alloc (by simp) _).trans (hg.mono (by simp <;> omega))); (have u0 : ∀ j : Nat, w1.cell? ⟨w.heap.size, j, none⟩ = (opC ⟨kind, handle, key, value, expect⟩)[j]? := fun j => blk_cell R0 j); simp only [opC] at u0; (have u1 : w1.heap[bm]? = w.heap[bm]? := BW.block bm hlm); (have u2 : ∀ j : Nat, w1.cell? ⟨bf, j, none⟩ = w.cell? ⟨bf, j, none⟩ := fun j => World.cell?_of_block (BW.block bf hlf)); (have u3 : w.heap.size < w1.heap.size := by (have := (Array.getElem?_eq_some_iff.1 R1).1; omega)); (have u4 := blocks_alloc (w := w1) (b := bm) (by omega)); (have v0 : bf < w1.heap.size := by omega); obtain ⟨u5, u6, u7⟩ := u4; have R0 := Lib.hid R0; have R1 := Lib.hid R1; have BW := Lib.hid BW; clear hg) | (go_at_call 36; refine (number_any _ _ _).mono ?_; rintro e w' ⟨rfl, rfl⟩))
  go_cut [11] (fun s11 wx => ApMid w ⟨kind, handle, key, value, expect⟩ (some d.ref) d.ro s11 wx)
  case first =>
    go_region
    go_wp2_with fail
    go_meet
    exact apmid R0.out R1.out BW.out
  case rest =>
    obtain ⟨g, rfl, m1, m2, m3, m4, m5⟩ := hcut
    obtain ⟨wo, rfl⟩ : ∃ wo : World, wo = wc := ⟨_, rfl⟩
    have n0 : ∀ j : Nat, wo.cell? ⟨w.heap.size, j, none⟩ = (opC ⟨kind, handle, key, value, expect⟩)[j]? := fun j => blk_cell m3 j
    have n1 : ∀ j : Nat, wo.cell? ⟨g, j, none⟩ = (#[Value.map (some d.ref), Value.bool d.ro])[j]? := fun j => blk_cell m1 j
    simp only [opC] at n0
    have hv := (HH.out.vals _ (alook_mem HM.out))
    have hlr : d.ref < w.heap.size := hv.lt
    have HV := Lib.hid (hv.of_block (m5.block _ hv.lt))
    have M4 := Lib.hid m4
    have M5 := Lib.hid m5
    obtain ⟨es, clock, hb, hs, hkk, hL⟩ := HV.out
    have hcb : wo.cell? ⟨bf, 1, none⟩ = some (.map (some bm)) := (World.cell?_of_block (m5.block bf hlf)).trans c1
    have hsz : w.heap.size + 1 < wo.heap.size := (Array.getElem?_eq_some_iff.1 m4).1
    have s0 : w.heap.size < wo.heap.size := by omega
    have s1 : bf < wo.heap.size := by omega
    have s2 : g < wo.heap.size := (Array.getElem?_eq_some_iff.1 m1).1
    have mi : MapIs (wo.alloc (.map es clock)).drew bm (.int .i64) (Value.int .i64) mapV F.maps := (HH.out.maps.of_block (m5.block bm hlm)).alloc _
    obtain ⟨ob, hrun, hmi⟩ := mi.update (P := Tryz.prog) key_int inj_int Tryz.underlying100 Tryz.underlying3 (numberOf t i) ⟨wo.heap.size, d.vals, kind == 9⟩
    have hT := Turned.mk' (w := (wo.alloc (.map es clock)).drew) bm ob
    have hva : ValsIs (wo.alloc (.map es clock)).drew wo.heap.size d.vals := ⟨es, clock, (heap_alloc wo _).1, hs, hkk, hL⟩
    simp only [mapV] at hrun
    generalize ChangeMaps.setBlock ((wo.alloc (.map es clock)).drew) bm ob = w8 at *
    have q8 : w8.heap[w.heap.size + 1]? = some (.cells (ResD.cells {}) 45 (0, 0)) := (hT.block _ (by omega)).trans ((alloc_old wo _ _ hsz).trans m4)
    have yc : ∀ j : Nat, w8.cell? ⟨w.heap.size + 1, j, none⟩ = (ResD.cells {})[j]? := fun j => blk_cell q8 j
    have yf : ∀ j : Nat, w8.frozen? ⟨w.heap.size + 1, j, none⟩ = false := fun j => by simp [World.frozen?, q8]
    simp only [ResD.cells] at yc
    have hv8 : ValsIs w8 wo.heap.size d.vals := hva.of_block (hT.block _ (by omega))
    have FIN := Lib.hid (And.intro hmi (And.intro hT hv8))
    have HB := Lib.hid hb
    clear mi hmi hT hva hv8 q8 hb hs hkk hL
    clear hv m1 m3 m4 m5 c0 c1 c2 hl
    have hkd := HK.out
    clear HK
    subst hkd
    have e9 : ((9 : Int) == 9) = true := by decide
    rw [e9] at hrun
    clear e9
    all_goals
      go_upto_region 20 with fail
      go_cut [] (fun wx => wx = w8)
      case first =>
        go_region_with (go_at_call 44; (refine (clone_any _ d.ref es clock ?hb).mono ?_); (case hb => exact HB.out); rintro e w2 ⟨rfl, rfl⟩)
        all_goals
          go_wp2_with fail
          go_meet
          rfl
      case rest =>
        subst hcut
        go_wp2_with fail
        refine bodyPost_ret (v := .agg (ResD.cells { found := true })) ?hres rfl ⟨rfl, ⟨wo.heap.size, by omega, ?_⟩, ?_⟩
        case hres => simp [results, Tryz.results21, go_sem, ResD.cells, yc]
        · obtain ⟨hmi, hT, hv8⟩ := FIN.out
          refine HH.out.new_map hnew (fun k hk hne => ?_) ?_ (by show w.heap.size ≤ wo.heap.size; omega) ?_
          · iterate 8 (rw [Below.heap_setCell _ _ _ k (by show k ≠ w.heap.size + 1; omega)])
            exact (hT.block k hne).trans ((alloc_old wo _ _ (by omega)).trans (M5.out.block k hk))
          · iterate 8 (refine MapIs.setAt ?_ (by omega) _)
            exact hmi
          · iterate 8 (refine MapIs.setAt ?_ (by show wo.heap.size ≠ w.heap.size + 1; omega) _)
            exact hv8
        · obtain ⟨hmi, hT, hv8⟩ := FIN.out
          iterate 8 (refine Only.setAt ?_ (by omega) _)
          exact (((Only.of_below M5.out).alloc _).drew).turned hT (Or.inl (Or.inr (Or.inl rfl)))
end Go.Proofs.YtbmoehndnbbhcaaGreatDoor
namespace Go.Proofs.YtbmoehndnbbhcaaGreatDoor
set_option linter.unusedVariables false
set_option linter.unusedSimpArgs false
open Go.RowKit Go.MapKept
theorem abs_vals (F : FamD) (n : Int) (d : MapD) (L : List (ByteArray × Int)) : FamD.abs { F with maps := aset F.maps n { d with vals := L } } = { F.abs with maps := aset F.abs.maps n ⟨L, d.ro⟩ } := by
  have := aset_amap MapD.abs F.maps n { d with vals := L }
  simp only [FamD.abs]
  rw [← this]
  rfl
theorem abs_new (F : FamD) (n : Int) (r : Nat) (L : List (ByteArray × Int)) (b : Bool) : FamD.abs { F with maps := aset F.maps n ⟨r, L, b⟩ } = { F.abs with maps := aset F.abs.maps n ⟨L, b⟩ } := by
  have := aset_amap MapD.abs F.maps n ⟨r, L, b⟩
  simp only [FamD.abs]
  rw [← this]
  rfl
theorem own_vals {F : FamD} {n : Int} {d : MapD} (L : List (ByteArray × Int)) (hd : alook F.maps n = some d) {bf bm bi k : Nat} (h : FamD.own { F with maps := aset F.maps n { d with vals := L } } bf bm bi k) : F.own bf bm bi k := by
  rcases h with h | h | h | ⟨p, hp, rfl⟩
  · exact Or.inl h
  · exact Or.inr (Or.inl h)
  · exact Or.inr (Or.inr (Or.inl h))
  · rcases aset_mem hp with rfl | hp
    · exact Or.inr (Or.inr (Or.inr ⟨_, alook_mem hd, rfl⟩))
    · exact Or.inr (Or.inr (Or.inr ⟨p, hp, rfl⟩))
theorem own_new {F : FamD} {n : Int} {r : Nat} {L : List (ByteArray × Int)} {b : Bool} {bf bm bi k : Nat} (h : FamD.own { F with maps := aset F.maps n ⟨r, L, b⟩ } bf bm bi k) : F.own bf bm bi k ∨ k = r := by
  rcases h with h | h | h | ⟨p, hp, rfl⟩
  · exact Or.inl (Or.inl h)
  · exact Or.inl (Or.inr (Or.inl h))
  · exact Or.inl (Or.inr (Or.inr (Or.inl h)))
  · rcases aset_mem hp with rfl | hp
    · exact Or.inr rfl
    · exact Or.inl (Or.inr (Or.inr (Or.inr ⟨p, hp, rfl⟩)))
/-- what Apply leaves -/
def ApPost (w : World) (bf bm bi : Nat) (F : FamD) (t i : Int) (o : OpD) (e : Ending) (w' : World) : Prop :=
  ∃ F' : FamD, e = .returned (.agg (applyA F.abs t i o).2.cells) ∧ F'.abs = (applyA F.abs t i o).1 ∧ FamIs w' bf bm bi F' ∧ Only (F.own bf bm bi) w w' ∧
    ∀ k, F'.own bf bm bi k → F.own bf bm bi k ∨ ((o.kind = 8 ∨ o.kind = 9) ∧ w.heap.size ≤ k)
theorem apply_any (w : World) (bf bm bi : Nat) (F : FamD) (N : Nat) (hN : N ≤ 1099511627776) (hok : OkA N F.abs) (t i : Int) (o : OpD) (h : FamIs w bf bm bi F) (hk : o.key.size ≤ maxLen) :
    Calls Tryz.prog 21 #[.pointer (some ⟨bf, 0, none⟩), .int .i64 t, .int .i64 i, o.val] w (ApPost w bf bm bi F t i o) := by
  have hra := refusal_abs F t i o
  by_cases hz : refusalD F t i o = 0
  · have hza : refusalA F.abs t i o = 0 := by rw [← hra]; exact hz
    obtain ⟨hn0, k1, k2, htk, h13, hnot⟩ := refusal_none hza
    by_cases hk13 : o.kind = 13
    · obtain ⟨it, hi, _⟩ := h13 hk13
      have hi' : alook F.iters o.handle = some it := hi
      have hn := hok.fam.nums _ (alook_mem hi')
      simp only at hn
      obtain ⟨d, hd⟩ := Option.isSome_iff_exists.1 hn
      refine (apply_next w bf bm bi F N hN hok.fam t i o h hk hz it hi' d hd hk13).mono fun e w' ⟨he, hf, ho⟩ => ?_
      have hda : alook F.abs.maps it.number = some d.abs := by simp [FamD.abs, alook_amap, hd]
      refine ⟨nextF F o.handle it d, ?_, ?_, hf, ho, fun k hk => Or.inl (nextF_own hk)⟩
      · rw [he, applyA_next hza hk13]
        unfold nextA nextR
        rw [hi]
        simp only [hda]
        by_cases hc : (d.vals.length : Int) ≤ it.pos
        · have hc' : (d.abs.vals.length : Int) ≤ it.pos := hc
          rw [if_pos hc, if_pos hc']
        · have hc' : ¬ (d.abs.vals.length : Int) ≤ it.pos := hc
          rw [if_neg hc, if_neg hc']
          rfl
      · rw [applyA_next hza hk13]
        unfold nextA nextF
        rw [hi]
        simp only [hda]
        by_cases hc : (d.vals.length : Int) ≤ it.pos
        · have hc' : (d.abs.vals.length : Int) ≤ it.pos := hc
          rw [if_pos hc, if_pos hc']
        · have hc' : ¬ (d.abs.vals.length : Int) ≤ it.pos := hc
          rw [if_neg hc, if_neg hc']
          rfl
    · obtain ⟨da, hda, hu⟩ := hnot hk13
      have hda' := hda
      simp only [FamD.abs, alook_amap] at hda'
      obtain ⟨d, hd, rfl⟩ := Option.map_eq_some_iff.1 hda'
      have hdo := applyA_do hza hk13 hda
      have hkc : o.kind = 1 ∨ o.kind = 2 ∨ o.kind = 3 ∨ o.kind = 4 ∨ o.kind = 5 ∨ o.kind = 6 ∨ o.kind = 7 ∨ o.kind = 8 ∨ o.kind = 9 ∨ o.kind = 10 ∨ o.kind = 11 ∨ o.kind = 12 := by omega
      by_cases c4 : o.kind ≤ 4
      · refine (apply_set w bf bm bi F t i o h hk hz d hd (by omega)).mono fun e w' ⟨he, hf, ho⟩ => ?_
        have hx : doA F.abs t i o d.abs = ({ F.abs with maps := aset F.abs.maps o.handle ⟨setV d.vals o, d.ro⟩ }, setR d.vals o) := if_pos c4
        exact ⟨_, by rw [he, hdo, hx], by rw [hdo, hx, abs_vals], hf, ho, fun k hk => Or.inl (own_vals _ hd hk)⟩
      by_cases c6 : o.kind ≤ 6
      · have hx : doA F.abs t i o d.abs = ({ F.abs with maps := aset F.abs.maps o.handle ⟨removeV d.vals o, d.ro⟩ }, removeR d.vals o) := by unfold doA; rw [if_neg c4, if_pos c6]; rfl
        by_cases c5 : o.kind = 5
        · refine (apply_remove5 w bf bm bi F t i o h hk hz d hd c5).mono fun e w' ⟨he, hf, ho⟩ => ?_
          exact ⟨_, by rw [he, hdo, hx], by rw [hdo, hx, abs_vals], hf, ho, fun k hk => Or.inl (own_vals _ hd hk)⟩
        · refine (apply_remove6 w bf bm bi F t i o h hk hz d hd (by omega)).mono fun e w' ⟨he, hf, ho⟩ => ?_
          exact ⟨_, by rw [he, hdo, hx], by rw [hdo, hx, abs_vals], hf, ho, fun k hk => Or.inl (own_vals _ hd hk)⟩
      by_cases c7 : o.kind = 7
      · have hx : doA F.abs t i o d.abs = (F.abs, { found := (alook d.vals o.key).isSome, value := (alook d.vals o.key).getD 0 }) := by unfold doA; rw [if_neg c4, if_neg c6, if_pos c7]; rfl
        refine (apply_look w bf bm bi F t i o h hk hz d hd c7).mono fun e w' ⟨he, hf, ho⟩ => ?_
        exact ⟨_, by rw [he, hdo, hx], by rw [hdo, hx], hf, ho, fun k hk => Or.inl hk⟩
      by_cases c9 : o.kind ≤ 9
      · have hx : doA F.abs t i o d.abs = ({ F.abs with maps := aset F.abs.maps (numberOf t i) ⟨d.vals, o.kind == 9⟩ }, { found := true }) := by unfold doA; rw [if_neg c4, if_neg c6, if_neg c7, if_pos c9]; rfl
        have hnew : alook F.maps (numberOf t i) = none := by
          rw [← taken_abs] at htk
          unfold takenD at htk
          simp only [Bool.or_eq_false_iff] at htk
          simpa using htk.1
        by_cases c8 : o.kind = 8
        · refine (apply_clone8 w bf bm bi F t i o h hk hz d hd hnew c8).mono fun e w' ⟨he, ⟨ref, hr, hf⟩, ho⟩ => ?_
          exact ⟨_, by rw [he, hdo, hx], by rw [hdo, hx, abs_new], hf, ho, fun k hk => (own_new hk).elim Or.inl (fun hh => Or.inr ⟨Or.inl c8, by omega⟩)⟩
        · refine (apply_clone9 w bf bm bi F t i o h hk hz d hd hnew (by omega)).mono fun e w' ⟨he, ⟨ref, hr, hf⟩, ho⟩ => ?_
          exact ⟨_, by rw [he, hdo, hx], by rw [hdo, hx, abs_new], hf, ho, fun k hk => (own_new hk).elim Or.inl (fun hh => Or.inr ⟨Or.inr (by omega), by omega⟩)⟩
      by_cases c10 : o.kind = 10
      · have hx : doA F.abs t i o d.abs = ({ F.abs with maps := aset F.abs.maps o.handle ⟨[], d.ro⟩ }, { found := true }) := by unfold doA; rw [if_neg c4, if_neg c6, if_neg c7, if_neg c9, if_pos c10]; rfl
        refine (apply_clear w bf bm bi F t i o h hk hz d hd c10).mono fun e w' ⟨he, hf, ho⟩ => ?_
        exact ⟨_, by rw [he, hdo, hx], by rw [hdo, hx, abs_vals], hf, ho, fun k hk => Or.inl (own_vals _ hd hk)⟩
      by_cases c11 : o.kind = 11
      · have hx : doA F.abs t i o d.abs = (F.abs, { count := d.vals.length }) := by unfold doA; rw [if_neg c4, if_neg c6, if_neg c7, if_neg c9, if_neg c10, if_pos c11]; rfl
        refine (apply_size w bf bm bi F t i o h hk hz d hd c11).mono fun e w' ⟨he, hf, ho⟩ => ?_
        exact ⟨_, by rw [he, hdo, hx], by rw [hdo, hx], hf, ho, fun k hk => Or.inl hk⟩
      · have hx : doA F.abs t i o d.abs = ({ F.abs with iters := aset F.abs.iters (numberOf t i) ⟨t, o.handle, 0⟩ }, { found := true }) := by unfold doA; rw [if_neg c4, if_neg c6, if_neg c7, if_neg c9, if_neg c10, if_neg c11]
        refine (apply_iterate w bf bm bi F t i o h hk hz d hd (by omega)).mono fun e w' ⟨he, hf, ho⟩ => ?_
        exact ⟨_, by rw [he, hdo, hx], by rw [hdo, hx]; rfl, hf, ho, fun k hk => Or.inl hk⟩
  · have hza : refusalA F.abs t i o ≠ 0 := by rw [← hra]; exact hz
    refine (apply_err w bf bm bi F t i o h hk _ rfl hz).mono fun e w' ⟨he, hf, ho⟩ => ?_
    exact ⟨F, by rw [he, applyA_err hza, hra], by rw [applyA_err hza], hf, Only.of_below ho, fun k hk => Or.inl hk⟩
/-- a family with the given contents, whose blocks lie in S -/
def FamA (w : World) (bf bm bi : Nat) (A : AFam) (S : Nat → Prop) : Prop := ∃ F : FamD, FamIs w bf bm bi F ∧ F.abs = A ∧ ∀ k, F.own bf bm bi k → S k
theorem FamA.keep {w w' : World} {bf bm bi : Nat} {A : AFam} {S : Nat → Prop} (h : FamA w bf bm bi A S) (hb : ∀ k, k < w.heap.size → S k → w'.heap[k]? = w.heap[k]?) : FamA w' bf bm bi A S := by
  obtain ⟨F, h1, h2, h3⟩ := h
  exact ⟨F, h1.keep fun k hk => hb k (h1.lt hk) (h3 k hk), h2, h3⟩
theorem FamA.only {w w' : World} {bf bm bi : Nat} {A : AFam} {S T : Nat → Prop} (h : FamA w bf bm bi A S) (ho : Only T w w') (hd : ∀ k, S k → ¬ T k) : FamA w' bf bm bi A S :=
  h.keep fun k hk hs => ho.block k hk (hd k hs)
theorem FamA.below {w w' : World} {bf bm bi : Nat} {A : AFam} {S : Nat → Prop} (h : FamA w bf bm bi A S) (ho : Below w.heap.size w w') : FamA w' bf bm bi A S :=
  h.keep fun k hk _ => ho.block k hk
theorem FamA.alloc {w : World} {bf bm bi : Nat} {A : AFam} {S : Nat → Prop} (h : FamA w bf bm bi A S) (o : Obj) : FamA (w.alloc o) bf bm bi A S :=
  h.below ((Below.refl _ _).alloc (Nat.le_refl _) _)
theorem apply_A (w : World) (bf bm bi : Nat) (A : AFam) (S : Nat → Prop) (N : Nat) (hN : N ≤ 1099511627776) (h : FamA w bf bm bi A S) (hok : OkA N A) (t i : Int) (o : OpD) (hk : o.key.size ≤ maxLen) :
    Calls Tryz.prog 21 #[.pointer (some ⟨bf, 0, none⟩), .int .i64 t, .int .i64 i, o.val] w fun e w' =>
      e = .returned (.agg (applyA A t i o).2.cells) ∧ FamA w' bf bm bi (applyA A t i o).1 (fun k => S k ∨ (w.heap.size ≤ k ∧ k < w'.heap.size)) ∧ Only S w w' := by
  obtain ⟨F, h1, rfl, h3⟩ := h
  refine (apply_any w bf bm bi F N hN hok t i o h1 hk).mono fun e w' ⟨F', he, ha, hf, ho, hw⟩ => ⟨he, ⟨F', hf, ha, fun k hk => ?_⟩, ho.mono h3⟩
  rcases hw k hk with h | h
  · exact Or.inl (h3 k h)
  · exact Or.inr ⟨h.2, hf.lt hk⟩
theorem apply_B (w : World) (bf bm bi : Nat) (A : AFam) (S : Nat → Prop) (N : Nat) (hN : N ≤ 1099511627776) (h : FamA w bf bm bi A S) (hok : OkA N A) (t i : Int) (o : OpD) (hk : o.key.size ≤ maxLen) (h8 : o.kind ≠ 8) (h9 : o.kind ≠ 9) :
    Calls Tryz.prog 21 #[.pointer (some ⟨bf, 0, none⟩), .int .i64 t, .int .i64 i, o.val] w fun e w' =>
      e = .returned (.agg (applyA A t i o).2.cells) ∧ FamA w' bf bm bi (applyA A t i o).1 S ∧ Only S w w' := by
  obtain ⟨F, h1, rfl, h3⟩ := h
  refine (apply_any w bf bm bi F N hN hok t i o h1 hk).mono fun e w' ⟨F', he, ha, hf, ho, hw⟩ => ⟨he, ⟨F', hf, ha, fun k hk => ?_⟩, ho.mono h3⟩
  rcases hw k hk with h | h
  · exact h3 k h
  · rcases h.1 with h | h
    · exact absurd h h8
    · exact absurd h h9
end Go.Proofs.YtbmoehndnbbhcaaGreatDoor
