/- The walks of package model: Apply, next. Printed by mkapply.py. -/
import Derived.Test.YtagfghihnkkfiaaModK
import Derived.Test.YtagfghihnkkfiaaModJ
namespace Go.Proofs.Ytagfghihnkkfiaa
set_option linter.unusedVariables false
set_option linter.unusedSimpArgs false
open Go.RowKit Go.MapKept
theorem nextF_own {F : FamD} {n : Int} {it : IterD} {d : MapD} {bf bm bi k : Nat} (h : (nextF F n it d).own bf bm bi k) : F.own bf bm bi k := by
  unfold nextF at h
  split at h <;> exact h
set_option maxRecDepth 100000 in
set_option maxHeartbeats 2000000 in
theorem apply_next (w : World) (bf bm bi : Nat) (F : FamD) (N : Nat) (hN : N ≤ 1099511627776) (hok : FamOk N F) (t i : Int) (o : OpD) (h : FamIs w bf bm bi F) (hk : o.key.size ≤ maxLen) (hz : refusalD F t i o = 0) (it : IterD) (hi : alook F.iters o.handle = some it) (d : MapD) (hm : alook F.maps it.number = some d) (hkd : o.kind = 13) :
    Calls Try.prog 10 #[.pointer (some ⟨bf, 0, none⟩), .int .i64 t, .int .i64 i, o.val] w fun e w' => e = .returned (.agg (nextR F it d).cells) ∧ FamIs w' bf bm bi (nextF F o.handle it d) ∧ Only (F.own bf bm bi) w w' := by
  obtain ⟨kind, handle, key, value, expect⟩ := o
  simp only [OpD.val] at *
  obtain ⟨x, y, hl, hxy⟩ := h.look_some handle
  have hlf := h.lt (k := bf) (Or.inl rfl)
  have hlm := h.lt (k := bm) (Or.inr (Or.inl rfl))
  have hli := h.lt (k := bi) (Or.inr (Or.inr (Or.inl rfl)))
  obtain ⟨c0, c1, c2⟩ := h.cell
  have HH := Lib.hid h
  have HZ := Lib.hid hz
  have HM := Lib.hid hm
  have hd := drew_heap
  have HK := Lib.hid hkd
  have HI := Lib.hid hi
  clear h hz hm hxy hi hkd
  go_enter Try.func10, Try.ntmps10
  go_upto_region 5 with (first | (go_at_call 29; (refine (refusal_zero _ bf bm bi F t i ⟨kind, handle, key, value, expect⟩ (HH.out.below ?hb) hk HZ.out).mono ?_); (case hb => exact ((Below.refl _ _).alloc (Nat.le_refl _) _).alloc (by simp) _); rintro e w1 ⟨rfl, hg⟩; (have R0 : w1.heap[w.heap.size]? = some (.cells (opC ⟨kind, handle, key, value, expect⟩) 39 (0, 0)) := (hg.block w.heap.size (by simp <;> omega)).trans (two_blocks w _ _).1); (have R1 : w1.heap[w.heap.size + 1]? = some (.cells (ResD.cells {}) 35 (0, 0)) := (hg.block (w.heap.size + 1) (by simp <;> omega)).trans (two_blocks w _ _).2); (have BW : Below w.heap.size w w1 := (((Below.refl _ _).alloc (Nat.le_refl _) _).alloc (by simp) _).trans (hg.mono (by simp <;> omega))); (have u0 : ∀ j : Nat, w1.cell? ⟨w.heap.size, j, none⟩ = (opC ⟨kind, handle, key, value, expect⟩)[j]? := fun j => blk_cell R0 j); simp only [opC] at u0; (have u1 : w1.heap[bm]? = w.heap[bm]? := BW.block bm hlm); (have u2 : ∀ j : Nat, w1.cell? ⟨bf, j, none⟩ = w.cell? ⟨bf, j, none⟩ := fun j => World.cell?_of_block (BW.block bf hlf)); (have u3 : w.heap.size < w1.heap.size := by (have := (Array.getElem?_eq_some_iff.1 R1).1; omega)); (have u4 := blocks_alloc (w := w1) (b := bm) (by omega)); (have v0 : bf < w1.heap.size := by omega); obtain ⟨u5, u6, u7⟩ := u4; have R0 := Lib.hid R0; have R1 := Lib.hid R1; have BW := Lib.hid BW; clear hg) | (go_at_call 30; refine (number_any _ _ _).mono ?_; rintro e w' ⟨rfl, rfl⟩))
  go_cut [11] (fun s11 wx => ApMid w ⟨kind, handle, key, value, expect⟩ x y s11 wx)
  case first =>
    go_region
    go_wp2_with fail
    go_meet
    exact apmid R0.out R1.out BW.out
  case rest =>
    obtain ⟨g, rfl, m1, m2, m3, m4, m5⟩ := hcut
    have n0 : ∀ j : Nat, wc.cell? ⟨w.heap.size, j, none⟩ = (opC ⟨kind, handle, key, value, expect⟩)[j]? := fun j => blk_cell m3 j
    simp only [opC] at n0
    have M4 := Lib.hid m4
    have M5 := Lib.hid m5
    have HO := Lib.hid hok
    clear m1 m3 m4 m5 c0 c1 c2 hl hok
    have hkd := HK.out
    clear HK
    subst hkd
    go_wp2_with (go_at_call 34; (refine (next_any _ bf bm bi F N hN HO.out (HH.out.below M5.out) handle it d HI.out HM.out).mono ?_); rintro e w2 ⟨rfl, hv2, ho2⟩; (have S1 : w2.heap[w.heap.size + 1]? = some (.cells (ResD.cells {}) 35 (0, 0)) := (ho2.block _ (Array.getElem?_eq_some_iff.1 M4.out).1 (fun hh => by (have := HH.out.lt hh; omega))).trans M4.out); (have q0 : ∀ j : Nat, w2.cell? ⟨w.heap.size + 1, j, none⟩ = (ResD.cells {})[j]? := fun j => blk_cell S1 j); (have q1 : ∀ j : Nat, w2.frozen? ⟨w.heap.size + 1, j, none⟩ = false := fun j => by simp [World.frozen?, S1]); simp only [ResD.cells] at q0 ⊢; have V2 := Lib.hid hv2; have O2 := Lib.hid ho2; clear hv2 ho2 S1)
    refine bodyPost_ret (v := .agg (nextR F it d).cells) ?hres rfl ⟨rfl, ?_, ?_⟩
    case hres => simp [results, Try.results10, go_sem, ResD.cells, q0]
    · refine V2.out.keep fun k hk => ?_
      have hkl : k < w.heap.size := HH.out.lt (nextF_own hk)
      iterate 8 (rw [Below.heap_setCell _ _ _ k (by show k ≠ w.heap.size + 1; omega)])
    · iterate 8 (refine Only.setAt ?_ (by omega) _)
      exact (Only.of_below M5.out).trans O2.out (fun i hi => Or.inl hi)
end Go.Proofs.Ytagfghihnkkfiaa
