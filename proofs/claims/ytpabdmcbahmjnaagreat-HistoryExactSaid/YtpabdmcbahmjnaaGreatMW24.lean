/- The walk of the machine's New. -/
import Derived.Test.YtpabdmcbahmjnaaGreatMWI
import Derived.Deep.CutRange
import Derived.Deep.DeepCutAuto
import Derived.Deep.RegionHeld3
namespace Go.Proofs.YtpabdmcbahmjnaaGreat
namespace Tv
open Go Go.RowKit Go.MapKept
set_option linter.unusedSimpArgs false
set_option linter.unusedVariables false
theorem NwS.mkI {w0 W : World} {n : Nat} {zs : List (Nat × TypeId × Value)} {zt : Option (Sg × TN)} (h : NwS w0 n zs zt W) : NwS w0 n ((W.heap.size, 3, .int .i64 0) :: zs) zt (W.alloc (.cells (Array.replicate n (.int .i64 0)) 3)) := h.mk _ _ (by simp)
theorem NwS.mkX {w0 W : World} {n : Nat} {zs : List (Nat × TypeId × Value)} {zt : Option (Sg × TN)} (h : NwS w0 n zs zt W) : NwS w0 n ((W.heap.size, 90, .pointer none) :: zs) zt (W.alloc (.cells (Array.replicate n (.pointer none)) 90)) := h.mk _ _ (by simp)
def NwPost (w : World) (ts : List (List OpD)) (A D : Option Addr) (p : Nat) (e : Ending) (w' : World) : Prop :=
 ∃ (W5 : World) (d0 : MD) (σ : Sg) (κ : Nat → Nat), e = .returned (.tuple #[.pointer (some ⟨d0.bM, 0, none⟩), .int .i64 0]) ∧ Below w.heap.size w W5 ∧ MF W5.heap.size W5 σ κ d0 w' ∧ MX W5.heap.size σ 300 0 κ d0 w' ∧ EvI ts d0 ∧ d0.AT = A ∧ d0.nT = ts.length ∧ d0.AP = D ∧ d0.nP = p ∧ d0.evs = [] ∧ d0.nR = 0
theorem NwS.fin {w W5 W : World} {ts : List (List OpD)} {A D : Option Addr} {c p d : Nat} {m : Int} {zs : List (Nat × TypeId × Value)} {σ : Sg} {t : TN} (h : NwS W5 ts.length zs (some (σ, t)) W) (BL : Below w.heap.size w W5) {ba bx bb Z : Nat} (ha : (ba, 3, .int .i64 0) ∈ zs) (hx : (bx, 90, .pointer none) ∈ zs)
  (hb : (bb, 3, .int .i64 0) ∈ zs) (e1 : ba ≠ bx) (e2 : ba ≠ bb) (e3 : bx ≠ bb) (hZ : Z = W.heap.size) :
  NwPost w ts A D p (.returned (.tuple #[.pointer (some ⟨Z, 0, none⟩), .int .i64 0])) (W.alloc (.cells #[.int .u64 m, .slice A ts.length c, .slice D p d, .pointer (some ⟨t.bt, 0, none⟩), .slice (some ⟨ba, 0, none⟩) ts.length ts.length, .slice (some ⟨bx, 0, none⟩) ts.length ts.length, .slice none 0 0, .slice none 0 0, .int .i64 0, .slice (some ⟨bb, 0, none⟩) ts.length ts.length, .int .i64 0, .int .i64 0] 38)) := by
 subst hZ
 obtain ⟨κ, h1, h2⟩ := h.done ha hx hb e1 e2 e3 m A D c p d
 exact ⟨W5, _, σ, κ, rfl, BL, h1, h2, evI0 _ _ _ _ _ _ _ _ _ _ _, rfl, rfl, rfl, rfl, rfl, rfl⟩
set_option maxRecDepth 100000 in
set_option maxHeartbeats 8000000 in
theorem new_h {w : World} {ts : List (List OpD)} {A D : Option Addr} {c p d : Nat} {m : Int} (hT : ThrAt w A ts) (h1 : ts.length ≤ 3) (h16 : ∀ t ∈ ts, t.length ≤ 3) (hp : p ≤ 90) (hm : InR .u64 m) :
  Calls Tryz.prog 7 #[.agg #[.int .u64 m, .slice A ts.length c, .slice D p d]] w (NwPost w ts A D p) := by
 have HT := Lib.hid hT
 have H16 := Lib.hid h16
 have HM := Lib.hid hm
 have H1 := Lib.hid h1
 clear hT h16 hm h1
 go_enter Tryz.func7, Tryz.ntmps7
 go_upto_region 4 with (go_at_call 21; refine (check24_h (w := w.alloc (.cells #[.int .u64 m, .slice A ts.length c, .slice D p d] 30)) (fun h0 => by
   obtain ⟨b, off, e1, e2, e3⟩ := HT.out h0
   have bl := below_new w (.cells #[.int .u64 m, .slice A ts.length c, .slice D p d] 30)
   refine ⟨b, off, e1, by simp; omega, fun i t ht => ?_⟩
   obtain ⟨u, cu, e4, e5⟩ := e3 i t ht
   refine ⟨u, cu, (World.cell?_of_block (a := ⟨b, off + i, none⟩) (bl.block b e2)).trans e4, fun h0 => ?_⟩
   obtain ⟨b2, off2, f1, f2, f3⟩ := e5 h0
   refine ⟨b2, off2, f1, by simp; omega, fun k o hk => ?_⟩
   rw [World.cell?_of_block (a := ⟨b2, off2 + k * 5, none⟩) (bl.block b2 f2), World.cell?_of_block (a := ⟨b2, off2 + k * 5 + 1, none⟩) (bl.block b2 f2), World.cell?_of_block (a := ⟨b2, off2 + k * 5 + 2, none⟩) (bl.block b2 f2), World.cell?_of_block (a := ⟨b2, off2 + k * 5 + 3, none⟩) (bl.block b2 f2), World.cell?_of_block (a := ⟨b2, off2 + k * 5 + 4, none⟩) (bl.block b2 f2)]
   exact f3 k o hk) (by have := H1.out; omega) (fun t ht => by have := H16.out t ht; omega) (by omega)).mono ?_; rintro e W5 ⟨rfl, hb⟩; (have BL := Lib.hid ((below_new w _).trans (hb.mono (by simp)))); (have hS := kept_lt (B := 0) (heap_alloc w _).1 hb); (have HB5 := Lib.hid hS); (have s0 := blk_cell hS 0); (have s1 := blk_cell hS 1); (have s2 := blk_cell hS 2); (simp only [List.getElem?_toArray, List.getElem?_cons_zero, List.getElem?_cons_succ] at s0 s1 s2); clear hb hS)
 go_upto_region 5 with fail
 have MI : ∀ W : World, (Instr.makeSlice 22 (.int .i64 (ts.length : Int)) (.int .i64 (ts.length : Int))).run Tryz.prog W = .ok (.slice (some ⟨W.heap.size, 0, none⟩) ts.length ts.length) (W.alloc (.cells (List.replicate ts.length (.int .i64 0)).toArray 3)) := fun W => makeI _ (by have := H1.out; omega) W
 have MX' : ∀ W : World, (Instr.makeSlice 34 (.int .i64 (ts.length : Int)) (.int .i64 (ts.length : Int))).run Tryz.prog W = .ok (.slice (some ⟨W.heap.size, 0, none⟩) ts.length ts.length) (W.alloc (.cells (List.replicate ts.length (.pointer none)).toArray 90)) := fun W => makeX _ (by have := H1.out; omega) W
 have lw : w.heap.size < W5.heap.size := (Array.getElem?_eq_some_iff.1 (show W5.heap[w.heap.size]? = some _ from HB5.out)).1
 have KS : Hid (∀ W, Below W5.heap.size W5 W → W.cell? ⟨w.heap.size, 0, none⟩ = some (.int .u64 m) ∧ W.cell? ⟨w.heap.size, 1, none⟩ = some (.slice A ts.length c) ∧ W.cell? ⟨w.heap.size, 2, none⟩ = some (.slice D p d)) := fun W hW => by
  rw [World.cell?_of_block (a := ⟨w.heap.size, 0, none⟩) (hW.block _ lw), World.cell?_of_block (a := ⟨w.heap.size, 1, none⟩) (hW.block _ lw), World.cell?_of_block (a := ⟨w.heap.size, 2, none⟩) (hW.block _ lw)]
  exact ⟨s0, s1, s2⟩
 have B0 : Hid (Below W5.heap.size W5 W5) := Below.refl _ _
 have ST : Hid (NwS W5 ts.length [] none W5) := NwS.start W5 _
 go_region_held3 (fun W => W.cell? ⟨w.heap.size, 0, none⟩ = some (.int .u64 m) ∧ W.cell? ⟨w.heap.size, 1, none⟩ = some (.slice A ts.length c) ∧ W.cell? ⟨w.heap.size, 2, none⟩ = some (.slice D p d)) ((refine KS.out _ ?_; repeat' (first | (with_reducible exact B0.out) | (with_reducible exact BW.out) | (with_reducible refine Below.drew ?_) | (with_reducible refine belowA ?_ _)))) ((first | (go_at_call 22; (with_reducible refine (NwS.call ST.out.drew m HM.out).mono ?_); rintro e W6 ⟨σ, t, rfl, hst⟩; (have BW := Lib.hid hst.1); (have ST6 := Lib.hid hst); clear hst) | (go_at_call 22; (with_reducible refine (NwS.call ST.out.mkI.drew m HM.out).mono ?_); rintro e W6 ⟨σ, t, rfl, hst⟩; (have BW := Lib.hid hst.1); (have ST6 := Lib.hid hst); clear hst) | (go_at_call 22; (with_reducible refine (NwS.call ST.out.mkX.drew m HM.out).mono ?_); rintro e W6 ⟨σ, t, rfl, hst⟩; (have BW := Lib.hid hst.1); (have ST6 := Lib.hid hst); clear hst) | (go_at_call 22; (with_reducible refine (NwS.call ST.out.mkI.mkI.drew m HM.out).mono ?_); rintro e W6 ⟨σ, t, rfl, hst⟩; (have BW := Lib.hid hst.1); (have ST6 := Lib.hid hst); clear hst) | (go_at_call 22; (with_reducible refine (NwS.call ST.out.mkI.mkX.drew m HM.out).mono ?_); rintro e W6 ⟨σ, t, rfl, hst⟩; (have BW := Lib.hid hst.1); (have ST6 := Lib.hid hst); clear hst) | (go_at_call 22; (with_reducible refine (NwS.call ST.out.mkX.mkI.drew m HM.out).mono ?_); rintro e W6 ⟨σ, t, rfl, hst⟩; (have BW := Lib.hid hst.1); (have ST6 := Lib.hid hst); clear hst) | (go_at_call 22; (with_reducible refine (NwS.call ST.out.mkI.mkI.mkX.drew m HM.out).mono ?_); rintro e W6 ⟨σ, t, rfl, hst⟩; (have BW := Lib.hid hst.1); (have ST6 := Lib.hid hst); clear hst) | (go_at_call 22; (with_reducible refine (NwS.call ST.out.mkI.mkX.mkI.drew m HM.out).mono ?_); rintro e W6 ⟨σ, t, rfl, hst⟩; (have BW := Lib.hid hst.1); (have ST6 := Lib.hid hst); clear hst) | (go_at_call 22; (with_reducible refine (NwS.call ST.out.mkX.mkI.mkI.drew m HM.out).mono ?_); rintro e W6 ⟨σ, t, rfl, hst⟩; (have BW := Lib.hid hst.1); (have ST6 := Lib.hid hst); clear hst)))
 all_goals go_wp2_with fail
 all_goals go_ret2
 all_goals first
  | exact NwS.fin ST6.out BL.out (by simp) (by simp) (by simp) (by have hh := (ST6.out).2.1; simp at hh ⊢ <;> omega) (by have hh := (ST6.out).2.1; simp at hh ⊢ <;> omega) (by have hh := (ST6.out).2.1; simp at hh ⊢ <;> omega) (by simp)
  | exact NwS.fin ST6.out.mkI BL.out (by simp) (by simp) (by simp) (by have hh := (ST6.out.mkI).2.1; simp at hh ⊢ <;> omega) (by have hh := (ST6.out.mkI).2.1; simp at hh ⊢ <;> omega) (by have hh := (ST6.out.mkI).2.1; simp at hh ⊢ <;> omega) (by simp)
  | exact NwS.fin ST6.out.mkX BL.out (by simp) (by simp) (by simp) (by have hh := (ST6.out.mkX).2.1; simp at hh ⊢ <;> omega) (by have hh := (ST6.out.mkX).2.1; simp at hh ⊢ <;> omega) (by have hh := (ST6.out.mkX).2.1; simp at hh ⊢ <;> omega) (by simp)
  | exact NwS.fin ST6.out.mkI.mkI BL.out (by simp) (by simp) (by simp) (by have hh := (ST6.out.mkI.mkI).2.1; simp at hh ⊢ <;> omega) (by have hh := (ST6.out.mkI.mkI).2.1; simp at hh ⊢ <;> omega) (by have hh := (ST6.out.mkI.mkI).2.1; simp at hh ⊢ <;> omega) (by simp)
  | exact NwS.fin ST6.out.mkI.mkX BL.out (by simp) (by simp) (by simp) (by have hh := (ST6.out.mkI.mkX).2.1; simp at hh ⊢ <;> omega) (by have hh := (ST6.out.mkI.mkX).2.1; simp at hh ⊢ <;> omega) (by have hh := (ST6.out.mkI.mkX).2.1; simp at hh ⊢ <;> omega) (by simp)
  | exact NwS.fin ST6.out.mkX.mkI BL.out (by simp) (by simp) (by simp) (by have hh := (ST6.out.mkX.mkI).2.1; simp at hh ⊢ <;> omega) (by have hh := (ST6.out.mkX.mkI).2.1; simp at hh ⊢ <;> omega) (by have hh := (ST6.out.mkX.mkI).2.1; simp at hh ⊢ <;> omega) (by simp)
  | exact NwS.fin ST6.out.mkI.mkI.mkX BL.out (by simp) (by simp) (by simp) (by have hh := (ST6.out.mkI.mkI.mkX).2.1; simp at hh ⊢ <;> omega) (by have hh := (ST6.out.mkI.mkI.mkX).2.1; simp at hh ⊢ <;> omega) (by have hh := (ST6.out.mkI.mkI.mkX).2.1; simp at hh ⊢ <;> omega) (by simp)
  | exact NwS.fin ST6.out.mkI.mkX.mkI BL.out (by simp) (by simp) (by simp) (by have hh := (ST6.out.mkI.mkX.mkI).2.1; simp at hh ⊢ <;> omega) (by have hh := (ST6.out.mkI.mkX.mkI).2.1; simp at hh ⊢ <;> omega) (by have hh := (ST6.out.mkI.mkX.mkI).2.1; simp at hh ⊢ <;> omega) (by simp)
  | exact NwS.fin ST6.out.mkX.mkI.mkI BL.out (by simp) (by simp) (by simp) (by have hh := (ST6.out.mkX.mkI.mkI).2.1; simp at hh ⊢ <;> omega) (by have hh := (ST6.out.mkX.mkI.mkI).2.1; simp at hh ⊢ <;> omega) (by have hh := (ST6.out.mkX.mkI.mkI).2.1; simp at hh ⊢ <;> omega) (by simp)
end Tv
end Go.Proofs.YtpabdmcbahmjnaaGreat
