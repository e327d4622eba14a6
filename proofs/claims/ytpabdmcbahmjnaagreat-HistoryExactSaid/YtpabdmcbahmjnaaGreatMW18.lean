/- The walk of the machine's Pick. -/
import Derived.Test.YtpabdmcbahmjnaaGreatMWG
import Derived.Deep.CutRange
import Derived.Deep.DeepCutAuto
import Derived.Deep.RegionWith
import Derived.Deep.RegionHeld3
import Derived.Deep.RegionLaw
namespace Go.Proofs.YtpabdmcbahmjnaaGreat
namespace Tv
open Go Go.RowKit Go.MapKept
set_option linter.unusedSimpArgs false
set_option linter.unusedVariables false
theorem FM.drewN (S : Nat → Prop) (σ : Sg) (w : World) (n : Nat) : FM S σ w σ (w.drewN n) := ⟨rfl, rfl, rfl, Nat.le_refl _, Le.refl _, fun _ _ h => .inl h, fun _ _ _ _ => rfl⟩
theorem Core.drewN {σ : Sg} {L : Nat} {w : World} (h : Core σ L w) (n : Nat) : Core σ L (w.drewN n) := Core.same h (Nat.le_refl _) fun _ _ => rfl
theorem PkZ.drew {B : Nat} {w0 W : World} {d : MD} {L g : Nat} {Z : Option Nat} {k : Option WkD} (h : PkZ B w0 d L g Z k W) : PkZ B w0 d L g Z k W.drew := by
 obtain ⟨σ, κ, hf, hx, hZ, hk⟩ := h
 exact ⟨σ, κ, (MFX.drew hf hx).1, (MFX.drew hf hx).2, hZ, hk⟩
theorem PkZ.done0 {B : Nat} {w0 W : World} {d : MD} {L g : Nat} (h : PkZ B w0 d L g none none W) {s0 s2 s4 s5 s6 : Int} {s1 s7 : Bool} {s3 : ByteArray} (hs : RsOk s0 s2 s3 s4 s5 s6) : PkR B w0 d L g (.pointer (some ⟨W.heap.size, 0, none⟩)) (W.alloc (.cells #[.int .i64 s0, .bool s1, .int .u64 s2, .string s3, .int .i64 s4, .int .i64 s5, .int .i64 s6, .bool s7] 56)) := by
 have h2 := h.alloc (cs := #[.int .i64 s0, .bool s1, .int .u64 s2, .string s3, .int .i64 s4, .int .i64 s5, .int .i64 s6, .bool s7]) rfl
 obtain ⟨σ, κ, hf, hx, _, _⟩ := h2
 exact ⟨W.heap.size, σ, κ, s0, s2, s4, s5, s6, s1, s7, s3, rfl, (heap_alloc W _).1, hs, hf, hx⟩
theorem PkZ.room {B : Nat} {w0 W : World} {d : MD} {L g P : Nat} {k : Option WkD} (h : PkZ B w0 d L g (some P) k W) : ∃ c0 c1 c2 c3 c4 c5 c6 c7, W.cell? ⟨P, 0, none⟩ = some c0 ∧ W.cell? ⟨P, 1, none⟩ = some c1 ∧ W.cell? ⟨P, 2, none⟩ = some c2 ∧ W.cell? ⟨P, 3, none⟩ = some c3 ∧ W.cell? ⟨P, 4, none⟩ = some c4 ∧ W.cell? ⟨P, 5, none⟩ = some c5 ∧ W.cell? ⟨P, 6, none⟩ = some c6 ∧ W.cell? ⟨P, 7, none⟩ = some c7 ∧
  W.frozen? ⟨P, 0, none⟩ = false ∧ W.frozen? ⟨P, 1, none⟩ = false ∧ W.frozen? ⟨P, 2, none⟩ = false ∧ W.frozen? ⟨P, 3, none⟩ = false ∧ W.frozen? ⟨P, 4, none⟩ = false ∧ W.frozen? ⟨P, 5, none⟩ = false ∧ W.frozen? ⟨P, 6, none⟩ = false ∧ W.frozen? ⟨P, 7, none⟩ = false := by
 obtain ⟨_, _, _, _, hZ, _⟩ := h
 obtain ⟨_, _, _, _, cs, h8, hb⟩ := hZ P rfl
 obtain ⟨c0, c1, c2, c3, c4, c5, c6, c7, rfl⟩ := cs8 h8
 exact ⟨c0, c1, c2, c3, c4, c5, c6, c7, blk_cell hb 0, blk_cell hb 1, blk_cell hb 2, blk_cell hb 3, blk_cell hb 4, blk_cell hb 5, blk_cell hb 6, blk_cell hb 7, blk_frozen hb 0, blk_frozen hb 1, blk_frozen hb 2, blk_frozen hb 3, blk_frozen hb 4, blk_frozen hb 5, blk_frozen hb 6, blk_frozen hb 7⟩
set_option maxRecDepth 100000 in
set_option maxHeartbeats 8000000 in
theorem pick_h {B : Nat} {w0 w : World} {σ : Sg} {κ : Nat → Nat} {d : MD} {L g : Nat} {ts : List (List OpD)} (hf : MF B w0 σ κ d w) (hx : MX B σ L g κ d w) (hi : EvI ts d) (hB : w0.heap.size = B) (hT : ThrAt w0 d.AT ts) (ho : ∀ t ∈ ts, ∀ o ∈ t, OpOk o.kind o.handle o.key o.value o.expect) (h8 : ts.length ≤ 8) (h16 : ∀ t ∈ ts, t.length ≤ 16)
  (hE : d.evs.length ≤ 1000000) (hR : d.nR ≤ 1000000) (h64 : 64 ≤ L) (hL : L ≤ 137437000000) (hg : g ≤ 900) (p : Int) (p0 : -9223372036854775808 ≤ p) (p1 : p ≤ 9223372036854775807) :
  Calls Tryz.prog 28 #[.pointer (some ⟨d.bM, 0, none⟩), .int .i64 p] w (PkPost B w0 ts d L g) := by
 obtain ⟨m1, m3, m4, m5, m6, m7, m8, m9, m10, m11⟩ := hf.cM w rfl
 have skip : ∀ n, PkPost B w0 ts d L g (.returned (.bool false)) (w.drewN n) := fun n => ⟨false, d, σ, κ, L, rfl, hf.keep (FM.drewN (fun _ => False) σ w n) (fun b h => h.elim), (hx.keep (FM.drewN (fun _ => False) σ w n) (fun b h => h.elim) (hx.core.drewN n)).ge (Nat.le_succ _), hi, ⟨rfl, rfl, rfl, rfl, rfl, rfl, rfl, rfl⟩, Nat.le_refl _, Nat.le_add_right _ _, Nat.le_add_right _ _, Nat.le_add_right _ _⟩
 have n8 : d.nT ≤ 8 := by rw [← hi.n]; exact h8
 by_cases q0 : p < 0
 ·have SK := Lib.hid skip
  clear hf hx hi hT ho h16 skip
  go_enter Tryz.func28, Tryz.ntmps28
  go_upto_region 1 with fail
  go_quiet (fail)
  go_wp2_with fail
  go_ret
  exact SK.out _
 by_cases q1 : (d.nT : Int) ≤ p
 ·have SK := Lib.hid skip
  clear hf hx hi hT ho h16 skip
  go_enter Tryz.func28, Tryz.ntmps28
  go_upto_region 1 with fail
  go_quiet (fail)
  go_wp2_with fail
  go_ret
  exact SK.out _
 obtain ⟨i, rfl⟩ := Int.eq_ofNat_of_zero_le (show 0 ≤ p by omega)
 have hin : i < d.nT := by omega
 obtain ⟨a, ha⟩ : ∃ a, d.ats[i]? = some a := ⟨_, List.getElem?_eq_getElem (by rw [hf.la]; exact hin)⟩
 obtain ⟨x, hex⟩ : ∃ x, d.exs[i]? = some x := ⟨_, List.getElem?_eq_getElem (by rw [hf.lx]; exact hin)⟩
 obtain ⟨y, hy⟩ : ∃ y, d.bys[i]? = some y := ⟨_, List.getElem?_eq_getElem (by rw [hf.ly]; exact hin)⟩
 obtain ⟨k, t, rfl, ht, hkt, hlive⟩ := hi.ats i a ha
 have c4 := hf.cA ha w rfl
 obtain ⟨bT, oT, eT, lT, cT⟩ := hT (by rw [hi.n]; omega)
 obtain ⟨u, cu, cu1, cu2⟩ := cT i t ht
 have u1 : w.cell? ⟨bT, oT + i, none⟩ = some (.slice u t.length cu) := (World.cell?_of_block (a := ⟨bT, oT + i, none⟩) (hf.below.block bT (by rw [← hB]; exact lT))).trans cu1
 have t16 : t.length ≤ 16 := h16 t (List.mem_of_getElem? ht)
 by_cases q2 : t.length ≤ k
 ·have SK := Lib.hid skip
  rw [eT] at m1
  clear hf hx hi hT ho h16 skip cT cu1 cu2 hy hex ha hlive ht m3 m5 m6 m7 m8 m9 m10 m11 eT
  go_enter Tryz.func28, Tryz.ntmps28
  go_upto_region 1 with fail
  go_quiet (fail)
  go_wp2_with fail
  go_ret
  exact SK.out _
 have hk : k < t.length := by omega
 obtain ⟨bO, oO, eO, lO, cO⟩ := cu2 (by omega)
 obtain ⟨o, hok⟩ : ∃ o, t[k]? = some o := ⟨_, List.getElem?_eq_getElem hk⟩
 obtain ⟨o0, o1, o2, o3, o4⟩ := cO k o hok
 have wO : ∀ j, w.cell? ⟨bO, j, none⟩ = w0.cell? ⟨bO, j, none⟩ := fun j => World.cell?_of_block (a := ⟨bO, j, none⟩) (hf.below.block bO (by rw [← hB]; exact lO))
 rw [← wO] at o0 o1 o2 o3 o4
 have hoo := ho t (List.mem_of_getElem? ht) o (List.mem_of_getElem? hok)
 have nK : k < 16 := by omega
 have HF := Lib.hid hf
 have HX := Lib.hid hx
 have HI := Lib.hid hi
 have HOO := Lib.hid hoo
 have HEX := Lib.hid hex
 have HA := Lib.hid ha
 have HY := Lib.hid hy
 have HT := Lib.hid ht
 have HOK := Lib.hid hok
 have HSZ := Lib.hid (And.intro hE hR)
 have HU : Hid (∀ W : World, Below B w0 W → W.cell? ⟨bT, oT + i, none⟩ = some (.slice (some ⟨bO, oO, none⟩) t.length cu) ∧ W.cell? ⟨bO, oO + k * 5, none⟩ = some (.int .i64 o.kind) ∧ W.cell? ⟨bO, oO + k * 5 + 1, none⟩ = some (.int .i64 o.handle) ∧ W.cell? ⟨bO, oO + k * 5 + 2, none⟩ = some (.string o.key) ∧ W.cell? ⟨bO, oO + k * 5 + 3, none⟩ = some (.int .u64 o.value) ∧ W.cell? ⟨bO, oO + k * 5 + 4, none⟩ = some (.int .u64 o.expect)) := fun W hW => by
  have wT : ∀ j, W.cell? ⟨bT, j, none⟩ = w0.cell? ⟨bT, j, none⟩ := fun j => World.cell?_of_block (a := ⟨bT, j, none⟩) (hW.block bT (by rw [← hB]; exact lT))
  have wO' : ∀ j, W.cell? ⟨bO, j, none⟩ = w0.cell? ⟨bO, j, none⟩ := fun j => World.cell?_of_block (a := ⟨bO, j, none⟩) (hW.block bO (by rw [← hB]; exact lO))
  rw [wT, wO', wO', wO', wO', wO', cu1, eO]
  rw [wO] at o0 o1 o2 o3 o4
  exact ⟨rfl, o0, o1, o2, o3, o4⟩
 have hl8 := blk_frozen hf.M 8
 have hl10 := blk_frozen hf.M 10
 have HET := Lib.hid eT
 rw [eT] at m1
 clear hf hx hi hT ho h16 skip cT cu1 cu2 hy hex ha hlive ht m3 m5 m6 m7 m9 m11 eT cO hoo hok o0 o1 o2 o3 o4 wO hE hR
 go_enter Tryz.func28, Tryz.ntmps28
 go_upto_region 1 with fail
 go_quiet (fail)
 go_upto_region 6 with fail
 obtain ⟨hf2, hx2⟩ := HF.out.num HX.out nq (wrap64 (d.pk + 1)) (wrap64 (d.cur + 1))
 have hi2 := HI.out.num (wrap64 (d.pk + 1)) (wrap64 (d.cur + 1)) d.most
 change Code.wp _ _ _ _ (numW w d.bM nq (wrap64 (d.pk + 1)) (wrap64 (d.cur + 1)))
 clear c4 u1 hl8 hl10 m1 m4 m8 m10
 generalize numW w d.bM nq (wrap64 (d.pk + 1)) (wrap64 (d.cur + 1)) = W2 at *
 have HF2 := Lib.hid hf2
 have HX2 := Lib.hid hx2
 have HI2 := Lib.hid hi2
 obtain ⟨m1, m3, m4, m5, m6, m7, m8, m9, m10, m11⟩ := hf2.cM W2 rfl
 dsimp only at m1 m3 m4 m5 m6 m7 m8 m9 m10 m11
 have cx := hf2.cX (i := i) (a := x) HEX.out W2 rfl
 dsimp only at cx
 clear hf2 hx2 hi2
 go_cut [67] from 60 to 67 (fun v67 wx => v67 = .bool x.isNone ∧ wx = W2)
 case first =>
  cases x with
  | none =>
   simp only [exP] at cx
   go_wp2_with fail
   go_meet
   exact ⟨rfl, rfl⟩
  | some be =>
   simp only [exP] at cx
   go_wp2_with fail
   go_meet
   exact ⟨rfl, rfl⟩
 case rest =>
  obtain ⟨rfl, hwc⟩ := hcut
  have hwc := hwc.symm
  subst hwc
  go_upto_if 67 with fail
  go_cut [6, 7] from 67 to 144 (fun v6 v7 wx => PkMid B w0 ts d L g i k wx)
  case first =>
   cases x with
   | none =>
    have HA2 := MFX.alloc HF2.out HX2.out (.cells #[.int .i64 i, .int .i64 k, .bool false, .int .i64 0, .bool false, .int .u64 0, .string ⟨#[]⟩, .int .i64 0, .int .i64 0, .int .i64 0, .bool false] 72)
    have HFA := Lib.hid HA2.1
    have HXA := Lib.hid HA2.2
    clear HA2
    go_upto_region 8 with (at_builtin; refine wpList_push 35 72 Tryz.underlying35 ev_info rfl (by decide) (by decide) rfl _ _ rfl B _ (.slice d.AE d.evs.length d.cE) d.evs.length _ rfl HFA.out.ev ⟨W2.heap.size, 0, none⟩ (EvD.cells ⟨i, k, false, ResF.zero⟩) rfl rfl (fun j x hj => alloc_at W2 _ _ hj) (ev_one _) HFA.out.size (by have := HSZ.out.1; omega) ?_; intro a6 c6 w6 hrow hg hnew; (have hM6 := (HFA.out.grown (.inl rfl) HFA.out.nE hg).trans HFA.out.M); (have y6 := blk_cell hM6 6); (have f6 := blk_frozen hM6 6); (dsimp only [MD.cells] at y6 f6); (simp only [List.getElem?_toArray, List.getElem?_cons_zero, List.getElem?_cons_succ] at y6); (have RP := Lib.hid (And.intro hrow (And.intro hg hnew))); clear hrow hg hnew hM6)
    obtain ⟨κ3, hf3, hx3⟩ := MFX.pushE HFA.out HXA.out ⟨i, k, false, ResF.zero⟩ RP.out.1 RP.out.2.1 RP.out.2.2
    change Code.wp _ _ _ _ (w6.setCell ⟨d.bM, 6, none⟩ (.slice a6 (d.evs.length + 1) c6))
    clear RP y6 f6 m1 m3 m4 m5 m6 m7 m8 m9 m10 m11 cx
    generalize w6.setCell ⟨d.bM, 6, none⟩ (.slice a6 (d.evs.length + 1) c6) = W3 at *
    have hd3 := MFX.drew hf3 hx3
    have HF3 := Lib.hid hd3.1
    have HX3 := Lib.hid hd3.2
    have KS : Hid (∀ (σ : Sg) (κ : Nat → Nat) (d' : MD) (W : World), MF B w0 σ κ d' W → d'.bM = d.bM → d'.AT = d.AT → d'.nT = d.nT → d'.cT = d.cT → d'.t = d.t → d'.bx = d.bx → PkS d.bM d.t.bt bT oT d.nT d.cT d.bx bO oO t.length cu i k o W) := by
     intro σ κ d' W h e1 e2 e3 e4 e5 e6
     obtain ⟨m1, m3, _, m5, _⟩ := h.cM W rfl
     rw [e1, e2, e3, e4, HET.out] at m1
     rw [e1, e5] at m3
     rw [e1, e6, e3] at m5
     exact ⟨m1, m3, m5, HU.out W h.below⟩
    have K3 : Hid (PkS d.bM d.t.bt bT oT d.nT d.cT d.bx bO oO t.length cu i k o W3.drew) := KS.out _ _ _ _ HF3.out rfl rfl rfl rfl rfl rfl
    clear hf3 hx3 hd3 HFA HXA
    go_region_held3 (fun W => W.cell? ⟨d.bM, 1, none⟩ = some (.slice (some ⟨bT, oT, none⟩) d.nT d.cT) ∧ W.cell? ⟨d.bM, 3, none⟩ = some (.pointer (some ⟨d.t.bt, 0, none⟩)) ∧ W.cell? ⟨d.bM, 5, none⟩ = some (.slice (some ⟨d.bx, 0, none⟩) d.nT d.nT) ∧ W.cell? ⟨bT, oT + i, none⟩ = some (.slice (some ⟨bO, oO, none⟩) t.length cu) ∧ W.cell? ⟨bO, oO + k * 5, none⟩ = some (.int .i64 o.kind) ∧ W.cell? ⟨bO, oO + k * 5 + 1, none⟩ = some (.int .i64 o.handle) ∧ W.cell? ⟨bO, oO + k * 5 + 2, none⟩ = some (.string o.key) ∧ W.cell? ⟨bO, oO + k * 5 + 3, none⟩ = some (.int .u64 o.value) ∧ W.cell? ⟨bO, oO + k * 5 + 4, none⟩ = some (.int .u64 o.expect)) (first | exact K3.out | exact K4.out | exact K5.out) ((go_at_call 42; refine (begin_h HX3.out.core HX3.out.tat HX3.out.mem h64 (by omega) i k (by omega) (by omega) (by omega) (by omega) HOO.out).mono ?_; rintro r w4 ⟨be, σ4, L4, rfl, b1, b2, b3, b4, b5, b6⟩; (have hf4 := HF3.out.afterBeg HX3.out b6); (have K4 : Hid (PkS d.bM d.t.bt bT oT d.nT d.cT d.bx bO oO t.length cu i k o w4) := KS.out _ _ _ _ hf4 rfl rfl rfl rfl rfl rfl); (have cX4 := hf4.cX (i := i) (a := none) HEX.out w4 rfl); (have fX4 := blk_frozen hf4.X i); (dsimp only [exP] at cX4 fX4); (obtain ⟨κ5, hf5, hx5⟩ := MFX.beg HF3.out HX3.out hin b1 b2 b4 b5 b6); (have K5 : Hid (PkS d.bM d.t.bt bT oT d.nT d.cT d.bx bO oO t.length cu i k o (w4.setCell ⟨d.bx, i, none⟩ (.pointer (some ⟨be, 0, none⟩)))) := KS.out _ _ _ _ hf5 rfl rfl rfl rfl rfl rfl); (have PM : Hid (PkMid B w0 ts d L g i k (w4.setCell ⟨d.bx, i, none⟩ (.pointer (some ⟨be, 0, none⟩)))) := ⟨_, σ4, κ5, L4, be, hf5, hx5.ge (Nat.le_succ _), EvI.beg HI2.out HA.out HEX.out HT.out hk rfl rfl rfl rfl, ⟨rfl, rfl, rfl, rfl, rfl, rfl, rfl, rfl⟩, b2, b3, Nat.le_of_eq (by simp), Nat.le_succ _, List.getElem?_set_self (List.getElem?_eq_some_iff.1 HEX.out).1, HA.out⟩); clear hf5 hx5; clear b1 b2 b3 b4 b5 b6 hf4))
    go_wp2_with fail
    go_meet
    exact PM.out
   | some be =>
    simp only [exP] at cx
    have EXB := Lib.hid (HX2.out.ex i be HEX.out).1
    have HRUN := Lib.hid (fun (σ3 : Sg) (w3 : World) (hx3 : EX d.t.bm be σ3 L g w3) (hf3 : Tv.HF d.t.bm be σ W2 σ3 w3) => (And.intro (HF2.out.run HX2.out (i := i) (be := be) HEX.out hf3) (HX2.out.run (i := i) (be := be) HEX.out hx3 (Nat.le_refl _) (Nat.le_refl _) hf3) : MF B w0 σ3 κ { d with pk := wrap64 (d.pk + 1), cur := wrap64 (d.cur + 1) } w3 ∧ MX B σ3 L g κ { d with pk := wrap64 (d.pk + 1), cur := wrap64 (d.cur + 1) } w3))
    go_upto_region 10 with (go_at_call 43; refine (next_x EXB.out (by omega)).mono ?_; rintro r w3 ⟨σ3, hx3, hf3, a0, a1, a2, a3, nb, rfl, j0, j1, j2, j3⟩; (have R3 := Lib.hid (HRUN.out σ3 w3 hx3 hf3)); (have J1 := Lib.hid j1); clear hx3 hf3 j0 j1 j2 j3)
    obtain ⟨hf4, hx4⟩ := MFX.alloc R3.out.1 R3.out.2 (.cells #[.int .i64 a0, .int .i64 a1, .int .i64 a2, .int .i64 a3] 93)
    have K4 := (heap_alloc w3 (.cells #[.int .i64 a0, .int .i64 a1, .int .i64 a2, .int .i64 a3] 93)).1
    generalize hW4 : w3.alloc (.cells #[.int .i64 a0, .int .i64 a1, .int .i64 a2, .int .i64 a3] 93) = W4 at *
    have HF4 := Lib.hid hf4
    have HX4 := Lib.hid hx4
    have HK4 := Lib.hid K4
    clear hf4 hx4 K4 hW4 R3 m1 m3 m4 m5 m6 m7 m8 m9 m10 m11 cx HRUN EXB
    have BD : Hid (Below W4.heap.size W4 W4.drew) := (Below.refl _ _).drew
    have KW : Hid (∀ W, Below W4.heap.size W4 W → MF B w0 σ3 κ { d with pk := wrap64 (d.pk + 1), cur := wrap64 (d.cur + 1) } W ∧ MX B σ3 L g κ { d with pk := wrap64 (d.pk + 1), cur := wrap64 (d.cur + 1) } W) := fun W hW => MFX.below HF4.out HX4.out hW
    have CX : Hid (∀ W, Below W4.heap.size W4 W → W.cell? ⟨d.bM, 7, none⟩ = some (.slice d.AR d.nR d.cR)) := fun W hW => ((KW.out W hW).1.cM W rfl).2.2.2.2.2.1
    have KX : Hid (∀ W, Below W4.heap.size W4 W → W.cell? ⟨w3.heap.size, 0, none⟩ = some (.int .i64 a0) ∧ W.cell? ⟨w3.heap.size, 1, none⟩ = some (.int .i64 a1) ∧ W.cell? ⟨w3.heap.size, 2, none⟩ = some (.int .i64 a2) ∧ W.cell? ⟨w3.heap.size, 3, none⟩ = some (.int .i64 a3)) := fun W hW => by
     have h := kept_lt (B := 0) HK4.out hW
     exact ⟨blk_cell h 0, blk_cell h 1, blk_cell h 2, blk_cell h 3⟩
    have cD := CX.out _ BD.out
    obtain ⟨x0, x1, x2, x3⟩ := KX.out _ BD.out
    go_cut [] from 115 to 127 (fun wx => PkTr B w0 ts d L g i be k wx)
    case first =>
     go_region_law (first
      | (go_simp; go_at_call 44; (with_reducible refine (entry_h (KW.out _ BD.out).1 (KW.out _ BD.out).2 _ _ _ _ _ J1.out).mono ?_); rintro e w7 ⟨⟨e0, e1, e2, e3, e4, e5, eb, rfl⟩, hb7⟩; (have B7 := Lib.hid (BD.out.trans (hb7.mono BD.out.size))); (have M7 := Lib.hid (KW.out _ B7.out)); (have z7 := CX.out _ B7.out); (have L7 : d.bM < w7.heap.size := (Array.getElem?_eq_some_iff.1 M7.out.1.M).1); (have L71 : w3.heap.size < w7.heap.size := (Array.getElem?_eq_some_iff.1 (kept_lt (B := 0) HK4.out B7.out)).1); (obtain ⟨x70, x71, x72, x73⟩ := KX.out _ B7.out); clear hb7)
      | ((refine step_push 36 97 Tryz.underlying36 en_info rfl (by decide) (by decide) rfl _ _ rfl B _ (.slice d.AR d.nR d.cR) d.nR _ rfl (by first | exact (MFX.alloc M7.out.1 M7.out.2 _).1.tr | exact (MFX.drew (MFX.alloc M7.out.1 M7.out.2 _).1 (MFX.alloc M7.out.1 M7.out.2 _).2).1.tr) ⟨w7.heap.size, 0, none⟩ [.int .i64 e0, .int .i64 e1, .int .i64 e2, .int .i64 e3, .int .i64 e4, .int .i64 e5, .bool eb] rfl rfl (fun j x hj => alloc_at w7 _ _ hj) (en_one _ _ _ _ _ _ _) (by first | exact (MFX.alloc M7.out.1 M7.out.2 _).1.size | exact (MFX.drew (MFX.alloc M7.out.1 M7.out.2 _).1 (MFX.alloc M7.out.1 M7.out.2 _).2).1.size) (by have := HSZ.out.2; omega) ?_); intro a6 c6 w6 hrow hg hnew; (have GM := Lib.hid (MFX.alloc M7.out.1 M7.out.2 (.cells #[.int .i64 e0, .int .i64 e1, .int .i64 e2, .int .i64 e3, .int .i64 e4, .int .i64 e5, .bool eb] 97))); (have hM6 := (GM.out.1.grown (.inr rfl) GM.out.1.nR hg).trans GM.out.1.M); (have y6 := blk_cell hM6 7); (have f6 := blk_frozen hM6 7); (dsimp only [MD.cells] at y6 f6); (simp only [List.getElem?_toArray, List.getElem?_cons_zero, List.getElem?_cons_succ] at y6); (have RP := Lib.hid (And.intro hrow (And.intro hg hnew))); clear hrow hg hnew hM6))
     all_goals (go_wp2_with fail; go_meet)
     all_goals
      obtain ⟨κ5, hf5, hx5⟩ := MFX.pushR GM.out.1 GM.out.2 _ RP.out.1 RP.out.2.1 RP.out.2.2
      exact ⟨_, σ3, κ5, hf5, hx5, ⟨HI2.out.n, HI2.out.cnt, HI2.out.prop, HI2.out.ats, HI2.out.res⟩, ⟨rfl, rfl, rfl, rfl, rfl, rfl, rfl, rfl⟩, Nat.le_refl _, Nat.le_refl _, HEX.out, HA.out⟩
    case rest =>
     obtain ⟨d5, σ5, κ5, hf5, hx5, hi5, st5, v5, r5, ex5, at5⟩ := hcut
     clear BD KW CX KX cD x0 x1 x2 x3 HF4 HX4 HK4 HF2 HX2 HI2
     rename World => W5
     obtain ⟨y5, hy5⟩ : ∃ y5, d5.bys[i]? = some y5 := ⟨_, List.getElem?_eq_getElem (by rw [hf5.ly, st5.nT]; exact hin)⟩
     have m5 := (hf5.cM W5 rfl).2.2.2.1
     have cx := hf5.cX ex5 W5 rfl
     rw [st5.bM, st5.nT] at m5
     simp only [exP] at cx
     have EXB := Lib.hid (hx5.ex i be ex5).1
     have HF5 := Lib.hid hf5
     have HX5 := Lib.hid hx5
     have HI5 := Lib.hid hi5
     have ST5 := Lib.hid st5
     have HV5 := Lib.hid (And.intro v5 r5)
     have EX5 := Lib.hid ex5
     have AT5 := Lib.hid at5
     have HY5 := Lib.hid hy5
     have hb5 : Hid (d5.bM = d.bM ∧ d5.nT = d.nT) := ⟨st5.bM, st5.nT⟩
     clear hf5 hx5 hi5 st5 v5 r5 ex5 at5 hy5
     go_upto_region 12 with (go_at_call 45; refine (step_x EXB.out (by omega) (by omega)).mono ?_; rintro r w6 ⟨σ6, L6, rfl, l1, l2, hx6, hf6⟩; (have HF6 := Lib.hid (HF5.out.run HX5.out EX5.out hf6)); (have HX6 := Lib.hid (HX5.out.run EX5.out hx6 l1 (Nat.le_succ g) hf6)); (have m9 := (HF6.out.cM w6 rfl).2.2.2.2.2.2.2.1); (have cy := HF6.out.cY HY5.out w6 rfl); (have fy := blk_frozen HF6.out.Y i); (rw [hb5.out.1, hb5.out.2] at m9); (have LL := Lib.hid (And.intro l1 l2)); clear l1 l2 hx6 hf6)
     clear m5 cx
     go_wp2_with fail
     go_meet
     obtain ⟨hf7, hx7⟩ := MFX.by HF6.out HX6.out (i := i) (wrap64 (y5 + 1))
     exact ⟨_, σ6, κ5, L6, be, hf7, hx7, ⟨HI5.out.n, HI5.out.cnt, HI5.out.prop, HI5.out.ats, HI5.out.res⟩, ⟨ST5.out.bM, ST5.out.AT, ST5.out.nT, ST5.out.cT, ST5.out.AP, ST5.out.nP, ST5.out.cP, ST5.out.msk⟩, LL.out.1, LL.out.2, Nat.le_succ_of_le HV5.out.1, HV5.out.2, EX5.out, AT5.out⟩
  case rest =>
   obtain ⟨d3, σ3, κ3, L3, be, hf3, hx3, hi3, st3, l1, l2, v3, r3, ex3, at3⟩ := hcut
   rename World => W3
   clear HF2 HX2 HI2 m1 m3 m4 m5 m6 m7 m8 m9 m10 m11 cx
   have m5 := (hf3.cM W3 rfl).2.2.2.1
   have cx := hf3.cX ex3 W3 rfl
   rw [st3.bM, st3.nT] at m5
   simp only [exP] at cx
   have EXB := Lib.hid (hx3.ex i be ex3).1
   have HF3 := Lib.hid hf3
   have HX3 := Lib.hid hx3
   have HI3 := Lib.hid hi3
   have ST3 := Lib.hid st3
   have HV3 := Lib.hid (And.intro v3 r3)
   have LL3 := Lib.hid (And.intro l1 l2)
   have EX3 := Lib.hid ex3
   have AT3 := Lib.hid at3
   have hL3 : Hid (L3 ≤ 137438000000) := Lib.hid (by omega)
   clear hf3 hx3 hi3 st3 v3 r3 ex3 at3 l1 l2
   go_upto_if 152 with (go_at_call 46; refine (done_x EXB.out hL3.out).mono ?_; rintro r W4' ⟨σ4, hx4, hf4, b, rfl⟩; (have HF4 := Lib.hid (HF3.out.run HX3.out EX3.out hf4)); (have HX4 := Lib.hid (HX3.out.run EX3.out hx4 (Nat.le_refl _) (Nat.le_refl _) hf4)); clear hx4 hf4)
   clear m5 cx EXB HF3 HX3
   go_cut [8] from 152 to 218 (fun v8 wx => PkEnd B w0 ts d L g wx)
   case first =>
    cases b with
    | false =>
     go_wp2_with fail
     go_meet
     exact ⟨d3, σ4, κ3, L3, HF4.out, HX4.out, HI3.out, ST3.out, LL3.out.1, LL3.out.2, Nat.le_succ_of_le HV3.out.1, HV3.out.2⟩
    | true =>
     go_upto_region 14 with fail
     have HD := MFX.drew HF4.out HX4.out
     have Z4b : Hid (PkZ B w0 d3 L3 (g + 1) none none W4') := ⟨σ4, κ3, HF4.out, HX4.out, (fun P h => by cases h), (fun x h => by cases h)⟩
     have Z4 : Hid (PkZ B w0 d3 L3 (g + 1) none none W4'.drew) := ⟨σ4, κ3, HD.1, HD.2, (fun P h => by cases h), (fun x h => by cases h)⟩
     have K4 := PkZ.cells Z4.out EX3.out ST3.out.bM ST3.out.nT
     clear HD
     have ln : i < 8 := by omega
     go_cut [8] from 153 to 175 (fun v8 wx => PkR B w0 d3 L3 (g + 1) v8 wx)
     case first =>
      go_region_held3 (fun W => W.cell? ⟨d.bM, 3, none⟩ = some (.pointer (some ⟨d3.t.bt, 0, none⟩)) ∧ W.cell? ⟨d.bM, 5, none⟩ = some (.slice (some ⟨d3.bx, 0, none⟩) d.nT d.nT) ∧ W.cell? ⟨d3.bx, i, none⟩ = some (.pointer (some ⟨be, 0, none⟩))) (with_reducible (first | exact K4 | exact PkZ.cells Z5.out EX3.out ST3.out.bM ST3.out.nT | exact PkZ.cells Z5a.out EX3.out ST3.out.bM ST3.out.nT | exact PkZ.cells Z6.out EX3.out ST3.out.bM ST3.out.nT | exact PkZ.cells Z6a.out EX3.out ST3.out.bM ST3.out.nT | exact PkZ.cells Z7.out EX3.out ST3.out.bM ST3.out.nT | exact PkZ.cells Z7a.out EX3.out ST3.out.bM ST3.out.nT | exact PkZ.cells ((Z4b.out.alloc (cs := _) (by simp)).drew) EX3.out ST3.out.bM ST3.out.nT | exact PkZ.cells (Z5.out.alloc (cs := _) (by simp)) EX3.out ST3.out.bM ST3.out.nT | exact PkZ.cells (Z6.out.alloc (cs := _) (by simp)) EX3.out ST3.out.bM ST3.out.nT | exact PkZ.cells (Z7.out.alloc (cs := _) (by simp)) EX3.out ST3.out.bM ST3.out.nT | exact PkZ.cells ((((((((Z7a.out.set _).set _).set _).set _).set _).set _).set _).set _) EX3.out ST3.out.bM ST3.out.nT)) ((first
       | (go_at_call 48; refine (PkZ.result Z4.out EX3.out hL3.out).mono ?_; rintro r w5 ⟨r0, r2, r4, r5, r6, r1, r7, rs, rfl, hr, hz⟩; (have HR5 := Lib.hid hr); (have Z5 := Lib.hid hz); clear hr hz)
       | (go_at_call 48; refine (PkZ.result ((Z4b.out.alloc (cs := #[.int .i64 0, .bool false, .int .u64 0, .string ⟨#[]⟩, .int .i64 0, .int .i64 0, .int .i64 0, .bool false]) rfl).drew) EX3.out hL3.out).mono ?_; rintro r w5 ⟨r0, r2, r4, r5, r6, r1, r7, rs, rfl, hr, hz⟩; (have HR5 := Lib.hid hr); (have Z5a : Hid (PkZ B w0 d3 L3 (g + 1) (some W4'.heap.size) none w5) := Lib.hid hz); clear hr hz)
       | (go_at_call 49; refine (PkZ.walk Z5.out EX3.out hL3.out).mono ?_; rintro r w6 ⟨x, rfl, hz⟩; (have Z6 := Lib.hid hz); clear hz)
       | (go_at_call 49; refine (PkZ.walk (Z5.out.alloc (cs := #[.int .i64 0, .bool false, .int .u64 0, .string ⟨#[]⟩, .int .i64 0, .int .i64 0, .int .i64 0, .bool false]) rfl) EX3.out hL3.out).mono ?_; rintro r w6 ⟨x, rfl, hz⟩; (have Z6a := Lib.hid hz); clear hz)
       | (go_at_call 49; refine (PkZ.walk Z5a.out EX3.out hL3.out).mono ?_; rintro r w6 ⟨x, rfl, hz⟩; (have Z6a := Lib.hid hz); clear hz)
       | (go_at_call 47; refine (PkZ.finish (r1 := r1) (r7 := r7) Z6.out i k (by omega) (by omega) (by omega) (by omega) HR5.out).mono ?_; rintro r w7 ⟨s0, s2, s4, s5, s6, s1, s7, s3, rfl, hs, hz⟩; (have HS7 := Lib.hid hs); (have Z7 := Lib.hid hz); clear hs hz)
       | (go_at_call 47; refine (PkZ.finish (r1 := r1) (r7 := r7) (Z6.out.alloc (cs := #[.int .i64 0, .bool false, .int .u64 0, .string ⟨#[]⟩, .int .i64 0, .int .i64 0, .int .i64 0, .bool false]) rfl) i k (by omega) (by omega) (by omega) (by omega) HR5.out).mono ?_; rintro r w7 ⟨s0, s2, s4, s5, s6, s1, s7, s3, rfl, hs, hz⟩; (have HS7 := Lib.hid hs); (have Z7a := Lib.hid hz); (obtain ⟨c0, c1, c2, c3, c4, c5, c6, c7, y0, y1, y2, y3, y4, y5, y6, y7, f0, f1, f2, f3, f4, f5, f6, f7⟩ := PkZ.room hz); clear hs hz)
       | (go_at_call 47; refine (PkZ.finish (r1 := r1) (r7 := r7) Z6a.out i k (by omega) (by omega) (by omega) (by omega) HR5.out).mono ?_; rintro r w7 ⟨s0, s2, s4, s5, s6, s1, s7, s3, rfl, hs, hz⟩; (have HS7 := Lib.hid hs); (have Z7a := Lib.hid hz); (obtain ⟨c0, c1, c2, c3, c4, c5, c6, c7, y0, y1, y2, y3, y4, y5, y6, y7, f0, f1, f2, f3, f4, f5, f6, f7⟩ := PkZ.room hz); clear hs hz)))
      all_goals (go_wp2_with fail; go_meet)
      all_goals first | exact Z7a.out.done HS7.out | exact Z7.out.done0 HS7.out
     case rest =>
      obtain ⟨P, σ5, κ5, r0, r2, r4, r5, r6, r1, r7, r3, rfl, hP, hrs, hf5, hx5⟩ := hcut
      rename World => W5
      clear Z4 Z4b K4 HF4 HX4
      have q0 := blk_cell hP 0
      have q1 := blk_cell hP 1
      have q2 := blk_cell hP 2
      have q3 := blk_cell hP 3
      have q4 := blk_cell hP 4
      have q5 := blk_cell hP 5
      have q6 := blk_cell hP 6
      have q7 := blk_cell hP 7
      simp only [List.getElem?_toArray, List.getElem?_cons_zero, List.getElem?_cons_succ] at q0 q1 q2 q3 q4 q5 q6 q7
      have m6 := (hf5.cM W5 rfl).2.2.2.2.1
      have m6f := blk_frozen hf5.M 6
      rw [ST3.out.bM] at m6 m6f
      have HRS := Lib.hid hrs
      have LP : P < W5.heap.size := (Array.getElem?_eq_some_iff.1 hP).1
      have LM : d.bM < W5.heap.size := by rw [← ST3.out.bM]; exact (Array.getElem?_eq_some_iff.1 hf5.M).1
      have HA1 := MFX.alloc hf5 hx5 (.cells #[.int .i64 i, .int .i64 k, .bool true, .int .i64 r0, .bool r1, .int .u64 r2, .string r3, .int .i64 r4, .int .i64 r5, .int .i64 r6, .bool r7] 72)
      have HA2 := MFX.drew HA1.1 HA1.2
      have HFA := Lib.hid HA2.1
      have HXA := Lib.hid HA2.2
      clear HA1 HA2 hf5 hx5 hP hrs
      go_upto_region 15 with fail
      go_cut [] from 176 to 186 (fun wx => PkE B w0 d3 L3 (g + 1) i k wx)
      case first =>
       go_region_law ((refine step_push 35 72 Tryz.underlying35 ev_info rfl (by decide) (by decide) rfl _ _ rfl B _ (.slice d3.AE d3.evs.length d3.cE) d3.evs.length _ rfl HFA.out.ev ⟨W5.heap.size, 0, none⟩ (EvD.cells ⟨i, k, true, ⟨r0, r1, r2, r3, r4, r5, r6, r7⟩⟩) rfl rfl (fun j x hj => alloc_at W5 _ _ hj) (ev_one _) HFA.out.size (by have := HSZ.out.1; have := HV3.out.1; omega) ?_); intro a6 c6 w6 hrow hg hnew; (have hM6 := (HFA.out.grown (.inl rfl) HFA.out.nE hg).trans HFA.out.M); (have y6 := blk_cell hM6 6); (have f6 := blk_frozen hM6 6); (dsimp only [MD.cells] at y6 f6); (simp only [List.getElem?_toArray, List.getElem?_cons_zero, List.getElem?_cons_succ] at y6); (rw [ST3.out.bM] at y6 f6); (have RP := Lib.hid (And.intro hrow (And.intro hg hnew))); clear hrow hg hnew hM6)
       all_goals (go_wp2_with fail; go_meet)
       all_goals
        obtain ⟨κ6, hf6, hx6⟩ := MFX.pushE HFA.out HXA.out ⟨i, k, true, ⟨r0, r1, r2, r3, r4, r5, r6, r7⟩⟩ RP.out.1 RP.out.2.1 RP.out.2.2
        rw [← ST3.out.bM]
        obtain ⟨s0, s1, s2, s3, s4, s5⟩ := HRS.out
        exact ⟨_, σ5, κ6, ⟨r0, r1, r2, r3, r4, r5, r6, r7⟩, hf6, hx6, ⟨s0, s1, s2, s3, s4, s5⟩, ⟨rfl, rfl, rfl, rfl, rfl, rfl, rfl, rfl⟩, rfl, rfl, rfl, rfl, rfl, rfl⟩
      case rest =>
       obtain ⟨d6, σ6, κ6, rf, hf6, hx6, hrf, st6, ba6, bx6, ats6, exs6, evs6, nR6⟩ := hcut
       rename World => W6
       clear HFA HXA q0 q1 q2 q3 q4 q5 q6 q7 m6 m6f
       obtain ⟨_, _, m4, m5, _, _, m8, _, m10, m11⟩ := hf6.cM W6 rfl
       have hA6 := AT3.out
       have hE6 := EX3.out
       rw [← ats6] at hA6
       rw [← exs6] at hE6
       have ca := hf6.cA hA6 W6 rfl
       have cx := hf6.cX hE6 W6 rfl
       have fa := blk_frozen hf6.A i
       have fx := blk_frozen hf6.X i
       rw [st6.bM, ST3.out.bM] at m4 m5
       rw [st6.nT, ST3.out.nT] at m4 m5
       have HF6 := Lib.hid hf6
       have HX6 := Lib.hid hx6
       have HE6 := Lib.hid (And.intro hrf (And.intro st6 (And.intro ats6 (And.intro exs6 (And.intro evs6 nR6)))))
       have hk1 : IntKind.i64.wrap ((k : Int) + 1) = (k : Int) + 1 := IntWalk.i64_in _ (by omega)
       clear hf6 hx6 hrf st6 ba6 bx6 ats6 exs6 evs6 nR6 m8 m10 m11 hA6 hE6
       have n1 : d6.ba ≠ d6.bx := HF6.out.nes.2.2.2.1
       have n2 : d6.bx ≠ d6.ba := n1.symm
       simp only [exP] at cx
       go_upto_region 16 with fail
       go_region
       obtain ⟨hf7, hx7⟩ := MFX.drew (MFX.end HF6.out HX6.out (i := i) ((k : Int) + 1)).1 (MFX.end HF6.out HX6.out (i := i) ((k : Int) + 1)).2
       clear m4 m5 ca cx fa fx n1 n2
       generalize ((W6.setCell ⟨d6.bx, i, none⟩ (.pointer none)).setCell ⟨d6.ba, i, none⟩ (.int .i64 ((k : Int) + 1))).drew = W7 at *
       obtain ⟨_, _, _, _, _, _, _, _, m10, m11⟩ := hf7.cM W7 rfl
       have f10 := blk_frozen hf7.M 10
       have f11 := blk_frozen hf7.M 11
       dsimp only at m10 m11 f10 f11
       rw [HE6.out.2.1.bM, ST3.out.bM] at m10 m11 f10 f11
       have HF7 := Lib.hid hf7
       have HX7 := Lib.hid hx7
       clear hf7 hx7
       go_upto_region 17 with fail
       go_region
       generalize (if d6.most < wrap64 (d6.cur - 1) then wrap64 (d6.cur - 1) else d6.most) = mv
       go_wp2_with fail
       go_meet
       obtain ⟨hf8, hx8⟩ := MFX.drew (MFX.most0 HF7.out HX7.out mv).1 (MFX.most0 HF7.out HX7.out mv).2
       rw [← ST3.out.bM, ← HE6.out.2.1.bM]
       exact ⟨_, σ6, κ6, L3, hf8, hx8, EvI.fin HI3.out AT3.out EX3.out HT.out hk rf HE6.out.1 HE6.out.2.1.nT (congrArg (fun l => List.set l i ((k : Int) + 1)) HE6.out.2.2.1) (congrArg (fun l => List.set l i none) HE6.out.2.2.2.1) HE6.out.2.2.2.2.1, ⟨HE6.out.2.1.bM.trans ST3.out.bM, HE6.out.2.1.AT.trans ST3.out.AT, HE6.out.2.1.nT.trans ST3.out.nT, HE6.out.2.1.cT.trans ST3.out.cT, HE6.out.2.1.AP.trans ST3.out.AP, HE6.out.2.1.nP.trans ST3.out.nP, HE6.out.2.1.cP.trans ST3.out.cP, HE6.out.2.1.msk.trans ST3.out.msk⟩, LL3.out.1, LL3.out.2, (by show d6.evs.length ≤ _; rw [HE6.out.2.2.2.2.1]; have := HV3.out.1; simp; omega), (by show d6.nR ≤ _; rw [HE6.out.2.2.2.2.2]; exact HV3.out.2)⟩
   case rest =>
    obtain ⟨d9, σ9, κ9, L9, hf9, hx9, hi9, st9, l9, l9b, v9, r9⟩ := hcut
    rename World => W9
    obtain ⟨_, _, _, _, _, _, _, _, m10, m11⟩ := hf9.cM W9 rfl
    have f11 := blk_frozen hf9.M 11
    rw [st9.bM] at m10 m11 f11
    have HF9 := Lib.hid hf9
    have HX9 := Lib.hid hx9
    have HI9 := Lib.hid hi9
    have ST9 := Lib.hid st9
    have LV9 := Lib.hid (And.intro l9 (And.intro l9b (And.intro v9 r9)))
    clear hf9 hx9 hi9 st9 l9 l9b v9 r9 HF4 HX4
    go_upto_region 18 with fail
    go_region
    generalize (if d9.most < d9.cur then d9.cur else d9.most) = mv
    go_wp2_with fail
    go_ret
    obtain ⟨hf8, hx8⟩ := MFX.drew (MFX.most HF9.out HX9.out mv).1 (MFX.most HF9.out HX9.out mv).2
    rw [← ST9.out.bM]
    exact ⟨true, _, σ9, κ9, L9, rfl, hf8, hx8, ⟨HI9.out.n, HI9.out.cnt, HI9.out.prop, HI9.out.ats, HI9.out.res⟩, ⟨ST9.out.bM, ST9.out.AT, ST9.out.nT, ST9.out.cT, ST9.out.AP, ST9.out.nP, ST9.out.cP, ST9.out.msk⟩, LV9.out.1, LV9.out.2.1, LV9.out.2.2.1, LV9.out.2.2.2⟩
end Tv
end Go.Proofs.YtpabdmcbahmjnaaGreat
