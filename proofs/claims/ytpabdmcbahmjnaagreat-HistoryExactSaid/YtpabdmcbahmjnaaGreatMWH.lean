/- Part of a proof: W19 W20. -/
import Derived.Test.YtpabdmcbahmjnaaGreatMW18
import Derived.Deep.CutRange
import Derived.Deep.DeepCutAuto
import Derived.Test.YtpabdmcbahmjnaaGreatMWG
namespace Go.Proofs.YtpabdmcbahmjnaaGreat
namespace Tv
open Go Go.RowKit Go.MapKept
set_option linter.unusedSimpArgs false
set_option linter.unusedVariables false
def PkAt (w : World) (A : Option Addr) (n : Nat) : Prop := 0 < n → ∃ b off, A = some ⟨b, off, none⟩ ∧ b < w.heap.size ∧ ∀ k, k < n → ∃ z : Int, w.cell? ⟨b, off + k, none⟩ = some (.int .i64 z) ∧ -9223372036854775808 ≤ z ∧ z ≤ 9223372036854775807
def RunAt (B : Nat) (w0 : World) (ts : List (List OpD)) (d : MD) (L g i : Nat) (W : World) : Prop :=
 ∃ (d' : MD) (σ' : Sg) (κ' : Nat → Nat) (L' : Nat), MF B w0 σ' κ' d' W ∧ MX B σ' L' (g + i) κ' d' W ∧ EvI ts d' ∧ Stat d d' ∧ L ≤ L' ∧ L' ≤ L + 300000 * i ∧ d'.evs.length ≤ d.evs.length + 2 * i ∧ d'.nR ≤ d.nR + i
def RunRel (B : Nat) (w0 : World) (ts : List (List OpD)) (d : MD) (L g : Nat) (k : Nat) (v : Value) (W : World) : Prop :=
 ∃ i : Nat, v = .int .i64 i ∧ k + i = d.nP ∧ RunAt B w0 ts d L g i W
theorem step_le {a b L k i : Nat} (h1 : a ≤ b + k) (h2 : b ≤ L + k * i) : a ≤ L + k * (i + 1) := by
 rw [Nat.mul_succ]
 generalize k * i = m at *
 omega
set_option maxRecDepth 100000 in
theorem RunAt.picked {B : Nat} {w0 : World} {ts : List (List OpD)} {d d' : MD} {L L' g i : Nat} {e : Ending} {W W' : World} (st : Stat d d') (l1 : L ≤ L') (l2 : L' ≤ L + 300000 * i) (e1 : d'.evs.length ≤ d.evs.length + 2 * i) (r1 : d'.nR ≤ d.nR + i)
  (h : PkPost B w0 ts d' L' (g + i) e W') : (∃ b, e = .returned (.bool b)) ∧ RunAt B w0 ts d L g (i + 1) W' := by
 obtain ⟨b, d2, σ2, κ2, L2, rfl, hf, hx, hi, st2, l3, l4, e2, r2⟩ := h
 exact ⟨⟨b, rfl⟩, d2, σ2, κ2, L2, hf, hx, hi, ⟨st2.bM.trans st.bM, st2.AT.trans st.AT, st2.nT.trans st.nT, st2.cT.trans st.cT, st2.AP.trans st.AP, st2.nP.trans st.nP, st2.cP.trans st.cP, st2.msk.trans st.msk⟩, by omega, step_le l4 l2, by omega, by omega⟩
set_option maxRecDepth 100000 in
set_option maxHeartbeats 8000000 in
theorem run_h {B : Nat} {w0 w : World} {σ : Sg} {κ : Nat → Nat} {d : MD} {L g : Nat} {ts : List (List OpD)} (hf : MF B w0 σ κ d w) (hx : MX B σ L g κ d w) (hi : EvI ts d) (hB : w0.heap.size = B) (hT : ThrAt w0 d.AT ts) (ho : ∀ t ∈ ts, ∀ o ∈ t, OpOk o.kind o.handle o.key o.value o.expect) (h8 : ts.length ≤ 8) (h16 : ∀ t ∈ ts, t.length ≤ 16)
  (hE : d.evs.length ≤ 1000) (hR : d.nR ≤ 1000) (h64 : 64 ≤ L) (hL : L ≤ 137000000000) (hg : g ≤ 500) (hn : d.nP ≤ 200) (hP : PkAt w0 d.AP d.nP) :
  Calls Tryz.prog 9 #[.pointer (some ⟨d.bM, 0, none⟩)] w fun e w' => (∃ v, e = .returned v) ∧ RunAt B w0 ts d L g d.nP w' := by
 have RA : Hid (RunAt B w0 ts d L g 0 w) := ⟨d, σ, κ, L, hf, hx, hi, ⟨rfl, rfl, rfl, rfl, rfl, rfl, rfl, rfl⟩, by omega, by omega, by omega, by omega⟩
 have HP := Lib.hid hP
 have HT := Lib.hid hT
 have HO := Lib.hid ho
 have H16 := Lib.hid h16
 clear hf hx hi hP hT ho h16
 go_enter Tryz.func9, Tryz.ntmps9
 go_wp2_with fail
 go_loopg [2] d.nP (fun k v wr => RunRel B w0 ts d L g k v wr)
 case atStart => exact ⟨0, rfl, rfl, RA.out⟩
 case round =>
  obtain ⟨i, rfl, hki, d', σ', κ', L', hf, hx, hi, st, l1, l2, e1, r1⟩ := hrel
  have m2 := blk_cell hf.M 2
  simp only [MD.cells, List.getElem?_toArray, List.getElem?_cons_zero, List.getElem?_cons_succ] at m2
  rw [st.bM, st.AP, st.nP, st.cP] at m2
  have hw1 : IntKind.i64.wrap ((i : Int) + 1) = (i : Int) + 1 := IntWalk.i64_in _ (by omega)
  by_cases hlt : i < d.nP
  ·obtain ⟨b, off, eA, lb, cb⟩ := HP.out (by omega)
   obtain ⟨z, cz, z0, z1⟩ := cb i hlt
   have cz' := (World.cell?_of_block (a := ⟨b, off + i, none⟩) (hf.below.block b (by rw [← hB]; exact lb))).trans cz
   rw [eA] at m2
   have PH := Lib.hid (pick_h hf hx hi hB (by rw [st.AT]; exact HT.out) HO.out h8 H16.out (by omega) (by omega) (by omega) (by omega) (by omega) z z0 z1)
   rw [st.bM] at PH
   have AN : Hid (∀ e W', PkPost B w0 ts d' L' (g + i) e W' → (∃ b, e = .returned (.bool b)) ∧ RunAt B w0 ts d L g (i + 1) W') := fun e W' h => RunAt.picked (W := wr) st l1 l2 e1 r1 h
   have hi1 : (i : Int) < d.nP := by omega
   clear hf hx hi st cz cb l1 l2 e1 r1
   go_wp2_with (go_at_call 28; refine PH.out.mono ?_; rintro r w2 hr; (obtain ⟨⟨bb, rfl⟩, ra⟩ := AN.out _ _ hr); (have RA2 := Lib.hid ra); clear hr ra)
   go_roundg (d.nP - (i + 1))
   all_goals first | exact ⟨i + 1, by go_num, by omega, RA2.out⟩ | omega
  ·have hie : i = d.nP := by omega
   subst hie
   have RA2 : Hid (RunAt B w0 ts d L g d.nP wr) := ⟨d', σ', κ', L', hf, hx, hi, st, l1, l2, e1, r1⟩
   clear hf hx hi st l1 l2 e1 r1
   go_wp2_with fail
   go_end0
   exact ⟨⟨_, rfl⟩, RA2.out⟩
def ChRel (w : World) (ts : List (List OpD)) (A : Option Addr) (c : Nat) (k : Nat) (v : Value) (W : World) : Prop :=
 ∃ i : Nat, v = .int .i64 i ∧ k + i = ts.length ∧ Below w.heap.size w W ∧ W.cell? ⟨w.heap.size, 1, none⟩ = some (.slice A ts.length c)
set_option maxRecDepth 100000 in
set_option maxHeartbeats 8000000 in
theorem check24_h {w : World} {ts : List (List OpD)} {A D : Option Addr} {c n d : Nat} {m : Int} (hT : ThrAt w A ts) (h8 : ts.length ≤ 8) (h16 : ∀ t ∈ ts, t.length ≤ 16) (hn : n ≤ 1000) :
  Calls Tryz.prog 21 #[.agg #[.int .u64 m, .slice A ts.length c, .slice D n d]] w fun e w' => e = .returned (.int .i64 0) ∧ Below w.heap.size w w' := by
 have HT := Lib.hid hT
 have H16 := Lib.hid h16
 clear hT h16
 have c1 : ¬ ((8 : Int) < (ts.length : Int)) := by omega
 have c2 : ¬ ((67108864 : Int) < (n : Int)) := by omega
 go_enter Tryz.func21, Tryz.ntmps21
 go_wp2_with fail
 go_loopg [3] ts.length (fun k v wr => ChRel w ts A c k v wr)
 case atStart =>
  refine ⟨0, rfl, rfl, (Below.refl _ _).alloc (Nat.le_refl _) _, ?_⟩
  exact blk_cell (heap_alloc w _).1 1
 case round =>
  obtain ⟨i, rfl, hki, hb, hc⟩ := hrel
  have BL := Lib.hid hb
  have hw1 : IntKind.i64.wrap ((i : Int) + 1) = (i : Int) + 1 := IntWalk.i64_in _ (by omega)
  by_cases hlt : i < ts.length
  ·obtain ⟨t, ht⟩ : ∃ t, ts[i]? = some t := ⟨_, List.getElem?_eq_getElem hlt⟩
   obtain ⟨b, off, rfl, lb, cb⟩ := HT.out (by omega)
   obtain ⟨u, cu, e1, _⟩ := cb i t ht
   have u1 := (World.cell?_of_block (a := ⟨b, off + i, none⟩) (hb.block b lb)).trans e1
   have t16 : t.length ≤ 16 := H16.out t (List.mem_of_getElem? ht)
   have c3 : ¬ ((16 : Int) < (t.length : Int)) := by omega
   have i1 : (i : Int) < ts.length := by omega
   have RL : Hid (ChRel w ts (some ⟨b, off, none⟩) c (ts.length - (i + 1)) (.int .i64 ((i : Int) + 1)) wr) := ⟨i + 1, by go_num, by omega, hb, hc⟩
   clear hb cb e1 ht
   go_wp2_with fail
   go_roundg (ts.length - (i + 1))
   all_goals first | exact RL.out | omega
  ·have hie : i = ts.length := by omega
   subst hie
   clear hb
   go_wp2_with fail
   go_ret
   exact ⟨rfl, BL.out⟩
end Tv
end Go.Proofs.YtpabdmcbahmjnaaGreat
