/- Part of a proof: W5 W10a W10 W11 W12. -/
import Derived.Test.YtpabdmcbahmjnaaGreatMWA
import Derived.Test.YtpabdmcbahmjnaaGreatMU19
import Derived.Test.YtpabdmcbahmjnaaGreatMWC
import Derived.Deep.RegionWith
import Derived.StillTailTactics
namespace Go.Proofs.YtpabdmcbahmjnaaGreat
namespace Tv
open Go Go.RowKit Go.MapKept
set_option linter.unusedSimpArgs false
set_option linter.unusedVariables false
def StpPost (bm be : Nat) (σ : Sg) (L g c : Nat) (w : World) (e : Ending) (w' : World) : Prop :=
 ∃ (σ' : Sg) (L' : Nat), e = .returned (.tuple #[]) ∧ L ≤ L' ∧ L' ≤ L + c ∧ EX bm be σ' L' g w' ∧ HF bm be σ w σ' w'
theorem step_x {bm be : Nat} {σ : Sg} {L g : Nat} {w : World} (h : EX bm be σ L g w) (hg : g ≤ 1000) (hL : L ≤ 137438000000) :
  Calls Tryz.prog 45 #[.pointer (some ⟨be, 0, none⟩)] w (StpPost bm be σ L (g + 1) 300000 w) := by
 obtain ⟨x, hx, hG, h⟩ := h
 subst hx
 refine Calls.mono (EW.call sat_Step rfl h (avs := [.one (.c (.loc 1001 0))]) (.cons ⟨be, rfl, rfl⟩ .nil) rfl
  (R := fun r x' => r = .tup [] ∧ x.L ≤ x'.L ∧ (x'.G : Int) ≤ x.G + 1 ∧ PostS x.L x'.L x.G 1) ?_) ?_
 ·(conv => whnf)
  refine ⟨?_, ?_, rfl, ⟨h.xi, ⟨by omega⟩⟩, ?_⟩
  ·repeat' (first | exact True.intro | exact Eq.refl _ | exact Iff.refl _ | ((conv => whnf) <;> (first | (with_reducible refine WL.ex ?_) | (with_reducible refine WL.me ?_) | (with_reducible refine WL.mk ?_) | with_reducible refine And.intro ?_ ?_ | with_reducible refine Iff.intro ?_ ?_)))
  ·repeat' (first | exact True.intro | exact Eq.refl _ | exact Iff.refl _ | ((conv => whnf) <;> (first | (with_reducible refine WL.ex ?_) | (with_reducible refine WL.me ?_) | (with_reducible refine WL.mk ?_) | with_reducible refine And.intro ?_ ?_ | with_reducible refine Iff.intro ?_ ?_)))
   all_goals exact Nat.le_refl _
  ·intro z hz L' G' M' C' E' a' m' c' g' f' z' h1 h2 h3 h4 h5 h6
   exact ⟨⟨L', G', M', C', E', a', m', c', g', f', z'⟩, rfl, rfl, h1, h2, h3, rfl, h4, h5, h6⟩
 ·rintro e w' ⟨v, r', σ', x', rfl, ⟨rfl, h1, h2, h3⟩, ⟨vs, rfl, hv⟩, hw, hf⟩
  obtain ⟨l⟩ := vs
  cases hv
  have h4 := h3.h
  exact ⟨σ', x'.L, rfl, h1, by omega, ⟨x', rfl, by omega, hw⟩, hf⟩
theorem repeat_x {bm be : Nat} {σ : Sg} {x : XS} {w : World} (h : EW bm be σ x w) (hg : x.G ≤ 1000) (hL : x.L ≤ 137438000000) :
  Calls Tryz.prog 58 #[.pointer (some ⟨be, 0, none⟩), .int .i64 0] w (StpPost bm be σ x.L x.G 300000 w) := by
 refine Calls.mono (EW.call sat_repeat rfl h (avs := [.one (.c (.loc 1001 0)), .one (.c (.int .i64 0))]) (.cons ⟨be, rfl, rfl⟩ (.cons ⟨rfl, by rw [i64_min]; omega, by rw [i64_max]; omega⟩ .nil)) rfl
  (R := fun r x' => r = .tup [] ∧ x.L ≤ x'.L ∧ (x'.G : Int) ≤ x.G + 0 ∧ PostS x.L x'.L x.G 0) ?_) ?_
 ·(conv => whnf)
  refine ⟨?_, ?_, rfl, ⟨h.xi, ⟨by omega⟩, by omega, by omega⟩, ?_⟩
  ·repeat' (first | exact True.intro | exact Eq.refl _ | exact Iff.refl _ | ((conv => whnf) <;> (first | (with_reducible refine WL.ex ?_) | (with_reducible refine WL.me ?_) | (with_reducible refine WL.mk ?_) | with_reducible refine And.intro ?_ ?_ | with_reducible refine Iff.intro ?_ ?_)))
  ·repeat' (first | exact True.intro | exact Eq.refl _ | exact Iff.refl _ | ((conv => whnf) <;> (first | (with_reducible refine WL.ex ?_) | (with_reducible refine WL.me ?_) | (with_reducible refine WL.mk ?_) | with_reducible refine And.intro ?_ ?_ | with_reducible refine Iff.intro ?_ ?_)))
   all_goals exact Nat.le_refl _
  ·intro z hz L' G' M' C' E' a' m' c' g' f' z' h1 h2 h3 h4 h5 h6
   exact ⟨⟨L', G', M', C', E', a', m', c', g', f', z'⟩, rfl, rfl, h1, h2, h3, rfl, h4, h5, h6⟩
 ·rintro e w' ⟨v, r', σ', x', rfl, ⟨rfl, h1, h2, h3⟩, ⟨vs, rfl, hv⟩, hw, hf⟩
  obtain ⟨l⟩ := vs
  cases hv
  have h4 := h3.h
  exact ⟨σ', x'.L, rfl, h1, by omega, ⟨x', rfl, by omega, hw⟩, hf⟩
theorem done_x {bm be : Nat} {σ : Sg} {L g : Nat} {w : World} (h : EX bm be σ L g w) (hL : L ≤ 137438000000) :
  Calls Tryz.prog 46 #[.pointer (some ⟨be, 0, none⟩)] w fun e w' => ∃ σ', EX bm be σ' L g w' ∧ HF bm be σ w σ' w' ∧ ∃ b : Bool, e = .returned (.bool b) := by
 obtain ⟨x, hx, hG, h⟩ := h
 subst hx
 refine Calls.mono (EW.call sat_Done rfl h (avs := [.one (.c (.loc 1001 0))]) (.cons ⟨be, rfl, rfl⟩ .nil) rfl
  (R := fun r x' => r = .one (.c .tbool) ∧ x' = x) ?_) ?_
 ·(conv => whnf)
  refine ⟨?_, ?_, rfl, ⟨h.xi, by omega⟩, ?_⟩
  ·repeat' (first | exact True.intro | exact Eq.refl _ | exact Iff.refl _ | ((conv => whnf) <;> (first | (with_reducible refine WL.ex ?_) | (with_reducible refine WL.me ?_) | (with_reducible refine WL.mk ?_) | with_reducible refine And.intro ?_ ?_ | with_reducible refine Iff.intro ?_ ?_)))
  ·repeat' (first | exact True.intro | exact Eq.refl _ | exact Iff.refl _ | ((conv => whnf) <;> (first | (with_reducible refine WL.ex ?_) | (with_reducible refine WL.me ?_) | (with_reducible refine WL.mk ?_) | with_reducible refine And.intro ?_ ?_ | with_reducible refine Iff.intro ?_ ?_)))
   all_goals exact Nat.le_refl _
  ·exact ⟨x, rfl, rfl, h.xi, h.z0, h.z1, rfl, rfl⟩
 ·rintro e w' ⟨v, r', σ', x', rfl, ⟨rfl, rfl⟩, ⟨b, rfl⟩, hw, hf⟩
  exact ⟨σ', ⟨x', rfl, hG, hw⟩, hf, b, rfl⟩
theorem EX.res {σ : Sg} {β : Bt} {vs : Array Value} (h : Cells tab σ β [.tint .i64, .tbool, .tint .u64, .str, .tint .i64, .tint .i64, .tint .i64, .tbool] vs.toList) : ∃ (r0 r2 r4 r5 r6 : Int) (r1 r7 : Bool) (r3 : ByteArray), vs = #[.int .i64 r0, .bool r1, .int .u64 r2, .string r3, .int .i64 r4, .int .i64 r5, .int .i64 r6, .bool r7] ∧ RsOk r0 r2 r3 r4 r5 r6 := cells8 h
theorem result_x {bm be : Nat} {σ : Sg} {L g : Nat} {w : World} (h : EX bm be σ L g w) (hL : L ≤ 137438000000) :
  Calls Tryz.prog 48 #[.pointer (some ⟨be, 0, none⟩)] w fun e w' => ∃ σ', EX bm be σ' L g w' ∧ HF bm be σ w σ' w' ∧ ∃ (r0 r2 r4 r5 r6 : Int) (r1 r7 : Bool) (r3 : ByteArray), e = .returned (.agg #[.int .i64 r0, .bool r1, .int .u64 r2, .string r3, .int .i64 r4, .int .i64 r5, .int .i64 r6, .bool r7]) ∧ RsOk r0 r2 r3 r4 r5 r6 := by
 obtain ⟨x, hx, hG, h⟩ := h
 subst hx
 refine Calls.mono (EW.call sat_Result rfl h (avs := [.one (.c (.loc 1001 0))]) (.cons ⟨be, rfl, rfl⟩ .nil) rfl
  (R := fun r x' => r = .one (.agg [.tint .i64, .tbool, .tint .u64, .str, .tint .i64, .tint .i64, .tint .i64, .tbool]) ∧ x' = x) ?_) ?_
 ·(conv => whnf)
  refine ⟨?_, ?_, rfl, ⟨h.xi, by omega⟩, ?_⟩
  ·repeat' (first | exact True.intro | exact Eq.refl _ | exact Iff.refl _ | ((conv => whnf) <;> (first | (with_reducible refine WL.ex ?_) | (with_reducible refine WL.me ?_) | (with_reducible refine WL.mk ?_) | with_reducible refine And.intro ?_ ?_ | with_reducible refine Iff.intro ?_ ?_)))
  ·repeat' (first | exact True.intro | exact Eq.refl _ | exact Iff.refl _ | ((conv => whnf) <;> (first | (with_reducible refine WL.ex ?_) | (with_reducible refine WL.me ?_) | (with_reducible refine WL.mk ?_) | with_reducible refine And.intro ?_ ?_ | with_reducible refine Iff.intro ?_ ?_)))
   all_goals exact Nat.le_refl _
  ·exact ⟨x, rfl, rfl, h.xi, h.z0, h.z1, rfl, rfl⟩
 ·rintro e w' ⟨v, r', σ', x', rfl, ⟨rfl, rfl⟩, ⟨vs, rfl, hv⟩, hw, hf⟩
  obtain ⟨r0, r2, r4, r5, r6, r1, r7, r3, rfl, hr⟩ := cells8 hv
  exact ⟨σ', ⟨x', rfl, hG, hw⟩, hf, r0, r2, r4, r5, r6, r1, r7, r3, rfl, hr⟩
theorem walk_x {bm be : Nat} {σ : Sg} {L g : Nat} {w : World} (h : EX bm be σ L g w) (hL : L ≤ 137438000000) :
  Calls Tryz.prog 49 #[.pointer (some ⟨be, 0, none⟩)] w fun e w' => ∃ σ', EX bm be σ' L g w' ∧ HF bm be σ w σ' w' ∧ ∃ (st : Bool) (A : Option Addr) (n c : Nat) (A2 : Option Addr) (n2 c2 : Nat), e = .returned (.agg #[.bool st, .slice A n c, .slice A2 n2 c2]) ∧ n ≤ L ∧ SlOk tab σ' 168 A n c ∧ n2 ≤ L ∧ SlOk tab σ' 139 A2 n2 c2 := by
 obtain ⟨x, hx, hG, h⟩ := h
 subst hx
 refine Calls.mono (EW.call sat_Walk rfl h (avs := [.one (.c (.loc 1001 0))]) (.cons ⟨be, rfl, rfl⟩ .nil) rfl
  (R := fun r x' => r = .one (.agg [.tbool, .sl 168 x.L, .sl 139 x.L]) ∧ x' = x) ?_) ?_
 ·(conv => whnf)
  refine ⟨?_, ?_, rfl, ⟨h.xi, by omega⟩, ?_⟩
  ·repeat' (first | exact True.intro | exact Eq.refl _ | exact Iff.refl _ | ((conv => whnf) <;> (first | (with_reducible refine WL.ex ?_) | (with_reducible refine WL.me ?_) | (with_reducible refine WL.mk ?_) | with_reducible refine And.intro ?_ ?_ | with_reducible refine Iff.intro ?_ ?_)))
  ·repeat' (first | exact True.intro | exact Eq.refl _ | exact Iff.refl _ | ((conv => whnf) <;> (first | (with_reducible refine WL.ex ?_) | (with_reducible refine WL.me ?_) | (with_reducible refine WL.mk ?_) | with_reducible refine And.intro ?_ ?_ | with_reducible refine Iff.intro ?_ ?_)))
   all_goals exact Nat.le_refl _
  ·exact ⟨x, rfl, rfl, h.xi, h.z0, h.z1, rfl, rfl⟩
 ·rintro e w' ⟨v, r', σ', x', rfl, ⟨rfl, rfl⟩, ⟨vs, rfl, hv⟩, hw, hf⟩
  obtain ⟨l⟩ := vs
  simp only at hv
  rcases hv with _ | ⟨⟨st, rfl⟩, _ | ⟨⟨A, n, c, rfl, h1, h2⟩, _ | ⟨⟨A2, n2, c2, rfl, h3, h4⟩, _ | _⟩⟩⟩
  exact ⟨σ', ⟨x', rfl, hG, hw⟩, hf, st, A, n, c, A2, n2, c2, rfl, h1, h2, h3, h4⟩
theorem next_x {bm be : Nat} {σ : Sg} {L g : Nat} {w : World} (h : EX bm be σ L g w) (hL : L ≤ 137438000000) :
  Calls Tryz.prog 43 #[.pointer (some ⟨be, 0, none⟩)] w fun e w' => ∃ σ', EX bm be σ' L g w' ∧ HF bm be σ w σ' w' ∧ ∃ (a0 a1 a2 a3 : Int) (b : Bool), e = .returned (.tuple #[.agg #[.int .i64 a0, .int .i64 a1, .int .i64 a2, .int .i64 a3], .bool b]) ∧ InR .i64 a0 ∧ InR .i64 a1 ∧ InR .i64 a2 ∧ InR .i64 a3 := by
 obtain ⟨x, hx, hG, h⟩ := h
 subst hx
 refine Calls.mono (EW.call sat_Next rfl h (avs := [.one (.c (.loc 1001 0))]) (.cons ⟨be, rfl, rfl⟩ .nil) rfl
  (R := fun r x' => r = .tup [.agg [.tint .i64, .tint .i64, .tint .i64, .tint .i64], .c .tbool] ∧ x' = x) ?_) ?_
 ·(conv => whnf)
  refine ⟨?_, ?_, rfl, ⟨h.xi, by omega⟩, ?_⟩
  ·repeat' (first | exact True.intro | exact Eq.refl _ | exact Iff.refl _ | ((conv => whnf) <;> (first | (with_reducible refine WL.ex ?_) | (with_reducible refine WL.me ?_) | (with_reducible refine WL.mk ?_) | with_reducible refine And.intro ?_ ?_ | with_reducible refine Iff.intro ?_ ?_)))
  ·repeat' (first | exact True.intro | exact Eq.refl _ | exact Iff.refl _ | ((conv => whnf) <;> (first | (with_reducible refine WL.ex ?_) | (with_reducible refine WL.me ?_) | (with_reducible refine WL.mk ?_) | with_reducible refine And.intro ?_ ?_ | with_reducible refine Iff.intro ?_ ?_)))
   all_goals exact Nat.le_refl _
  ·exact ⟨x, rfl, rfl, h.xi, h.z0, h.z1, rfl, rfl⟩
 ·rintro e w' ⟨v, r', σ', x', rfl, ⟨rfl, rfl⟩, ⟨vs, rfl, hv⟩, hw, hf⟩
  obtain ⟨l⟩ := vs
  simp only at hv
  rcases hv with _ | ⟨⟨us, rfl, hu⟩, _ | ⟨⟨b, rfl⟩, _ | _⟩⟩
  obtain ⟨m⟩ := us
  simp only at hu
  rcases hu with _ | ⟨⟨a0, rfl, h0⟩, _ | ⟨⟨a1, rfl, h1⟩, _ | ⟨⟨a2, rfl, h2⟩, _ | ⟨⟨a3, rfl, h3⟩, _ | _⟩⟩⟩⟩
  exact ⟨σ', ⟨x', rfl, hG, hw⟩, hf, a0, a1, a2, a3, b, rfl, h0, h1, h2, h3⟩
def callT (L : Nat) : List CV := [.tint .i64, .tint .i64, .tbool, .tint .i64, .tint .i64, .tint .i64, .tint .i64, .tint .u64, .tint .u64, .str, .tint .u64, .tint .u64, .tint .i64, .tbool, .tbool, .sl 168 L, .sl 139 L, .tint .i64, .tbool, .tint .u64, .str, .tint .i64, .tint .i64, .tint .i64, .tbool]
noncomputable def stC : Cfg := ⟨⟨tab, [], []⟩, tcOf [], [1000], fun _ => ⟨.done, [], false, []⟩⟩
noncomputable def stBody : Code := bodyC Tryz.f56
def stT (L : Nat) : St → Prop := fun S => wkV (S.env 5) (.one (.c (.loc 9 0))) ∧ wkB S.box [(1000, memB L), (9, exB L 0 0 0 0 0 0 0 0 0 False)] ∧ S.L = L
def stPost (L : Nat) : Post := ⟨stT L, fun _ _ => False, fun _ => False⟩
set_option maxRecDepth 100000 in
set_option maxHeartbeats 8000000 in
theorem st_vc (L : Nat) (h0 : 64 ≤ L) : opnA [.one (.c (.loc 1000 0)), .one (.agg (callT L))] fun avs => vc stC (Code.seq (fstC stBody) (fstC (sndC stBody))) ⟨env0 avs, assoc [(1000, memB L)], L⟩ (stPost L) := by
 repeat' (first | (with_reducible refine Pch.mk ?_; kernel_rfl) | (intro n hr h; replace h := h (by omega) (by omega); subst h) | (intro h; try (exfalso; first | contradiction | exact h True.intro)) | ((conv => whnf) <;> (first | (with_reducible refine WL.mk ?_) | with_reducible refine And.intro ?_ ?_ | with_reducible exact True.intro | exact Eq.refl _)))
 all_goals (first | assumption | contradiction | omega | ((conv => whnf); (try show (_ : Nat) ≤ _); (try dsimp only); omega))
theorem arr13 {A : Array Value} (h : A.size = 13) : ∃ t0 t1 t2 t3 t4 t5 t6 t7 t8 t9 t10 t11 t12, A = #[t0, t1, t2, t3, t4, t5, t6, t7, t8, t9, t10, t11, t12] := by
 obtain ⟨l⟩ := A
 match l, h with
 | [t0, t1, t2, t3, t4, t5, t6, t7, t8, t9, t10, t11, t12], _ => exact ⟨t0, t1, t2, t3, t4, t5, t6, t7, t8, t9, t10, t11, t12, rfl⟩
def StaPost (bm : Nat) (σ : Sg) (L : Nat) (w : World) (e : Ending) (w' : World) : Prop :=
 ∃ (be : Nat) (σ' : Sg) (L' : Nat), e = .returned (.pointer (some ⟨be, 0, none⟩)) ∧ w.heap.size ≤ be ∧ L ≤ L' ∧ L' ≤ L + 300000 ∧ EX bm be σ' L' 0 w' ∧ FM (fun b => b = bm) σ w σ' w'
set_option maxRecDepth 100000 in
set_option maxHeartbeats 8000000 in
theorem start_h {σ : Sg} {L bm : Nat} {w : World} (hc : Core σ L w) (hm : Bl σ nB w bm (memB L)) (h64 : 64 ≤ L) (hL : L ≤ 137438000000) (vs : Array Value) (hv : Cells tab σ nB (callT L) vs.toList) :
  Calls Tryz.prog 56 #[.pointer (some ⟨bm, 0, none⟩), .agg vs] w (StaPost bm σ L w) := by
 have hI : Inv tab σ (bts [(1000, bm, memB L)]) (assoc [(1000, memB L)]) L w := by
  refine hc.boxes (l := [(1000, bm, memB L)]) ?_ ?_
  ·intro x hx
   simp only [List.mem_cons, List.not_mem_nil, or_false] at hx
   subst hx
   exact hm.memo
  ·intro x hx y hy _
   simp only [List.mem_cons, List.not_mem_nil, or_false] at hx hy
   rw [hx, hy]
 have hargs : Argv tab σ (bts [(1000, bm, memB L)]) [.one (.c (.loc 1000 0)), .one (.agg (callT L))] [.pointer (some ⟨bm, 0, none⟩), .agg vs] :=
  .cons ⟨bm, rfl, rfl⟩ (.cons ⟨vs, rfl, hv.mono (Le.refl _) (fun _ _ h => by cases h)⟩ .nil)
 obtain ⟨ys, hvc, hys⟩ := opnA_ok hargs (st_vc L h64)
 have hdom : ∀ id b, bts [(1000, bm, memB L)] id = some b → id ∈ stC.base := fun id b hb => by
  obtain ⟨cs, _, h3⟩ := bts_bxs hb
  simp only [List.mem_cons, List.not_mem_nil, or_false, Prod.mk.injEq] at h3
  rw [h3.1]; decide
 refine calls_of_wp Tryz.func56 (c := stBody) rfl ?_
 have hg : Gam tab 13 (tcOf []) σ (bts [(1000, bm, memB L)]) w ⟨env0 ys, assoc [(1000, memB L)], L⟩ { tmps := #[.pointer (some ⟨bm, 0, none⟩), .agg vs] ++ Array.replicate (Tryz.f56.ntmps - 2) Go.undef, defers := [] } w := by
  refine ⟨σ, _, hI, Fr.refl _ _ _ _, rfl, rfl, fun i => ?_⟩
  have := argv_get hys i
  show (env0 ys i).ok tab σ _ _
  match i, this with
  | 0, h => exact h
  | 1, h => exact h
  | n + 2, h =>
   have e : (#[Value.pointer (some ⟨bm, 0, none⟩), .agg vs] ++ Array.replicate (Tryz.f56.ntmps - 2) Go.undef).getD (n + 2) Go.undef = Go.undef := by
    simp only [Array.getD_eq_getD_getElem?, Array.getElem?_append]
    rw [if_neg (by simp)]
    simp only [Array.getElem?_replicate]
    split <;> rfl
   rw [e]
   exact h
 have hvc1 : vc stC (fstC stBody) ⟨env0 ys, assoc [(1000, memB L)], L⟩ ⟨fun S => vc stC (fstC (sndC stBody)) S (stPost L), (stPost L).ex, (stPost L).ret⟩ := hvc
 show Code.wp Tryz.prog (Code.seq (fstC stBody) (sndC stBody)) _ _ _
 refine wp_seq (wp_mono (vc_ok (P := Tryz.prog) (C := stC) (N := 13) mixed_ok tab_ok eq_nil sat_nil hdom (fstC stBody) _ _ _ w (by kernel_rfl) hvc1 hg) ?_)
 intro e a1 w1 hq
 cases e with
 | ret => obtain ⟨S, h, _⟩ := hq; exact h.elim
 | exit id => obtain ⟨S, h, _⟩ := hq; exact h.elim
 | normal =>
  obtain ⟨S1, hv1, hg1⟩ := hq
  show Code.wp Tryz.prog (Code.seq (fstC (sndC stBody)) (sndC (sndC stBody))) _ _ _
  refine wp_seq (wp_mono (vc_ok (P := Tryz.prog) (C := stC) (N := 13) mixed_ok tab_ok eq_nil sat_nil hdom (fstC (sndC stBody)) _ _ _ w1 (by kernel_rfl) hv1 hg1) ?_)
  intro e a2 w2 hq
  cases e with
  | ret => obtain ⟨S, h, _⟩ := hq; exact h.elim
  | exit id => obtain ⟨S, h, _⟩ := hq; exact h.elim
  | normal =>
   obtain ⟨S2, ⟨q1, q2, q3⟩, σ2, β2, I2, F2, z2, d2, e2⟩ := hq
   have h5 := wkV_ok (ks := [1000, 9]) (e2 5) q1 rfl
   obtain ⟨be, b1, b2⟩ := h5
   have b1 := (keepB_some b1).2
   have I3 := I2.weak (ks := [1000, 9]) (l := [(1000, memB L), (9, exB L 0 0 0 0 0 0 0 0 0 False)]) rfl q2 rfl
   rw [q3] at I3
   have hb0 : β2 1000 = some bm := F2.sh 1000 bm rfl
   have k0 : keepB [1000, 9] β2 1000 = some bm := hb0
   have k9 : keepB [1000, 9] β2 9 = some be := b1
   have bl0 := (I3.bl k0 rfl).memb (Nat.le_refl _)
   have bl9 := I3.bl k9 rfl
   have hne : bm ≠ be := fun e => by
    have := I2.inj 1000 9 bm hb0 (by rw [e]; exact b1)
    omega
   have bl9' : Bl σ2 (bE bm be) w2 be (exB L 0 0 0 0 0 0 0 0 0 ((1 : Int) = 0)) := by
    rw [show ((1 : Int) = 0) = False by simp]
    have bl9a := bl9.weak (ks := [1000]) (WL.ex (L := L) (G := 0) (M := 0) (C := 0) (E := 0) (a := 0) (m := 0) (c := 0) (g := 0) (f := 0) (s := False) (Nat.le_refl L)).h rfl
    obtain ⟨vs2, T2, g1, g2, g3⟩ := bl9a.blk
    refine ⟨bl9a.no, vs2, T2, g1, g2.mono (Le.refl _) ?_, g3⟩
    intro id b hb
    obtain ⟨hm1, hb⟩ := keepB_some hb
    rcases List.mem_cons.1 ((memb_iff _ _).1 hm1) with e | e
    ·subst e
     rw [k0] at hb
     exact hb
    ·cases e
   have hbe : w.heap.size ≤ be := by
    rcases F2.own 9 be b1 with h | h
    ·cases h
    ·exact h
   have E2 : EW bm be σ2 ⟨L, 0, 0, 0, 0, 0, 0, 0, 0, 0, 1⟩ w2 := EW.mk2 (Core.of I3) bl0 bl9' hne (by constructor <;> dsimp only <;> omega) (by dsimp only; omega) (by dsimp only; omega)
   have FM2 : FM (fun _ => False) σ w σ2 w2 := by
    refine F2.fm.le ?_
    rintro b _ ⟨id, h1, h2⟩
    obtain ⟨cs, _, h3⟩ := bts_bxs h1
    simp only [List.mem_cons, List.not_mem_nil, or_false, Prod.mk.injEq] at h3
    rw [h3.1] at h2
    cases h2
   obtain ⟨tm, df⟩ := a2
   simp only at d2 z2 b2
   subst d2
   obtain ⟨t0, t1, t2, t3, t4, t5, t6, t7, t8, t9, t10, t11, t12, rfl⟩ := arr13 z2
   have b2 : t5 = .pointer (some ⟨be, 0, none⟩) := b2
   subst b2
   have HE2 := Lib.hid E2
   have HF2 := Lib.hid FM2
   have HBE := Lib.hid hbe
   clear E2 FM2 hbe I2 F2 e2 I3 k0 k9 bl0 bl9 bl9' q1 q2 q3 hb0 b1 hg1 hv1 hvc1 hg hdom hvc hys hargs hI z2
   simp only [stBody, Tryz.f56, bodyC, sndC]
   go_wp2_with fail
   refine (repeat_x HE2.out (by show (0 : Nat) ≤ 1000; omega) hL).mono ?_
   rintro e w' ⟨σ', L', rfl, l1, l2, hx, hf⟩
   go_wp2_with fail
   go_ret
   have F3 : FM (fun b => b = bm ∨ b = be) σ w σ' w' := (HF2.out.le (fun _ _ h => h.elim)).trans hf.fm
   have F4 : FM (fun b => b = bm) σ w σ' w' := ⟨F3.os, F3.tape, F3.output, F3.size, F3.sg, F3.new, fun b h1 h2 h3 => F3.old b h1 h2 fun h => by
    rcases h with h | h
    ·exact h3 h
    ·have := HBE.out; omega⟩
   exact ⟨be, σ', L', rfl, HBE.out, l1, l2, hx, F4⟩
  | _ => exact hq.elim
 | _ => exact hq.elim
structure OpOk (k h : Int) (s : ByteArray) (v e : Int) : Prop where
 k0 : InR .i64 k
 h0 : 0 ≤ h
 h1 : h ≤ 128
 s0 : s.size ≤ strMax
 v0 : InR .u64 v
 e0 : InR .u64 e
theorem OpOk.hr {k h : Int} {s : ByteArray} {v e : Int} (o : OpOk k h s v e) : InR .i64 h := ⟨by rw [i64_min]; have := o.h0; omega, by rw [i64_max]; have := o.h1; omega⟩
theorem Core.one {σ : Sg} {L : Nat} {w : World} (hc : Core σ L w) {id b : Nat} {cs : List CV} (hb : ∀ β, Bl σ β w b cs) : Inv tab σ (bts [(id, b, cs)]) (assoc (bxs [(id, b, cs)])) L w := by
 refine hc.boxes (l := [(id, b, cs)]) ?_ ?_
 ·intro x hx
  simp only [List.mem_cons, List.not_mem_nil, or_false] at hx
  subst hx
  exact hb _
 ·intro x hx y hy _
  simp only [List.mem_cons, List.not_mem_nil, or_false] at hx hy
  rw [hx, hy]
theorem error_x {σ : Sg} {L : Nat} {w : World} {t : TN} (hc : Core σ L w) (ht : TAt σ w t) (h64 : 64 ≤ L) (th ix : Int) (h1 : InR .i64 th) (h2 : InR .i64 ix) {k h : Int} {s : ByteArray} {v e : Int} (ho : OpOk k h s v e) :
  Calls Tryz.prog 54 #[.pointer (some ⟨t.bt, 0, none⟩), .int .i64 th, .int .i64 ix, .agg #[.int .i64 k, .int .i64 h, .string s, .int .u64 v, .int .u64 e]] w fun r w' => ∃ (n : Int) (σ' : Sg), r = .returned (.int .i64 n) ∧ InR .i64 n ∧ Core σ' L w' ∧ FM (fun _ => False) σ w σ' w' := by
 refine Calls.mono (Sat.use sat_Error (hc.one (id := 1002) (fun β => ht.bl)) (avs := [.one (.c (.loc 1002 0)), .one (.c (.tint .i64)), .one (.c (.tint .i64)), .one (.agg [.tint .i64, .tint .i64, .str, .tint .u64, .tint .u64])])
  (.cons ⟨_, rfl, rfl⟩ (.cons ⟨_, rfl, h1⟩ (.cons ⟨_, rfl, h2⟩ (.cons ⟨_, rfl, .cons ⟨_, rfl, ho.k0⟩ (.cons ⟨_, rfl, ho.hr⟩ (.cons ⟨_, rfl, ho.s0⟩ (.cons ⟨_, rfl, ho.v0⟩ (.cons ⟨_, rfl, ho.e0⟩ .nil))))⟩ .nil)))) rfl rfl rfl
  (K := fun r bx L' => r = .one (.c (.tint .i64)) ∧ L' = L) ?_) ?_
 ·(conv => whnf)
  refine ⟨?_, ?_, rfl, h64, ?_⟩
  ·repeat' (first | exact True.intro | exact Eq.refl _ | exact Iff.refl _ | ((conv => whnf) <;> (first | (with_reducible refine WL.mk ?_) | with_reducible refine And.intro ?_ ?_ | with_reducible refine Iff.intro ?_ ?_)))
  ·repeat' (first | exact True.intro | exact Eq.refl _ | exact Iff.refl _ | ((conv => whnf) <;> (first | (with_reducible refine WL.mk ?_) | with_reducible refine And.intro ?_ ?_ | with_reducible refine Iff.intro ?_ ?_)))
  ·exact ⟨rfl, rfl⟩
 ·rintro r w' ⟨v', r', bx', L', σ', rfl, ⟨rfl, rfl⟩, hI, hF, ⟨n, rfl, hn⟩⟩
  exact ⟨n, σ', rfl, hn, Core.of hI, hF.fm.le fun b _ ⟨id, g1, g2⟩ => by cases g2⟩
theorem call_x {σ : Sg} {L : Nat} {w : World} {t : TN} (hc : Core σ L w) (ht : TAt σ w t) (h64 : 64 ≤ L) {k h : Int} {s : ByteArray} {v e : Int} (ho : OpOk k h s v e) :
  Calls Tryz.prog 57 #[.pointer (some ⟨t.bt, 0, none⟩), .agg #[.int .i64 k, .int .i64 h, .string s, .int .u64 v, .int .u64 e]] w fun r w' => ∃ (vs : Array Value) (σ' : Sg), r = .returned (.agg vs) ∧ Cells tab σ' nB (callT L) vs.toList ∧ Core σ' L w' ∧ FM (fun _ => False) σ w σ' w' := by
 refine Calls.mono (Sat.use sat_call (hc.one (id := 1002) (fun β => ht.bl)) (avs := [.one (.c (.loc 1002 0)), .one (.agg [.tint .i64, .int .i64 h, .str, .tint .u64, .tint .u64])])
  (.cons ⟨_, rfl, rfl⟩ (.cons ⟨_, rfl, .cons ⟨_, rfl, ho.k0⟩ (.cons ⟨rfl, ho.hr⟩ (.cons ⟨_, rfl, ho.s0⟩ (.cons ⟨_, rfl, ho.v0⟩ (.cons ⟨_, rfl, ho.e0⟩ .nil))))⟩ .nil)) rfl rfl rfl
  (K := fun r bx L' => r = .one (.agg (callT L)) ∧ L' = L) ?_) ?_
 ·(conv => whnf)
  refine ⟨?_, ?_, rfl, ⟨ho.h0, ho.h1, h64⟩, ?_⟩
  ·repeat' (first | exact True.intro | exact Eq.refl _ | exact Iff.refl _ | ((conv => whnf) <;> (first | (with_reducible refine WL.mk ?_) | with_reducible refine And.intro ?_ ?_ | with_reducible refine Iff.intro ?_ ?_)))
  ·repeat' (first | exact True.intro | exact Eq.refl _ | exact Iff.refl _ | ((conv => whnf) <;> (first | (with_reducible refine WL.mk ?_) | with_reducible refine And.intro ?_ ?_ | with_reducible refine Iff.intro ?_ ?_)))
  ·exact ⟨rfl, rfl⟩
 ·rintro r w' ⟨v', r', bx', L', σ', rfl, ⟨rfl, rfl⟩, hI, hF, ⟨vs, rfl, hv⟩⟩
  refine ⟨vs, σ', rfl, ?_, Core.of hI, hF.fm.le fun b _ ⟨id, g1, g2⟩ => by cases g2⟩
  have := wkL_ok (ks := []) hv (ys := callT L') (by
   unfold callT
   repeat' (first | exact True.intro | exact Eq.refl _ | exact Iff.refl _ | ((conv => whnf) <;> (first | (with_reducible refine WL.mk ?_) | with_reducible refine And.intro ?_ ?_ | with_reducible refine Iff.intro ?_ ?_)))
   all_goals exact Nat.le_refl _) rfl
  rwa [keepB_nil] at this
def BegPost (t : TN) (σ : Sg) (L : Nat) (w : World) (e : Ending) (w' : World) : Prop :=
 ∃ (be : Nat) (σ' : Sg) (L' : Nat), e = .returned (.pointer (some ⟨be, 0, none⟩)) ∧ w.heap.size ≤ be ∧ L ≤ L' ∧ L' ≤ L + 300000 ∧ EX t.bm be σ' L' 0 w' ∧ TAt σ' w' t ∧ FM (fun b => b = t.bm ∨ b = t.bo) σ w σ' w'
structure BgS (σ : Sg) (L : Nat) (w : World) (t : TN) (ob : Nat) (k h : Int) (s : ByteArray) (v e : Int) (σ1 : Sg) (W : World) : Prop where
 core : Core σ1 L W
 tat : TAt σ1 W t
 mem : Bl σ1 nB W t.bm (memB L)
 fm : FM (fun b => b = t.bo) σ w σ1 W
 op : W.heap[ob]? = some (.cells #[.int .i64 k, .int .i64 h, .string s, .int .u64 v, .int .u64 e] 68 (0, 0))
 ono : σ1 ob = none
theorem OpsOk.put {cs : Array Value} (hc : OpsOk cs) {N : Nat} (hN : N < 129) {k h : Int} {s : ByteArray} {v e : Int} (ho : OpOk k h s v e) :
  OpsOk (((((cs.setIfInBounds (N * 5) (.int .i64 k)).setIfInBounds (N * 5 + 1) (.int .i64 h)).setIfInBounds (N * 5 + 2) (.string s)).setIfInBounds (N * 5 + 3) (.int .u64 v)).setIfInBounds (N * 5 + 4) (.int .u64 e)) := by
 obtain ⟨hz, h1⟩ := hc
 refine ⟨by simpa using hz, fun n hn => ?_⟩
 by_cases e' : n = N
 ·subst e'
  have q0 : n * 5 < 645 := by omega
  have q1 : n * 5 + 1 < 645 := by omega
  have q2 : n * 5 + 2 < 645 := by omega
  have q3 : n * 5 + 3 < 645 := by omega
  have q4 : n * 5 + 4 < 645 := by omega
  refine ⟨k, h, s, v, e, ?_, ?_, ?_, ?_, ?_, ho.k0, ho.h0, ho.h1, ho.s0, ho.v0, ho.e0⟩
  all_goals simp [Array.getElem?_setIfInBounds, hz, q0, q1, q2, q3, q4]
 ·obtain ⟨k', h', s', v', e2, g0, g1, g2, g3, g4, g5⟩ := h1 n hn
  refine ⟨k', h', s', v', e2, ?_, ?_, ?_, ?_, ?_, g5⟩
  all_goals (simp only [Array.getElem?_setIfInBounds]; repeat rw [if_neg (by omega)])
  all_goals assumption
section
variable {σ σ1 : Sg} {L : Nat} {w W : World} {t : TN} {ob : Nat} {k h : Int} {s : ByteArray} {v e : Int}
theorem BgS.drew (S : BgS σ L w t ob k h s v e σ1 W) : BgS σ L w t ob k h s v e σ1 W.drew :=
 ⟨S.core.drew, S.tat.keep (FM.drew (fun _ => False) σ1 W) (fun h => h) (fun h => h), S.mem.on rfl, S.fm.trans (FM.drew _ _ _), S.op, S.ono⟩
theorem BgS.set7 (S : BgS σ L w t ob k h s v e σ1 W) (h7 : σ t.b7 = some ([.bool], 129)) (hlt : t.b7 < ob) (N : Nat) : BgS σ L w t ob k h s v e σ1 (W.setCell ⟨t.b7, N, none⟩ (.bool true)) := by
 have h8 := S.tat.s7
 have F : FM (fun _ => False) σ1 W σ1 (W.setCell ⟨t.b7, N, none⟩ (.bool true)) := FM.set _ (.inl (by rw [h8]; simp))
 refine ⟨S.core.set h8 (ct := .bool) (by rw [show N % [CT.bool].length = 0 by simp [Nat.mod_one]]; rfl) ⟨true, rfl⟩, S.tat.keep F (fun h => h) (fun h => h), F.bl S.mem (fun h => h), S.fm.setNew (.inr (.inl (by rw [h7]; simp))) _, set_other S.op (by omega), S.ono⟩
theorem BgS.set5 (S : BgS σ L w t ob k h s v e σ1 W) (ho : OpOk k h s v e) (hlt : t.bo < ob) {N : Nat} (hN : N < 129) :
  BgS σ L w t ob k h s v e σ1 (((((W.setCell ⟨t.bo, N * 5, none⟩ (.int .i64 k)).setCell ⟨t.bo, N * 5 + 1, none⟩ (.int .i64 h)).setCell ⟨t.bo, N * 5 + 2, none⟩ (.string s)).setCell ⟨t.bo, N * 5 + 3, none⟩ (.int .u64 v)).setCell ⟨t.bo, N * 5 + 4, none⟩ (.int .u64 e)) := by
 obtain ⟨cs, T, h1, h2⟩ := S.tat.ops
 have on := S.tat.on
 have keep : ∀ g (o : Option Obj), W.heap[g]? = o → g ≠ t.bo → (((((W.setCell ⟨t.bo, N * 5, none⟩ (.int .i64 k)).setCell ⟨t.bo, N * 5 + 1, none⟩ (.int .i64 h)).setCell ⟨t.bo, N * 5 + 2, none⟩ (.string s)).setCell ⟨t.bo, N * 5 + 3, none⟩ (.int .u64 v)).setCell ⟨t.bo, N * 5 + 4, none⟩ (.int .u64 e)).heap[g]? = o :=
  fun g o hg hn => set_other (set_other (set_other (set_other (set_other hg hn) hn) hn) hn) hn
 refine ⟨((((S.core.setOut on _).setOut on _).setOut on _).setOut on _).setOut on _, ⟨S.tat.no, keep _ _ S.tat.tab (fun e => S.tat.ot e.symm), S.tat.msk, S.tat.s2, S.tat.s3, S.tat.s4, S.tat.s5, S.tat.s6, S.tat.s7, S.tat.s8, on, ⟨_, T, blk_setW (blk_setW (blk_setW (blk_setW (blk_setW h1 _) _) _) _) _, h2.put hN ho⟩, S.tat.nm, S.tat.om, S.tat.ot⟩,
  S.mem.on (keep _ _ rfl (fun e => S.tat.om e.symm)), ((((S.fm.setNew (.inr (.inr rfl)) _).setNew (.inr (.inr rfl)) _).setNew (.inr (.inr rfl)) _).setNew (.inr (.inr rfl)) _).setNew (.inr (.inr rfl)) _, keep _ _ S.op (by omega), S.ono⟩
theorem BgS.cells (S : BgS σ L w t ob k h s v e σ1 W) {N : Nat} (hN : N < 129) : W.cell? ⟨t.bt, 0, none⟩ = some (.pointer (some ⟨t.bm, 0, none⟩)) ∧ W.cell? ⟨t.bt, 7, none⟩ = some (.slice (some ⟨t.b7, 0, none⟩) 129 129) ∧ W.cell? ⟨t.bt, 9, none⟩ = some (.slice (some ⟨t.bo, 0, none⟩) 129 129) ∧
  (∃ q, W.cell? ⟨t.b7, N, none⟩ = some (.bool q)) ∧ W.frozen? ⟨t.b7, N, none⟩ = false ∧ (∃ k h s v e, W.cell? ⟨t.bo, N * 5, none⟩ = some (.int .i64 k) ∧ W.cell? ⟨t.bo, N * 5 + 1, none⟩ = some (.int .i64 h) ∧ W.cell? ⟨t.bo, N * 5 + 2, none⟩ = some (.string s) ∧ W.cell? ⟨t.bo, N * 5 + 3, none⟩ = some (.int .u64 v) ∧ W.cell? ⟨t.bo, N * 5 + 4, none⟩ = some (.int .u64 e)) ∧ (∀ j, W.frozen? ⟨t.bo, j, none⟩ = false) ∧
  W.cell? ⟨ob, 0, none⟩ = some (.int .i64 k) ∧ W.cell? ⟨ob, 1, none⟩ = some (.int .i64 h) ∧ W.cell? ⟨ob, 2, none⟩ = some (.string s) ∧ W.cell? ⟨ob, 3, none⟩ = some (.int .u64 v) ∧ W.cell? ⟨ob, 4, none⟩ = some (.int .u64 e) := by
 obtain ⟨v7, ct7, cs7, T7, e7, z7, f7, g7, k7⟩ := S.core.cell S.tat.s7 (i := N) (by simpa using hN)
 have d7 : N % [CT.bool].length = 0 := by simp [Nat.mod_one]
 rw [d7] at g7
 simp only [List.getElem?_cons_zero, Option.some.injEq] at g7
 subst g7
 obtain ⟨q7, rfl⟩ := k7
 obtain ⟨cs, T, h1, _, h2⟩ := S.tat.ops
 obtain ⟨k', h', s', v', e', p0, p1, p2, p3, p4, _⟩ := h2 N hN
 exact ⟨blk_cell S.tat.tab 0, blk_cell S.tat.tab 7, blk_cell S.tat.tab 9, ⟨q7, (blk_cell e7 N).trans f7⟩, blk_frozen e7 N, ⟨k', h', s', v', e', (blk_cell h1 _).trans p0, (blk_cell h1 _).trans p1, (blk_cell h1 _).trans p2, (blk_cell h1 _).trans p3, (blk_cell h1 _).trans p4⟩, fun j => blk_frozen h1 j,
  blk_cell S.op 0, blk_cell S.op 1, blk_cell S.op 2, blk_cell S.op 3, blk_cell S.op 4⟩
end
def bgW (w : World) (t : TN) (N : Nat) (k h : Int) (s : ByteArray) (v e : Int) : World :=
 ((((((w.setCell ⟨t.b7, N, none⟩ (.bool true)).setCell ⟨t.bo, N * 5, none⟩ (.int .i64 k)).setCell ⟨t.bo, N * 5 + 1, none⟩ (.int .i64 h)).setCell ⟨t.bo, N * 5 + 2, none⟩ (.string s)).setCell ⟨t.bo, N * 5 + 3, none⟩ (.int .u64 v)).setCell ⟨t.bo, N * 5 + 4, none⟩ (.int .u64 e)).drew
theorem BgS.fin {σ σ1 : Sg} {L : Nat} {w W w' : World} {t : TN} {ob : Nat} {k h : Int} {s : ByteArray} {v e : Int} {r : Ending} (S : BgS σ L w t ob k h s v e σ1 W) (h : StaPost t.bm σ1 L W r w') : BegPost t σ L w r w' := by
 obtain ⟨be, σ', L', rfl, h1, h2, h3, h4, h5⟩ := h
 exact ⟨be, σ', L', rfl, Nat.le_trans S.fm.size h1, h2, h3, h4, S.tat.keep h5 S.tat.nm S.tat.om, (S.fm.le fun _ _ h => .inr h).trans (h5.le fun _ _ h => .inl h)⟩
theorem BgS.next {σ σ1 σ2 : Sg} {L : Nat} {w W W' : World} {t : TN} {ob : Nat} {k h : Int} {s : ByteArray} {v e : Int} (S : BgS σ L w t ob k h s v e σ1 W) (hc : Core σ2 L W') (hf : FM (fun _ => False) σ1 W σ2 W') : BgS σ L w t ob k h s v e σ2 W' :=
 ⟨hc, S.tat.keep hf (fun h => h) (fun h => h), hf.bl S.mem (fun h => h), S.fm.trans (hf.le fun _ _ h => h.elim), (hf.old _ (Array.getElem?_eq_some_iff.1 S.op).1 S.ono (fun h => h)).trans S.op, hf.non (Array.getElem?_eq_some_iff.1 S.op).1 S.ono⟩
theorem noth_ok {σ : Sg} {L : Nat} (n : Int) (hn : InR .i64 n) : Cells tab σ nB (callT L) [.int .i64 15, .int .i64 0, .bool false, .int .i64 0, .int .i64 0, .int .i64 0, .int .i64 0, .int .u64 0, .int .u64 0, .string ⟨#[]⟩, .int .u64 0, .int .u64 0, .int .i64 0, .bool false, .bool false, .slice none 0 0, .slice none 0 0, .int .i64 n, .bool false, .int .u64 0, .string ⟨#[]⟩, .int .i64 0, .int .i64 0, .int .i64 0, .bool false] := by
 have z64 : InR .i64 0 := ⟨by rw [i64_min]; omega, by rw [i64_max]; omega⟩
 have zf : InR .i64 15 := ⟨by rw [i64_min]; omega, by rw [i64_max]; omega⟩
 have zu : InR .u64 0 := ⟨by rw [u64_min]; omega, by rw [u64_max]; omega⟩
 have t0 : CV.ok tab σ nB (.tint .i64) (.int .i64 0) := ⟨0, rfl, z64⟩
 have tu : CV.ok tab σ nB (.tint .u64) (.int .u64 0) := ⟨0, rfl, zu⟩
 have tb : CV.ok tab σ nB .tbool (.bool false) := ⟨false, rfl⟩
 have ts : CV.ok tab σ nB .str (.string ⟨#[]⟩) := ⟨_, rfl, by decide⟩
 have sl : ∀ E, CV.ok tab σ nB (.sl E L) (.slice none 0 0) := fun E => ⟨_, _, _, rfl, Nat.zero_le _, Nat.le_refl _, by decide, fun _ => rfl, fun a ha => by cases ha⟩
 exact .cons ⟨15, rfl, zf⟩ (.cons t0 (.cons tb (.cons t0 (.cons t0 (.cons t0 (.cons t0 (.cons tu (.cons tu (.cons ts (.cons tu (.cons tu (.cons t0 (.cons tb (.cons tb (.cons (sl _) (.cons (sl _) (.cons ⟨n, rfl, hn⟩ (.cons tb (.cons tu (.cons ts (.cons t0 (.cons t0 (.cons t0 (.cons tb .nil))))))))))))))))))))))))
set_option maxRecDepth 100000 in
set_option maxHeartbeats 8000000 in
theorem begin_h {σ : Sg} {L : Nat} {w : World} {t : TN} (hc : Core σ L w) (ht : TAt σ w t) (hm : Bl σ nB w t.bm (memB L)) (h64 : 64 ≤ L) (hL : L ≤ 137438000000) (th ix : Int) (t0 : 0 ≤ th) (t1 : th < 8) (i0 : 0 ≤ ix) (i1 : ix < 16)
  {k h : Int} {s : ByteArray} {v e : Int} (ho : OpOk k h s v e) :
  Calls Tryz.prog 42 #[.pointer (some ⟨t.bt, 0, none⟩), .int .i64 th, .int .i64 ix, .agg #[.int .i64 k, .int .i64 h, .string s, .int .u64 v, .int .u64 e]] w (BegPost t σ L w) := by
 obtain ⟨N, hN⟩ : ∃ N : Nat, 1 + th * 16 + ix = N := Int.eq_ofNat_of_zero_le (by omega)
 have hN1 : N < 129 := by omega
 have iT : InR .i64 th := ⟨by rw [i64_min]; omega, by rw [i64_max]; omega⟩
 have iX : InR .i64 ix := ⟨by rw [i64_min]; omega, by rw [i64_max]; omega⟩
 obtain ⟨W0, hW0⟩ : ∃ W0, W0 = w.alloc (.cells #[.int .i64 k, .int .i64 h, .string s, .int .u64 v, .int .u64 e] 68) := ⟨_, rfl⟩
 have F0 : FM (fun _ => False) σ w σ W0 := by rw [hW0]; exact FM.alloc _ _ _ _
 have C0 : Core σ L W0 := by rw [hW0]; exact hc.alloc _
 have A0 := ht.keep F0 (fun h => h) (fun h => h)
 have M0 := F0.bl hm (fun h => h)
 have B0 : W0.heap[w.heap.size]? = some (.cells #[.int .i64 k, .int .i64 h, .string s, .int .u64 v, .int .u64 e] 68 (0, 0)) := by rw [hW0]; exact (heap_alloc w _).1
 have ER : Hid (Calls Tryz.prog 54 #[.pointer (some ⟨t.bt, 0, none⟩), .int .i64 th, .int .i64 ix, .agg #[.int .i64 k, .int .i64 h, .string s, .int .u64 v, .int .u64 e]] W0 fun r w' => ∃ (n : Int) (σ' : Sg), r = .returned (.int .i64 n) ∧ InR .i64 n ∧ Core σ' L w' ∧ FM (fun _ => False) σ W0 σ' w') := error_x C0 A0 h64 th ix iT iX ho
 have x0 := blk_cell B0 0
 have x1 := blk_cell B0 1
 have x2 := blk_cell B0 2
 have x3 := blk_cell B0 3
 have x4 := blk_cell B0 4
 simp only [List.getElem?_toArray, List.getElem?_cons_zero, List.getElem?_cons_succ] at x0 x1 x2 x3 x4
 have HN := Lib.hid hN
 have HC := Lib.hid hc
 have HT := Lib.hid ht
 have HO := Lib.hid ho
 have HF0 := Lib.hid F0
 have HA0 := Lib.hid A0
 have HM0 := Lib.hid M0
 have HB0 := Lib.hid B0
 clear hN hc ht hm ho F0 C0 A0 M0 B0
 go_enter Tryz.func42, Tryz.ntmps42
 go_upto_region 1 with fail
 rw [← hW0]
 clear hW0
 go_upto_region 2 with (go_at_call 54; refine ER.out.mono ?_; rintro r w1 ⟨n, σ1, rfl, hn, hc1, hf1⟩)
 have S1 : Hid (BgS σ L w t w.heap.size k h s v e σ1 w1) := ⟨hc1, HA0.out.keep hf1 (fun h => h) (fun h => h), hf1.bl HM0.out (fun h => h), (HF0.out.trans hf1).le (fun _ _ h => h.elim), (hf1.old _ (Array.getElem?_eq_some_iff.1 HB0.out).1 (HC.out.none3 (Nat.le_refl _)) (fun h => h)).trans HB0.out, hf1.non (Array.getElem?_eq_some_iff.1 HB0.out).1 (HC.out.none3 (Nat.le_refl _))⟩
 clear x0 x1 x2 x3 x4 hc1 hf1 ER
 obtain ⟨y0, y7, y9, ⟨q7, u7⟩, l7, ⟨ok, oh, os, ov, oe, u0, u1, u2, u3, u4⟩, lo, x0, x1, x2, x3, x4⟩ := S1.out.cells hN1
 have g0 := lo (N * 5)
 have g1 := lo (N * 5 + 1)
 have g2 := lo (N * 5 + 2)
 have g3 := lo (N * 5 + 3)
 have g4 := lo (N * 5 + 4)
 have n78 : t.bo ≠ t.b7 := fun e => by have := HT.out.on; rw [e, HT.out.s7] at this; cases this
 have n79 : t.b7 ≠ t.bo := fun e => n78 e.symm
 have l7' := HC.out.lt _ _ HT.out.s7
 have lo' := HT.out.olt
 have n1 : w.heap.size ≠ t.b7 := by omega
 have n2 : w.heap.size ≠ t.bo := by omega
 have n3 : t.bt ≠ t.b7 := fun e => by have := HT.out.no; rw [e, HT.out.s7] at this; cases this
 have n4 : t.bt ≠ t.bo := fun e => HT.out.ot e.symm
 have m1 := n1.symm
 have m2 := n2.symm
 have m3 := n3.symm
 have m4 := n4.symm
 have HL := Lib.hid lo
 clear lo
 have HRN := Lib.hid hn
 clear hn
 by_cases hn0 : n = 0
 case pos =>
  subst hn0
  go_upto_region 8 with (go_at_call 55; refine (number_any th ix t0 t1 i0 i1 N HN.out _).mono ?_; rintro e w' ⟨rfl, rfl⟩)
  go_region
  have SX := Lib.hid (((S1.out.set7 HT.out.s7 l7' N).set5 HO.out lo' hN1).drew)
  change Exit.then _ _ _ _ (bgW w1 t N k h s v e)
  have SX : Hid (BgS σ L w t w.heap.size k h s v e σ1 (bgW w1 t N k h s v e)) := SX
  clear x0 x1 x2 x3 x4 u0 u1 u2 u3 u4 y0 y7 y9 u7 l7 g0 g1 g2 g3 g4 HL
  generalize bgW w1 t N k h s v e = W2 at *
  obtain ⟨y0, y7, y9, _, l7, _, lo, x0, x1, x2, x3, x4⟩ := SX.out.cells hN1
  clear y7 y9 l7 lo
  go_upto_region 9 with fail
  have SD := Lib.hid SX.out.drew
  go_region_with (first | ((have hx := SD); clear hx; go_at_call 57; refine (call_x SD.out.core SD.out.tat h64 HO.out).mono ?_; rintro r w3 ⟨vs, σ3, rfl, hv3, hc3, hf3⟩; (have S3 := Lib.hid (SD.out.next hc3 hf3)); (have HV3 := Lib.hid hv3); (have y03 := (S3.out.cells hN1).1); clear hv3 hc3 hf3) | ((have hx := S3); clear hx; go_at_call 56; refine (start_h S3.out.core S3.out.mem h64 hL vs HV3.out).mono ?_; rintro r w' hr; (have hr2 := S3.out.fin hr); clear hr; obtain ⟨be, σ', L', rfl, hr⟩ := hr2))
  all_goals
   go_wp2_with fail
   go_ret
   exact ⟨be, σ', L', rfl, hr⟩
 case neg =>
  by_cases hn8 : n = 8
  case pos =>
   subst hn8
   go_upto_region 6 with (go_at_call 55; refine (number_any th ix t0 t1 i0 i1 N HN.out _).mono ?_; rintro e w' ⟨rfl, rfl⟩)
   have SX := S1
   go_wp2_with (go_at_call 56; refine (start_h SX.out.core SX.out.mem h64 hL _ (noth_ok 8 HRN.out)).mono ?_; rintro r w' hr; (have hr2 := SX.out.fin hr); clear hr; obtain ⟨be, σ', L', rfl, hr⟩ := hr2)
   go_ret
   exact ⟨be, σ', L', rfl, hr⟩
  case neg =>
   go_upto_region 5 with (go_at_call 55; refine (number_any th ix t0 t1 i0 i1 N HN.out _).mono ?_; rintro e w' ⟨rfl, rfl⟩)
   go_region
   have SX := Lib.hid (((S1.out.set7 HT.out.s7 l7' N).set5 HO.out lo' hN1).drew)
   change Exit.then _ _ _ _ (bgW w1 t N k h s v e)
   have SX : Hid (BgS σ L w t w.heap.size k h s v e σ1 (bgW w1 t N k h s v e)) := SX
   clear x0 x1 x2 x3 x4 u0 u1 u2 u3 u4 y0 y7 y9 u7 l7 g0 g1 g2 g3 g4 HL
   generalize bgW w1 t N k h s v e = W2 at *
   obtain ⟨y0, y7, y9, _, l7, _, lo, x0, x1, x2, x3, x4⟩ := SX.out.cells hN1
   clear y7 y9 l7 lo
   go_wp2_with (go_at_call 56; refine (start_h SX.out.core SX.out.mem h64 hL _ (noth_ok n HRN.out)).mono ?_; rintro r w' hr; (have hr2 := SX.out.fin hr); clear hr; obtain ⟨be, σ', L', rfl, hr⟩ := hr2)
   go_ret
   exact ⟨be, σ', L', rfl, hr⟩
end Tv
end Go.Proofs.YtpabdmcbahmjnaaGreat
