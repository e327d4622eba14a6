/- Part of a proof: V1 V2 V3. -/
import Derived.Test.YtpabdmcbahmjnaaGreatMU9
import Derived.Below
import Derived.WalkKit
import Derived.WalkLawsBesides
import Derived.WalkSpells
import Derived.Outline
import Derived.Lib.Hide
import Derived.MapKept
import Derived.OwnWalk
import Derived.Laws.AppendOwnNone
import Derived.Deep.CutBlock
import Derived.Deep.DeepCutAuto
import Derived.Deep.AppendSrc
namespace Go.Proofs.YtpabdmcbahmjnaaGreat
namespace Tv
open Go Go.RowKit
set_option linter.unusedSimpArgs false
set_option linter.unusedVariables false
theorem Sat.use {P : Program} {t : Tab} {f : FuncId} {s : Spec} (hS : Sat P t f s) {σ : Sg} {β : Bt} {bx : Bx} {L : Nat} {w : World} (hI : Inv t σ β bx L w) {avs : List AV} {args : Array Value} {K : AV → Bx → Nat → Prop}
  (hargs : Argv t σ β avs args.toList) (hin : asIn s.reads avs = true) (hheld : heldIn bx s.reads = true) (hbox : boxesIn s.reads bx s.reads = true) (h : s.wp avs (keepIds s.reads bx) L K) :
  Calls P f args w fun e w' => ∃ v r bx' L' σ', e = .returned v ∧ K r bx' L' ∧ Inv t σ' β (overIds s.reads bx' bx) L' w' ∧ Fr (fun id => memb id s.tc) σ β w σ' β w' ∧ AV.ok t σ' β r v := by
 have hk : Inv t σ (keepB s.reads β) (keepIds s.reads bx) L w := hI.keep fun i hi cs hcs => boxesIn_ok hbox i ((memb_iff _ _).1 hi) cs hcs
 refine Calls.mono (hS.2 _ _ _ _ h σ (keepB s.reads β) w _ hk (fun id b hb => (keepB_some hb).1) (fun id hid => by
  obtain ⟨b, hb⟩ := heldIn_ok hI hheld id hid
  refine ⟨b, ?_⟩
  unfold keepB
  rw [hid]
  exact hb) (asIn_ok hargs hin)) ?_
 rintro e w' ⟨v, rfl, r, bx', L', σ', k1, k2, k3, k4⟩
 obtain ⟨g1, g2⟩ := hI.over (S := ⟨fun _ => .one (.c .any), bx, L⟩) (tc := fun id => memb id s.tc) k2 k3 (fun id h => h)
 exact ⟨v, r, bx', L', σ', rfl, k1, g1, g2, AV.ok_mono k4 (Le.refl _) (keepB_le _)⟩
structure XS where
 L : Nat
 G : Nat
 M : Nat
 C : Nat
 E : Nat
 a : Int
 m : Int
 c : Int
 g : Int
 f : Int
 z : Int
def XS.mu (x : XS) : Int := Tv.mu x.G x.a x.f + x.z
def bE (bm be : Nat) : Bt := fun i => match Nat.beq i 1000 with
 | true => some bm
 | false => match Nat.beq i 1001 with
  | true => some be
  | false => none
def xE (x : XS) : Bx := assoc [(1000, memB x.L), (1001, exB x.L x.G x.M x.C x.E x.a x.m x.c x.g x.f (x.z = 0))]
structure EW (bm be : Nat) (σ : Sg) (x : XS) (w : World) : Prop where
 inv : Inv tab σ (bE bm be) (xE x) x.L w
 xi : XI x.L x.G x.M x.C x.E x.a x.m x.c x.g x.f
 z0 : 0 ≤ x.z
 z1 : x.z ≤ 1
def Lo (bm be : Nat) (σ : Sg) (w : World) (b : Nat) : Prop := b < w.heap.size ∧ σ b = none ∧ b ≠ bm ∧ b ≠ be
structure HF (bm be : Nat) (σ : Sg) (w : World) (σ' : Sg) (w' : World) : Prop where
 os : w'.os = w.os
 tape : w'.tape = w.tape
 output : w'.output = w.output
 size : w.heap.size ≤ w'.heap.size
 sg : Le σ σ'
 keep : ∀ b, Lo bm be σ w b → Lo bm be σ' w' b ∧ w'.heap[b]? = w.heap[b]?
 new : ∀ b x, σ' b = some x → σ b = some x ∨ w.heap.size ≤ b
theorem bE_some {bm be i b : Nat} (h : bE bm be i = some b) : (i = 1000 ∧ b = bm) ∨ (i = 1001 ∧ b = be) := by
 unfold bE at h
 split at h
 ·rename_i e; exact .inl ⟨Nat.eq_of_beq_eq_true e, by injection h with h; exact h.symm⟩
 ·split at h
  ·rename_i e; exact .inr ⟨Nat.eq_of_beq_eq_true e, by injection h with h; exact h.symm⟩
  ·cases h
theorem HF.of {bm be : Nat} {tc : Nat → Bool} {σ σ' : Sg} {w w' : World} (h : Fr tc σ (bE bm be) w σ' (bE bm be) w') : HF bm be σ w σ' w' := by
 refine ⟨h.os, h.tape, h.output, h.size, h.sg, ?_, h.new⟩
 rintro b ⟨h1, h2, h3, h4⟩
 refine ⟨⟨by have := h.size; omega, ?_, h3, h4⟩, h.old b h1 h2 fun id hid => ?_⟩
 ·cases hs : σ' b with
  | none => rfl
  | some x =>
   rcases h.new b x hs with h5 | h5
   ·rw [h2] at h5; cases h5
   ·omega
 ·rcases bE_some hid with ⟨_, e⟩ | ⟨_, e⟩
  ·exact h3 e
  ·exact h4 e
theorem HF.trans {bm be : Nat} {σ σ' σ'' : Sg} {w w' w'' : World} (h : HF bm be σ w σ' w') (h' : HF bm be σ' w' σ'' w'') : HF bm be σ w σ'' w'' := by
 refine ⟨h'.os.trans h.os, h'.tape.trans h.tape, h'.output.trans h.output, Nat.le_trans h.size h'.size, fun b x hb => h'.sg _ _ (h.sg _ _ hb), ?_, ?_⟩
 ·intro b hb
  obtain ⟨h1, h2⟩ := h.keep b hb
  obtain ⟨h3, h4⟩ := h'.keep b h1
  exact ⟨h3, h4.trans h2⟩
 ·intro b x hb
  rcases h'.new b x hb with h1 | h1
  ·exact h.new b x h1
  ·right; have := h.size; omega
theorem EW.lo {bm be : Nat} {σ : Sg} {x : XS} {w : World} (h : EW bm be σ x w) : bm < w.heap.size ∧ be < w.heap.size :=
 ⟨h.inv.boxLt (id := 1000) rfl, h.inv.boxLt (id := 1001) rfl⟩
theorem EW.alloc {bm be : Nat} {σ : Sg} {x : XS} {w : World} (h : EW bm be σ x w) (o : Obj) : EW bm be σ x (w.alloc o) ∧ Lo bm be σ (w.alloc o) w.heap.size ∧ HF bm be σ w σ (w.alloc o) := by
 have hs : ∀ b, b < w.heap.size → (w.alloc o).heap[b]? = w.heap[b]? := fun b hb => Below.heap_alloc w o b hb
 have hz : (w.alloc o).heap.size = w.heap.size + 1 := by simp
 have hn : σ w.heap.size = none := h.inv.newNone
 obtain ⟨h1, h2⟩ := h.lo
 refine ⟨⟨h.inv.same (by omega) hs, h.xi, h.z0, h.z1⟩, ⟨by omega, hn, by omega, by omega⟩, rfl, rfl, rfl, by omega, Le.refl _, ?_, fun b x hb => .inl hb⟩
 rintro b ⟨g1, g2, g3, g4⟩
 exact ⟨⟨by omega, g2, g3, g4⟩, hs b g1⟩
theorem over_xE (x x' : XS) : overIds [1000, 1001] (xE x') (xE x) = xE x' := by
 funext i
 unfold overIds
 by_cases h0 : i = 1000
 ·subst h0; rfl
 by_cases h1 : i = 1001
 ·subst h1; rfl
 have hb : ∀ j, i ≠ j → Nat.beq i j = false := fun j hj => by
  cases hb : Nat.beq i j with
  | false => rfl
  | true => exact absurd (Nat.eq_of_beq_eq_true hb) hj
 have e : ∀ y : XS, xE y i = none := fun y => by
  unfold xE
  simp only [assoc, hb _ h0, hb _ h1]
 simp only [memb, hb _ h0, hb _ h1, e]
theorem EW.call {bm be : Nat} {σ : Sg} {x : XS} {w : World} {f : FuncId} {s : Spec} (hS : Sat Tryz.prog tab f s) (hr : s.reads = [1000, 1001]) (h : EW bm be σ x w) {avs : List AV} {args : Array Value}
  (hargs : Argv tab σ (bE bm be) avs args.toList) (hin : asIn [1000, 1001] avs = true) {R : AV → XS → Prop}
  (hw : s.wp avs (keepIds [1000, 1001] (xE x)) x.L fun r bx L => ∃ x' : XS, bx = xE x' ∧ L = x'.L ∧ XI x'.L x'.G x'.M x'.C x'.E x'.a x'.m x'.c x'.g x'.f ∧ 0 ≤ x'.z ∧ x'.z ≤ 1 ∧ R r x') :
  Calls Tryz.prog f args w fun e w' => ∃ v r σ' x', e = .returned v ∧ R r x' ∧ AV.ok tab σ' (bE bm be) r v ∧ EW bm be σ' x' w' ∧ HF bm be σ w σ' w' := by
 refine Calls.mono (Sat.use hS h.inv hargs (by rw [hr]; exact hin) (by rw [hr]; rfl) (by rw [hr]; rfl) (by rw [hr]; exact hw)) ?_
 rintro e w' ⟨v, r, bx', L', σ', rfl, ⟨x', rfl, rfl, k1, k2, k3, k4⟩, k5, k6, k7⟩
 rw [hr, over_xE] at k5
 exact ⟨v, r, σ', x', rfl, k4, k7, ⟨k5, k1, k2, k3⟩, HF.of k6⟩
theorem EW.pure {bm be : Nat} {σ : Sg} {x : XS} {w : World} {f : FuncId} {s : Spec} (hS : Sat Tryz.prog tab f s) (hr : s.reads = []) (h : EW bm be σ x w) {avs : List AV} {args : Array Value}
  (hargs : Argv tab σ (bE bm be) avs args.toList) (hin : asIn [] avs = true) {R : AV → Prop}
  (hw : s.wp avs (keepIds [] (xE x)) x.L fun r bx L => L = x.L ∧ R r) :
  Calls Tryz.prog f args w fun e w' => ∃ v r σ', e = .returned v ∧ R r ∧ AV.ok tab σ' (bE bm be) r v ∧ EW bm be σ' x w' ∧ HF bm be σ w σ' w' := by
 refine Calls.mono (Sat.use hS h.inv hargs (by rw [hr]; exact hin) (by rw [hr]; rfl) (by rw [hr]; rfl) (by rw [hr]; exact hw)) ?_
 rintro e w' ⟨v, r, bx', L', σ', rfl, ⟨rfl, k4⟩, k5, k6, k7⟩
 rw [hr] at k5
 have e0 : overIds [] bx' (xE x) = xE x := by funext i; rfl
 rw [e0] at k5
 exact ⟨v, r, σ', rfl, k4, k7, ⟨k5, h.xi, h.z0, h.z1⟩, HF.of k6⟩
structure Up (x x' : XS) (c : Nat) : Prop where
 le : x.L ≤ x'.L
 up : x'.L ≤ x.L + c
 mu : x'.mu ≤ x.mu - x.z
 gf : (x'.G : Int) + x'.f ≤ x.G + x.f
def AccPost (bm be : Nat) (σ : Sg) (x : XS) (c : Nat) (w : World) (e : Ending) (w' : World) : Prop :=
 ∃ (v : Int) (σ' : Sg) (x' : XS), e = .returned (.int .i64 v) ∧ InR .i64 v ∧ EW bm be σ' x' w' ∧ HF bm be σ w σ' w' ∧ Up x x' c
theorem read_h {bm be : Nat} {σ : Sg} {x : XS} {w : World} (h : EW bm be σ x w) (hL : x.L + 20 ≤ 137438950000) (r i : Int) (ro : Bool) (hr : InR .i64 r) (hi : InR .i64 i) :
  Calls Tryz.prog 66 #[.pointer (some ⟨be, 0, none⟩), .agg #[.int .i64 r, .bool ro], .int .i64 i] w (AccPost bm be σ x 20 w) := by
 refine Calls.mono (EW.call sat_read rfl h (avs := [.one (.c (.loc 1001 0)), .one (.agg [.tint .i64, .tbool]), .one (.c (.tint .i64))]) (.cons ⟨be, rfl, rfl⟩ (.cons ⟨_, rfl, .cons ⟨r, rfl, hr⟩ (.cons ⟨ro, rfl⟩ .nil)⟩ (.cons ⟨i, rfl, hi⟩ .nil))) rfl
  (R := fun r x' => r = .one (.c (.tint .i64)) ∧ Up x x' 20) ?_) ?_
 ·(conv => whnf)
  refine ⟨?_, ?_, rfl, ⟨h.xi, hL⟩, ?_⟩
  ·repeat' (first | exact True.intro | exact Eq.refl _ | exact Iff.refl _ | ((conv => whnf) <;> (first | (with_reducible refine WL.ex ?_) | (with_reducible refine WL.me ?_) | (with_reducible refine WL.mk ?_) | with_reducible refine And.intro ?_ ?_ | with_reducible refine Iff.intro ?_ ?_)))
  ·repeat' (first | exact True.intro | exact Eq.refl _ | exact Iff.refl _ | ((conv => whnf) <;> (first | (with_reducible refine WL.ex ?_) | (with_reducible refine WL.me ?_) | (with_reducible refine WL.mk ?_) | with_reducible refine And.intro ?_ ?_ | with_reducible refine Iff.intro ?_ ?_)))
   all_goals exact Nat.le_refl _
  ·intro z hz L' G' M' C' E' a' m' c' g' f' z' h1 h2 h3 h4 h5 h6 h7
   have hz := HZ.at hz h.z0 h.z1
   exact ⟨⟨L', G', M', C', E', a', m', c', g', f', z'⟩, rfl, rfl, h1, h2, h3, rfl, ⟨h4, h7, by unfold XS.mu; simp only; omega, h6⟩⟩
 ·rintro e w' ⟨v, r', σ', x', rfl, ⟨rfl, hu⟩, ⟨n, rfl, hn⟩, hw, hf⟩
  exact ⟨n, σ', x', rfl, hn, hw, hf, hu⟩
theorem load_h {bm be : Nat} {σ : Sg} {x : XS} {w : World} (h : EW bm be σ x w) (hL : x.L + 1 ≤ 137438950000) (i : Int) (hi : InR .i64 i) :
  Calls Tryz.prog 80 #[.pointer (some ⟨be, 0, none⟩), .int .i64 i] w (AccPost bm be σ x 1 w) := by
 refine Calls.mono (EW.call sat_load rfl h (avs := [.one (.c (.loc 1001 0)), .one (.c (.tint .i64))]) (.cons ⟨be, rfl, rfl⟩ (.cons ⟨i, rfl, hi⟩ .nil)) rfl
  (R := fun r x' => r = .one (.c (.tint .i64)) ∧ Up x x' 1) ?_) ?_
 ·(conv => whnf)
  refine ⟨?_, ?_, rfl, ⟨h.xi, hL⟩, ?_⟩
  ·repeat' (first | exact True.intro | exact Eq.refl _ | exact Iff.refl _ | ((conv => whnf) <;> (first | (with_reducible refine WL.ex ?_) | (with_reducible refine WL.me ?_) | (with_reducible refine WL.mk ?_) | with_reducible refine And.intro ?_ ?_ | with_reducible refine Iff.intro ?_ ?_)))
  ·repeat' (first | exact True.intro | exact Eq.refl _ | exact Iff.refl _ | ((conv => whnf) <;> (first | (with_reducible refine WL.ex ?_) | (with_reducible refine WL.me ?_) | (with_reducible refine WL.mk ?_) | with_reducible refine And.intro ?_ ?_ | with_reducible refine Iff.intro ?_ ?_)))
   all_goals exact Nat.le_refl _
  ·intro z hz L' G' M' C' E' a' m' c' g' f' z' h1 h2 h3 h4 h5 h6 h7
   have hz := HZ.at hz h.z0 h.z1
   exact ⟨⟨L', G', M', C', E', a', m', c', g', f', z'⟩, rfl, rfl, h1, h2, h3, rfl, ⟨h4, h7, by unfold XS.mu; simp only; omega, h6⟩⟩
 ·rintro e w' ⟨v, r', σ', x', rfl, ⟨rfl, hu⟩, ⟨n, rfl, hn⟩, hw, hf⟩
  exact ⟨n, σ', x', rfl, hn, hw, hf, hu⟩
def NodeV (σ : Sg) (bm be : Nat) (L : Nat) (vs : List Value) : Prop := Cells tab σ (bE bm be) (ndT L) vs
def NdPost (bm be : Nat) (σ : Sg) (x : XS) (w : World) (e : Ending) (w' : World) : Prop :=
 ∃ (vs : Array Value) (σ' : Sg), e = .returned (.agg vs) ∧ NodeV σ' bm be x.L vs.toList ∧ EW bm be σ' x w' ∧ HF bm be σ w σ' w'
theorem node_h {bm be : Nat} {σ : Sg} {x : XS} {w : World} (h : EW bm be σ x w) (hL : x.L ≤ 137438950000) (i : Int) (hi : InR .i64 i) :
  Calls Tryz.prog 81 #[.pointer (some ⟨be, 0, none⟩), .int .i64 i] w (NdPost bm be σ x w) := by
 refine Calls.mono (EW.call sat_xnode rfl h (avs := [.one (.c (.loc 1001 0)), .one (.c (.tint .i64))]) (.cons ⟨be, rfl, rfl⟩ (.cons ⟨i, rfl, hi⟩ .nil)) rfl
  (R := fun r x' => r = .one (.agg (ndT x.L)) ∧ x' = x) ?_) ?_
 ·(conv => whnf)
  refine ⟨?_, ?_, rfl, ⟨h.xi, hL⟩, ?_⟩
  ·repeat' (first | exact True.intro | exact Eq.refl _ | exact Iff.refl _ | ((conv => whnf) <;> (first | (with_reducible refine WL.ex ?_) | (with_reducible refine WL.me ?_) | (with_reducible refine WL.mk ?_) | with_reducible refine And.intro ?_ ?_ | with_reducible refine Iff.intro ?_ ?_)))
  ·repeat' (first | exact True.intro | exact Eq.refl _ | exact Iff.refl _ | ((conv => whnf) <;> (first | (with_reducible refine WL.ex ?_) | (with_reducible refine WL.me ?_) | (with_reducible refine WL.mk ?_) | with_reducible refine And.intro ?_ ?_ | with_reducible refine Iff.intro ?_ ?_)))
   all_goals exact Nat.le_refl _
  ·exact ⟨x, rfl, rfl, h.xi, h.z0, h.z1, rfl, rfl⟩
 ·rintro e w' ⟨v, r', σ', x', rfl, ⟨rfl, rfl⟩, ⟨vs, rfl, hn⟩, hw, hf⟩
  exact ⟨vs, σ', rfl, hn, hw, hf⟩
end Tv
end Go.Proofs.YtpabdmcbahmjnaaGreat
namespace Go.Proofs.YtpabdmcbahmjnaaGreat
namespace Tv
open Go Go.RowKit Go.MapKept
set_option linter.unusedSimpArgs false
set_option linter.unusedVariables false
theorem blk_cell {w : World} {g : Nat} {t : TypeId} {cs : Array Value} (h : w.heap[g]? = some (.cells cs t (0, 0))) (i : Nat) : w.cell? ⟨g, i, none⟩ = cs[i]? := by
 unfold World.cell?
 rw [h]
 simp
theorem blk_frozen {w : World} {g : Nat} {t : TypeId} {cs : Array Value} (h : w.heap[g]? = some (.cells cs t (0, 0))) (i : Nat) : w.frozen? ⟨g, i, none⟩ = false := by
 unfold World.frozen?
 rw [h]
 simp
theorem three_set {w : World} {b p k : Nat} (hne : b ≠ p) {u x0 x1 x2 y0 y1 y2 : Value} (h0 : w.cell? ⟨b, 0, none⟩ = some x0) (h1 : w.cell? ⟨b, 1, none⟩ = some x1) (h2 : w.cell? ⟨b, 2, none⟩ = some x2) :
  ((w.setCell ⟨p, k, none⟩ u).setCell ⟨b, 0, none⟩ y0).cell? ⟨b, 0, none⟩ = some y0 ∧ (((w.setCell ⟨p, k, none⟩ u).setCell ⟨b, 0, none⟩ y0).setCell ⟨b, 1, none⟩ y1).cell? ⟨b, 1, none⟩ = some y1 ∧
  ((((w.setCell ⟨p, k, none⟩ u).setCell ⟨b, 0, none⟩ y0).setCell ⟨b, 1, none⟩ y1).setCell ⟨b, 2, none⟩ y2).cell? ⟨b, 2, none⟩ = some y2 := by
 have ne : ∀ i, (⟨b, i, none⟩ : Addr) ≠ ⟨p, k, none⟩ := fun i e => hne (by injection e)
 have e : ∀ i j : Nat, i ≠ j → (⟨b, i, none⟩ : Addr) ≠ ⟨b, j, none⟩ := fun i j h e => h (by injection e)
 have a0 := (World.cell?_setCell_other w _ _ u (ne 0).symm).trans h0
 have a1 := (World.cell?_setCell_other w _ _ u (ne 1).symm).trans h1
 have a2 := (World.cell?_setCell_other w _ _ u (ne 2).symm).trans h2
 have b1 := (World.cell?_setCell_other _ _ _ y0 (e 1 0 (by decide)).symm).trans a1
 have b2 := (World.cell?_setCell_other _ _ _ y0 (e 2 0 (by decide)).symm).trans a2
 have c2 := (World.cell?_setCell_other _ _ _ y1 (e 2 1 (by decide)).symm).trans b2
 exact ⟨World.cell?_setCell_same _ _ _ a0, World.cell?_setCell_same _ _ _ b1, World.cell?_setCell_same _ _ _ c2⟩
theorem three_set0 {w : World} {b : Nat} {x0 x1 x2 y0 y1 y2 : Value} (h0 : w.cell? ⟨b, 0, none⟩ = some x0) (h1 : w.cell? ⟨b, 1, none⟩ = some x1) (h2 : w.cell? ⟨b, 2, none⟩ = some x2) :
  (w.setCell ⟨b, 0, none⟩ y0).cell? ⟨b, 0, none⟩ = some y0 ∧ ((w.setCell ⟨b, 0, none⟩ y0).setCell ⟨b, 1, none⟩ y1).cell? ⟨b, 1, none⟩ = some y1 ∧ (((w.setCell ⟨b, 0, none⟩ y0).setCell ⟨b, 1, none⟩ y1).setCell ⟨b, 2, none⟩ y2).cell? ⟨b, 2, none⟩ = some y2 := by
 have e : ∀ i j : Nat, i ≠ j → (⟨b, i, none⟩ : Addr) ≠ ⟨b, j, none⟩ := fun i j h e => h (by injection e)
 have b1 := (World.cell?_setCell_other _ _ _ y0 (e 1 0 (by decide)).symm).trans h1
 have b2 := (World.cell?_setCell_other _ _ _ y0 (e 2 0 (by decide)).symm).trans h2
 have c2 := (World.cell?_setCell_other _ _ _ y1 (e 2 1 (by decide)).symm).trans b2
 exact ⟨World.cell?_setCell_same _ _ _ h0, World.cell?_setCell_same _ _ _ b1, World.cell?_setCell_same _ _ _ c2⟩
theorem info_parts3 {e : TypeId} {z : Value} {sz by8 : Nat} (h : (Tryz.prog.info? e).map (fun i => (i.zero, i.size, i.bytes)) = some (some z, sz, by8)) : ∃ i, Tryz.prog.info? e = some i ∧ i.zero = some z ∧ i.size = sz ∧ i.bytes = by8 := by
 obtain ⟨i, hi, e⟩ := Option.map_eq_some_iff.1 h
 simp only [Prod.mk.injEq] at e
 exact ⟨i, hi, e.1, e.2.1, e.2.2⟩
theorem row_form {w : World} {B size n : Nat} {e : TypeId} {v : Value} {xs : List Value} (h : w.ownsRow B e size v n xs) : ∃ a cap, v = .slice a n cap := by
 rcases h.2 with ⟨rfl, h0⟩ | ⟨g, cap, cur, rfl, _⟩
 ·exact ⟨none, 0, by rw [h0]⟩
 ·exact ⟨_, cap, rfl⟩
theorem row_kind {w : World} {B size n : Nat} {e : TypeId} {v : Value} {xs : List Value} (h : w.ownsRow B e size v n xs) {g : Nat} (hg : v.ownBlock = some g) : B ≤ g ∧ ∃ cur, w.heap[g]? = some (.cells cur e (0, 0)) := by
 rcases h.2 with ⟨h0, _⟩ | ⟨k, cap, cur, hv, hb, hk, _⟩
 ·rw [h0] at hg; simp [Value.ownBlock] at hg
 ·rw [hv] at hg
  simp only [Value.ownBlock, Option.some.injEq] at hg
  subst hg
  exact ⟨hb, cur, hk⟩
theorem row_lt {w : World} {B size n : Nat} {e : TypeId} {v : Value} {xs : List Value} (h : w.ownsRow B e size v n xs) {g : Nat} (hg : v.ownBlock = some g) : g < w.heap.size := by
 obtain ⟨_, cur, hc⟩ := row_kind h hg
 exact (Array.getElem?_eq_some_iff.1 hc).1
theorem row_some {w : World} {B size n : Nat} {e : TypeId} {v : Value} {xs : List Value} (h : w.ownsRow B e size v n xs) (hn : 0 < n) : ∃ g cap, v = .slice (some ⟨g, 0, none⟩) n cap := by
 rcases h.2 with ⟨rfl, h0⟩ | ⟨g, cap, cur, rfl, _⟩
 ·omega
 ·exact ⟨g, cap, rfl⟩
theorem grown_block {w w' : World} {o : Obj} {row : Option Nat} (hg : (w.alloc o).grownBy w' row) {k : Nat} (hk : k < w.heap.size) (hr : row ≠ some k) : w'.heap[k]? = w.heap[k]? := by
 rw [hg.block k (by simp; omega) (fun e => hr e.symm), Below.heap_alloc _ _ _ hk]
theorem grown_below {w w' : World} {o : Obj} {row : Option Nat} {B : Nat} (hg : (w.alloc o).grownBy w' row) (hB : B ≤ w.heap.size) (hr : ∀ k, row = some k → B ≤ k) : Below B w w' :=
 ((Below.refl _ _).alloc hB o).grown hg (by simp; omega) hr
theorem row_le {w : World} {b b' size n : Nat} {e : TypeId} {v : Value} {xs : List Value} (h : w.ownsRow b e size v n xs) (hb : b' ≤ b) : w.ownsRow b' e size v n xs :=
 ⟨h.1, h.2.elim Or.inl (fun ⟨g, cap, cur, hv, hg, r⟩ => Or.inr ⟨g, cap, cur, hv, Nat.le_trans hb hg, r⟩)⟩
theorem raddr (g n : Nat) : ((⟨g, 0, none⟩ : Addr).add n) = ⟨g, n, none⟩ := by
 unfold Addr.add
 split
 ·subst n; rfl
 ·simp
def StopAt (p : Prop) : Prop := p
theorem stopAt {p : Prop} (h : StopAt p) : p := h
theorem wpList_app {ops : Array Oper} {rest : List Oper} {o : Oper} {a : Act} {Q : Exit → Act → World → Prop} (T e : TypeId) (hT : Tryz.prog.underlying T = some (.slice e)) (z : Value) (sz by8 : Nat) (hinfo : (Tryz.prog.info? e).map (fun i => (i.zero, i.size, i.bytes)) = some (some z, sz, by8)) (hz : z.cells.size = sz) (h0 : 0 < sz)
  (hgd : o.guard = none) (s x : Operand) (ho : o.op = .call { callee := .builtin .append, args := #[s, x], argTypes := #[T, T] })
  (B : Nat) (w : World) (v : Value) (n : Nat) (xs : List Value) (hs : a.eval s = v) (hown : w.ownsRow B e sz v n xs) (ad : Addr) (m c : Nat) (ys : List Value) (hx : a.eval x = .slice (some ad) m c) (hl : ys.length = m * sz)
  (hc : ∀ j u, ys[j]? = some u → w.cell? (ad.add j) = some u) (h1 : ∀ u ∈ ys, u.oneCell' = true) (hB : B ≤ w.heap.size) (hm : n + m ≤ maxLen) (hlen : (n + m) * by8 ≤ 140737488355328)
  (h : ∀ a' cap' w', w'.ownsRow B e sz (.slice a' (n + m) cap') (n + m) (xs ++ ys) → w.grownBy w' v.ownBlock → wpList Tryz.prog ops Q rest (a.put o.dst (.slice a' (n + m) cap')) w') : wpList Tryz.prog ops Q (o :: rest) a w := by
 obtain ⟨i0, hi, hz0, hz1, hz2⟩ := info_parts3 hinfo
 refine wpList_append_own _ hgd s x T ho B e i0 z sz by8 hT hi hz0 hz1 hz2 hz h0 v n xs hs hown ad m c ys hx hl hc h1 hm hlen hB ?_
 intro v' w' ho' hg _
 obtain ⟨a', cap', rfl⟩ := row_form ho'
 exact h a' cap' w' ho' hg
theorem row_cases {w : World} {B sz n c : Nat} {e : TypeId} {A : Option Addr} {xs : List Value} (h : w.ownsRow B e sz (.slice A n c) n xs) : (A = none ∧ n = 0 ∧ c = 0) ∨ ∃ g, A = some ⟨g, 0, none⟩ ∧ n ≤ c := by
 rcases h.2 with ⟨h1, h2⟩ | ⟨g, cap, cur, hv, _, _, hn, _⟩
 ·simp only [Value.slice.injEq] at h1
  exact Or.inl h1
 ·simp only [Value.slice.injEq, true_and] at hv
  obtain ⟨rfl, rfl⟩ := hv
  exact Or.inr ⟨g, rfl, hn⟩
theorem row_heap {w w' : World} {B sz n : Nat} {e : TypeId} {v : Value} {xs : List Value} (h : w.ownsRow B e sz v n xs) (he : w'.heap = w.heap) : w'.ownsRow B e sz v n xs := by
 unfold World.ownsRow at h ⊢
 rw [he]
 exact h
theorem wpList_appv {ops : Array Oper} {rest : List Oper} {o : Oper} {a : Act} {Q : Exit → Act → World → Prop} (T e : TypeId) (hT : Tryz.prog.underlying T = some (.slice e)) (z : Value) (sz by8 : Nat) (hinfo : (Tryz.prog.info? e).map (fun i => (i.zero, i.size, i.bytes)) = some (some z, sz, by8)) (hz : z.cells.size = sz) (h0 : 0 < sz)
  (hgd : o.guard = none) (s x : Operand) (ho : o.op = .call { callee := .builtin .append, args := #[s, x], argTypes := #[T, T] })
  (B : Nat) (w : World) (v : Value) (n : Nat) (xs : List Value) (hs : a.eval s = v) (hown : w.ownsRow B e sz v n xs) (A : Option Addr) (m c : Nat) (ys : List Value) (hx : a.eval x = .slice A m c) (hA : A = none → m = 0 ∧ c = 0) (hl : ys.length = m * sz)
  (hc : ∀ ad, A = some ad → ∀ j u, ys[j]? = some u → w.cell? (ad.add j) = some u) (h1 : ∀ u ∈ ys, u.oneCell' = true) (hB : B ≤ w.heap.size) (hm : n + m ≤ maxLen) (hlen : (n + m) * by8 ≤ 140737488355328)
  (h : ∀ v' w', w'.ownsRow B e sz v' (n + m) (xs ++ ys) → w.grownBy w' v.ownBlock → wpList Tryz.prog ops Q rest (a.put o.dst v') w') : wpList Tryz.prog ops Q (o :: rest) a w := by
 cases A with
 | some ad => exact wpList_app T e hT z sz by8 hinfo hz h0 hgd s x ho B w v n xs hs hown ad m c ys hx hl (hc ad rfl) h1 hB hm hlen fun a' c' w' h2 h3 => h _ w' h2 h3
 | none =>
  obtain ⟨rfl, rfl⟩ := hA rfl
  obtain ⟨i0, hi, _⟩ := info_parts3 hinfo
  refine wpList_append_own_none hgd s x T ho B e i0 sz hT hi v n xs hs hown hx ?_
  have hy : ys = [] := List.length_eq_zero_iff.1 (by rw [hl]; omega)
  subst hy
  exact h v w (by simpa using hown) ⟨rfl, rfl, rfl, Nat.le_refl _, fun _ _ _ => rfl⟩
def frC (x : Int × Int) : List Value := [.int .i64 x.1, .int .i64 x.2]
theorem frC_len (l : List (Int × Int)) : (l.flatMap frC).length = l.length * 2 := by
 induction l with
 | nil => rfl
 | cons x r ih => simp [frC, ih]; omega
theorem frC_one (l : List (Int × Int)) : ∀ u ∈ l.flatMap frC, u.oneCell' = true := by
 intro u hu
 obtain ⟨x, _, hx⟩ := List.mem_flatMap.1 hu
 simp only [frC, List.mem_cons, List.not_mem_nil, or_false] at hx
 rcases hx with rfl | rfl <;> rfl
theorem frC_at (l : List (Int × Int)) (j : Nat) (x : Int × Int) (hx : l[j]? = some x) : (l.flatMap frC)[j * 2]? = some (.int .i64 x.1) ∧ (l.flatMap frC)[j * 2 + 1]? = some (.int .i64 x.2) := by
 induction l generalizing j with
 | nil => simp at hx
 | cons y r ih =>
  cases j with
  | zero =>
   simp only [List.getElem?_cons_zero, Option.some.injEq] at hx
   subst hx
   simp [frC]
  | succ j =>
   have := ih j (by simpa using hx)
   rw [List.flatMap_cons]
   have e : (frC y).length = 2 := rfl
   rw [List.getElem?_append_right (by rw [e]; omega), List.getElem?_append_right (by rw [e]; omega), e, show (j + 1) * 2 - 2 = j * 2 by omega, show (j + 1) * 2 + 1 - 2 = j * 2 + 1 by omega]
   exact this
theorem frC_cells (l : List (Int × Int)) (w : World) (b off : Nat) (h : ∀ j x, l[j]? = some x → w.cell? ⟨b, off + j * 2, none⟩ = some (.int .i64 x.1) ∧ w.cell? ⟨b, off + j * 2 + 1, none⟩ = some (.int .i64 x.2)) :
  ∀ j u, (l.flatMap frC)[j]? = some u → w.cell? ((⟨b, off, none⟩ : Addr).add j) = some u := by
 intro j u hu
 have hj : j < l.length * 2 := by rw [← frC_len]; exact (List.getElem?_eq_some_iff.1 hu).1
 obtain ⟨x, hx⟩ : ∃ x, l[j / 2]? = some x := ⟨_, List.getElem?_eq_getElem (by omega)⟩
 have hp := frC_at l (j / 2) x hx
 have hc := h (j / 2) x hx
 have ea : ((⟨b, off, none⟩ : Addr).add j) = ⟨b, off + j, none⟩ := by simp [Addr.add]
 rw [ea]
 by_cases he : j % 2 = 0
 ·have e : j = j / 2 * 2 := by omega
  have e2 : w.cell? ⟨b, off + j, none⟩ = w.cell? ⟨b, off + j / 2 * 2, none⟩ := by rw [← e]
  rw [e2, hc.1]
  rw [show (l.flatMap frC)[j]? = (l.flatMap frC)[j / 2 * 2]? by rw [← e], hp.1] at hu
  exact hu
 ·have e : j = j / 2 * 2 + 1 := by omega
  have e2 : w.cell? ⟨b, off + j, none⟩ = w.cell? ⟨b, off + j / 2 * 2 + 1, none⟩ := by rw [show off + j / 2 * 2 + 1 = off + j by omega]
  rw [e2, hc.2]
  rw [show (l.flatMap frC)[j]? = (l.flatMap frC)[j / 2 * 2 + 1]? by rw [← e], hp.2] at hu
  exact hu
theorem one_cells (w : World) (x : Int × Int) : ∀ j u, (frC x)[j]? = some u → (w.alloc (.cells #[.int .i64 x.1, .int .i64 x.2] 168)).cell? ((⟨w.heap.size, 0, none⟩ : Addr).add j) = some u := by
 have := frC_cells [x] (w.alloc (.cells #[.int .i64 x.1, .int .i64 x.2] 168)) w.heap.size 0 (fun i y hy => by
  have hi : i = 0 := by
   have := (List.getElem?_eq_some_iff.1 hy).1
   simpa using this
  subst hi
  obtain rfl : x = y := by simpa using hy
  exact ⟨blk_cell (heap_alloc w _).1 0, blk_cell (heap_alloc w _).1 1⟩)
 simpa using this
theorem one_one (x : Int × Int) : ∀ u ∈ frC x, u.oneCell' = true := by
 have := frC_one [x]
 simpa using this
theorem src_take {w w' : World} {B g n c : Nat} {R : List (Int × Int)} (h : w.ownsRow B 168 2 (.slice (some ⟨g, 0, none⟩) n c) n (R.flatMap frC)) (j : Nat) (hk : w'.heap[g]? = w.heap[g]?) :
  ∀ ad, (some (⟨g, 0, none⟩ : Addr)) = some ad → ∀ i u, ((R.take j).flatMap frC)[i]? = some u → w'.cell? (ad.add i) = some u := by
 intro ad had i u hu
 obtain rfl := Option.some.inj had
 have hk' : w'.heap[((⟨g, 0, none⟩ : Addr).add i).block]? = w.heap[((⟨g, 0, none⟩ : Addr).add i).block]? := by rw [raddr]; exact hk
 refine (World.cell?_of_block hk').trans (h.cells (g := g) rfl i u ?_)
 have e : R.flatMap frC = (R.take j).flatMap frC ++ (R.drop j).flatMap frC := by rw [← List.flatMap_append, List.take_append_drop]
 rw [e, List.getElem?_append_left (List.getElem?_eq_some_iff.1 hu).1]
 exact hu
theorem fr_info : (Tryz.prog.info? 168).map (fun i => (i.zero, i.size, i.bytes)) = some (some (.agg #[.int .i64 0, .int .i64 0]), 2, 16) := by kernel_rfl
theorem row_keep {w w' : World} {B sz n : Nat} {e : TypeId} {v : Value} {xs : List Value} (h : w.ownsRow B e sz v n xs) (hk : ∀ g, v.ownBlock = some g → w'.heap[g]? = w.heap[g]?) : w'.ownsRow B e sz v n xs := by
 refine ⟨h.1, ?_⟩
 rcases h.2 with h0 | ⟨g, cap, cur, hv, hb, hc, r⟩
 ·exact .inl h0
 ·exact .inr ⟨g, cap, cur, hv, hb, by rw [hk g (by rw [hv]; rfl)]; exact hc, r⟩
structure StkAt (bm be : Nat) (σ : Sg) (w : World) (v : Value) (fs : List (Int × Int)) : Prop where
 row : w.ownsRow 0 168 2 v fs.length (fs.flatMap frC)
 lo : ∀ g, v.ownBlock = some g → Lo bm be σ w g
 bd : ∀ x ∈ fs, InR .i64 x.1 ∧ InR .i64 x.2
theorem StkAt.next {bm be : Nat} {σ σ' : Sg} {w w' : World} {v : Value} {fs : List (Int × Int)} (h : StkAt bm be σ w v fs) (hf : HF bm be σ w σ' w') : StkAt bm be σ' w' v fs :=
 ⟨row_keep h.row fun g hg => (hf.keep g (h.lo g hg)).2, fun g hg => (hf.keep g (h.lo g hg)).1, h.bd⟩
theorem EW.cells {bm be : Nat} {σ : Sg} {x : XS} {w : World} (h : EW bm be σ x w) : ∃ vs T, w.heap[be]? = some (.cells vs T (0, 0)) ∧ Cells tab σ (bE bm be) (exB x.L x.G x.M x.C x.E x.a x.m x.c x.g x.f (x.z = 0)) vs.toList := by
 obtain ⟨b, vs, T, h1, h2, h3, _⟩ := h.inv.box 1001 _ rfl
 rcases bE_some h1 with ⟨e, _⟩ | ⟨_, rfl⟩
 ·cases e
 ·exact ⟨vs, T, h2, h3⟩
theorem EW.reads {bm be : Nat} {σ : Sg} {x : XS} {w : World} (h : EW bm be σ x w) : ∃ (r : Int) (ro q : Bool), InR .i64 r ∧ (q = true ↔ x.z = 0) ∧
  (∀ w' : World, w'.heap[be]? = w.heap[be]? → w'.cell? ⟨be, 2, none⟩ = some (.int .i64 r) ∧ w'.cell? ⟨be, 3, none⟩ = some (.bool ro) ∧ w'.cell? ⟨be, 35, none⟩ = some (.bool q)) := by
 obtain ⟨vs, T, h1, h2⟩ := h.cells
 obtain ⟨v1, a1, r, rfl, hr⟩ := h2.get (i := 2) (x := .tint .i64) rfl
 obtain ⟨v2, a2, ro, rfl⟩ := h2.get (i := 3) (x := .tbool) rfl
 obtain ⟨v3, a3, q, rfl, hq⟩ := h2.get (i := 35) (x := .prop (x.z = 0)) rfl
 refine ⟨r, ro, q, hr, hq, fun w' hw => ?_⟩
 rw [h1] at hw
 rw [blk_cell hw, blk_cell hw, blk_cell hw]
 simp only [Array.getElem?_toList] at a1 a2 a3
 exact ⟨a1, a2, a3⟩
structure OnB (S : Nat → Prop) (w w' : World) : Prop where
 os : w'.os = w.os
 tape : w'.tape = w.tape
 output : w'.output = w.output
 size : w.heap.size ≤ w'.heap.size
 block : ∀ b, b < w.heap.size → ¬ S b → w'.heap[b]? = w.heap[b]?
theorem OnB.refl (S : Nat → Prop) (w : World) : OnB S w w := ⟨rfl, rfl, rfl, Nat.le_refl _, fun _ _ _ => rfl⟩
theorem OnB.alloc {S : Nat → Prop} {w w' : World} (h : OnB S w w') (o : Obj) : OnB S w (w'.alloc o) :=
 ⟨h.os, h.tape, h.output, by have := h.size; simp; omega, fun b hb hs => (Below.heap_alloc _ _ _ (by have := h.size; omega)).trans (h.block b hb hs)⟩
theorem OnB.set {S : Nat → Prop} {w w' : World} (h : OnB S w w') {p : Addr} (hp : S p.block ∨ w.heap.size ≤ p.block) (u : Value) : OnB S w (w'.setCell p u) :=
 ⟨h.os, h.tape, h.output, by have := h.size; simp [World.setCell]; omega, fun b hb hs => (Below.heap_setCell _ _ _ _ (fun e => by
  subst e
  rcases hp with hp | hp
  ·exact hs hp
  ·omega)).trans (h.block b hb hs)⟩
theorem OnB.grown {S : Nat → Prop} {w w' w'' : World} (h : OnB S w w') {row : Option Nat} (hg : w'.grownBy w'' row) (hr : ∀ k, row = some k → S k ∨ w.heap.size ≤ k) : OnB S w w'' :=
 ⟨hg.os.trans h.os, hg.tape.trans h.tape, hg.output.trans h.output, Nat.le_trans h.size hg.size, fun b hb hs => (hg.block b (by have := h.size; omega) (fun e => by
  rcases hr b e.symm with k | k
  ·exact hs k
  ·omega)).trans (h.block b hb hs)⟩
theorem OnB.drew {S : Nat → Prop} {w w' : World} (h : OnB S w w') : OnB S w w'.drew := ⟨h.os, h.tape, h.output, h.size, h.block⟩
theorem OnB.mono {S T : Nat → Prop} {w w' : World} (h : OnB S w w') (hs : ∀ b, S b → T b) : OnB T w w' := ⟨h.os, h.tape, h.output, h.size, fun b hb ht => h.block b hb fun k => ht (hs b k)⟩
theorem OnB.trans {S : Nat → Prop} {w w' w'' : World} (h : OnB S w w') (h' : OnB S w' w'') : OnB S w w'' :=
 ⟨h'.os.trans h.os, h'.tape.trans h.tape, h'.output.trans h.output, Nat.le_trans h.size h'.size, fun b hb hs => (h'.block b (by have := h.size; omega) hs).trans (h.block b hb hs)⟩
theorem EW.on {bm be : Nat} {σ : Sg} {x : XS} {w w' : World} {S : Nat → Prop} (h : EW bm be σ x w) (ho : OnB S w w') (hS : ∀ b, S b → Lo bm be σ w b) : EW bm be σ x w' := by
 have hh : ∀ b, b < w.heap.size → (σ b ≠ none ∨ b = bm ∨ b = be) → w'.heap[b]? = w.heap[b]? := fun b hb hc => ho.block b hb fun hs => by
  obtain ⟨_, h1, h2, h3⟩ := hS b hs
  rcases hc with hc | hc | hc
  ·exact hc h1
  ·exact h2 hc
  ·exact h3 hc
 refine ⟨⟨?_, ?_, h.inv.inj, h.inv.apart, h.inv.dom, fun b x hb => Nat.lt_of_lt_of_le (h.inv.lt b x hb) ho.size, h.inv.lim⟩, h.xi, h.z0, h.z1⟩
 ·intro b Ls m hb
  obtain ⟨h1, cs, T, h2, h3⟩ := h.inv.hp b Ls m hb
  exact ⟨h1, cs, T, by rw [hh b (h.inv.lt b _ hb) (.inl (by rw [hb]; simp))]; exact h2, h3⟩
 ·intro id cs hc
  obtain ⟨b, vs, T, h1, h2, h3⟩ := h.inv.box id cs hc
  refine ⟨b, vs, T, h1, ?_, h3⟩
  rw [hh b (h.inv.boxLt h1) (by rcases bE_some h1 with ⟨_, e⟩ | ⟨_, e⟩ <;> simp [e])]
  exact h2
theorem HF.refl (bm be : Nat) (σ : Sg) (w : World) : HF bm be σ w σ w := ⟨rfl, rfl, rfl, Nat.le_refl _, Le.refl _, fun _ h => ⟨h, rfl⟩, fun _ _ h => .inl h⟩
theorem HF.on {bm be : Nat} {σ σ' : Sg} {w w' w'' : World} {S : Nat → Prop} (h : HF bm be σ w σ' w') (ho : OnB S w' w'') (hS : ∀ b, S b → w.heap.size ≤ b) : HF bm be σ w σ' w'' := by
 refine ⟨ho.os.trans h.os, ho.tape.trans h.tape, ho.output.trans h.output, Nat.le_trans h.size ho.size, h.sg, ?_, h.new⟩
 intro b hb
 obtain ⟨⟨h1, h2, h3, h4⟩, h5⟩ := h.keep b hb
 have h6 := hb.1
 exact ⟨⟨Nat.lt_of_lt_of_le h1 ho.size, h2, h3, h4⟩, (ho.block b h1 fun hs => by have := hS b hs; omega).trans h5⟩
theorem EW.newLo {bm be : Nat} {σ : Sg} {x : XS} {w w' : World} (h : EW bm be σ x w) {g : Nat} (hg : w.heap.size ≤ g) (hl : g < w'.heap.size) : Lo bm be σ w' g := by
 obtain ⟨h1, h2⟩ := h.lo
 refine ⟨hl, ?_, by omega, by omega⟩
 cases hs : σ g with
 | none => rfl
 | some x => have := h.inv.lt g x hs; omega
theorem Lo.on {bm be : Nat} {σ : Sg} {w w' : World} {b : Nat} (h : Lo bm be σ w b) (hs : w.heap.size ≤ w'.heap.size) : Lo bm be σ w' b := ⟨Nat.lt_of_lt_of_le h.1 hs, h.2⟩
theorem node_form {σ : Sg} {bm be L : Nat} {vs : Array Value} (h : NodeV σ bm be L vs.toList) : ∃ (k g mn bp : Int) (A : Option Addr) (nb c : Nat) (hh : Int) (key : ByteArray) (val : Int) (A2 : Option Addr) (np c2 : Nat) (p1 p2 p3 p4 p5 : Int),
  vs = #[.int .i64 k, .int .i64 g, .int .i64 mn, .int .u64 bp, .slice A nb c, .int .u64 hh, .string key, .int .u64 val, .slice A2 np c2, .int .i64 p1, .int .i64 p2, .int .i64 p3, .int .i64 p4, .int .i64 p5] ∧
  InR .i64 k ∧ InR .i64 g ∧ InR .i64 mn ∧ InR .u64 bp ∧ (nb ≤ L ∧ SlOk tab σ 51 A nb c) ∧ InR .u64 hh ∧ key.size ≤ strMax ∧ InR .u64 val ∧ (np ≤ L ∧ SlOk tab σ 139 A2 np c2) ∧ InR .i64 p1 ∧ InR .i64 p2 ∧ InR .i64 p3 ∧ InR .i64 p4 ∧ InR .i64 p5 := by
 obtain ⟨l⟩ := vs
 unfold NodeV ndT at h
 simp only at h
 rcases h with _ | ⟨⟨k, rfl, a1⟩, _ | ⟨⟨g, rfl, a2⟩, _ | ⟨⟨mn, rfl, a3⟩, _ | ⟨⟨bp, rfl, a4⟩, _ | ⟨⟨A, nb, c, rfl, a5⟩, _ | ⟨⟨hh, rfl, a6⟩, _ | ⟨⟨key, rfl, a7⟩, _ | ⟨⟨val, rfl, a8⟩, _ | ⟨⟨A2, np, c2, rfl, a9⟩, _ | ⟨⟨p1, rfl, b1⟩, _ | ⟨⟨p2, rfl, b2⟩, _ | ⟨⟨p3, rfl, b3⟩, _ | ⟨⟨p4, rfl, b4⟩, _ | ⟨⟨p5, rfl, b5⟩, _ | _⟩⟩⟩⟩⟩⟩⟩⟩⟩⟩⟩⟩⟩⟩
 exact ⟨k, g, mn, bp, A, nb, c, hh, key, val, A2, np, c2, p1, p2, p3, p4, p5, rfl, a1, a2, a3, a4, a5, a6, a7, a8, a9, b1, b2, b3, b4, b5⟩
theorem StkAt.on {bm be : Nat} {σ : Sg} {w w' : World} {v : Value} {fs : List (Int × Int)} {S : Nat → Prop} (h : StkAt bm be σ w v fs) (ho : OnB S w w') (hS : ∀ g, v.ownBlock = some g → ¬ S g) : StkAt bm be σ w' v fs :=
 ⟨row_keep h.row fun g hg => ho.block g (h.lo g hg).1 (hS g hg), fun g hg => (h.lo g hg).on ho.size, h.bd⟩
theorem EW.pair {bm be : Nat} {σ : Sg} {x : XS} {w : World} (h : EW bm be σ x w) (key : ByteArray) (val : Int) (hk : key.size ≤ strMax) (hv : InR .u64 val) :
  ∃ σ', EW bm be σ' x (w.alloc (.cells #[.string key, .int .u64 val] 139)) ∧ HF bm be σ w σ' (w.alloc (.cells #[.string key, .int .u64 val] 139)) ∧ SlOk tab σ' 139 (some ⟨w.heap.size, 0, none⟩) 1 1 := by
 have hl : tab.lay 139 = [.str, .int .u64] := rfl
 have hn : σ w.heap.size = none := h.inv.newNone
 have hi := h.inv.allocSig (Ls := [.str, .int .u64]) (m := 1) (vs := #[.string key, .int .u64 val]) (T := 139) (by decide) rfl (by
  intro i v ct hv' hct
  match i, hv' with
  | 0, hv' =>
   simp at hv' hct
   subst hv'; subst hct
   exact ⟨key, rfl, hk⟩
  | 1, hv' =>
   simp at hv' hct
   subst hv'; subst hct
   exact ⟨val, rfl, hv⟩
  | i + 2, hv' => simp at hv')
 refine ⟨_, ⟨hi, h.xi, h.z0, h.z1⟩, ⟨rfl, rfl, rfl, by simp, updSg_le hn, ?_, ?_⟩, ⟨Nat.le_refl _, by decide, (fun e => by cases e), ?_⟩⟩
 ·rintro b ⟨h1, h2, h3, h4⟩
  exact ⟨⟨by simp; omega, by rw [upd_ne _ _ (by omega)]; exact h2, h3, h4⟩, Below.heap_alloc _ _ _ h1⟩
 ·intro b y hb
  by_cases e : b = w.heap.size
  ·right; omega
  ·rw [upd_ne _ _ e] at hb; exact .inl hb
 ·rintro a ha
  injection ha with ha
  subst ha
  exact ⟨rfl, 1, 0, by rw [upd_same, hl], by simp, by omega⟩
end Tv
end Go.Proofs.YtpabdmcbahmjnaaGreat
