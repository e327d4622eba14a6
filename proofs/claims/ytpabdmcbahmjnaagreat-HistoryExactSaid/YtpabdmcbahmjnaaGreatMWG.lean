/- Part of a proof: W17 W17b W17c W17e. -/
import Derived.Test.YtpabdmcbahmjnaaGreatMWF
import Derived.Test.YtpabdmcbahmjnaaGreatMA3
import Derived.Deep.QuietTactic
import Derived.BigRegion
namespace Go.Proofs.YtpabdmcbahmjnaaGreat
namespace Tv
open Go Go.RowKit Go.MapKept
set_option linter.unusedSimpArgs false
set_option linter.unusedVariables false
structure EvI (ts : List (List OpD)) (d : MD) : Prop where
 n : ts.length = d.nT
 cnt : ∀ (i : Nat) (a : Int), d.ats[i]? = some a → (cntT d.evs d.evs.length (i : Int) : Int) = 2 * a + (match d.exs[i]? with | some (some _) => 1 | _ => 0)
 prop : ProperP (ts.map (·.length)) d.evs
 ats : ∀ (i : Nat) (a : Int), d.ats[i]? = some a → ∃ (k : Nat) (t : List OpD), a = k ∧ ts[i]? = some t ∧ k ≤ t.length ∧ ((∃ b, d.exs[i]? = some (some b)) → k < t.length)
 res : ∀ e ∈ d.evs, InR .i64 e.res.err ∧ InR .u64 e.res.value ∧ e.res.key.size ≤ strMax ∧ InR .i64 e.res.count ∧ InR .i64 e.res.ref ∧ InR .i64 e.res.root
structure Stat (d d' : MD) : Prop where
 bM : d'.bM = d.bM
 AT : d'.AT = d.AT
 nT : d'.nT = d.nT
 cT : d'.cT = d.cT
 AP : d'.AP = d.AP
 nP : d'.nP = d.nP
 cP : d'.cP = d.cP
 msk : d'.msk = d.msk
def PkPost (B : Nat) (w0 : World) (ts : List (List OpD)) (d : MD) (L g : Nat) (e : Ending) (w' : World) : Prop :=
 ∃ (b : Bool) (d' : MD) (σ' : Sg) (κ' : Nat → Nat) (L' : Nat), e = .returned (.bool b) ∧ MF B w0 σ' κ' d' w' ∧ MX B σ' L' (g + 1) κ' d' w' ∧ EvI ts d' ∧ Stat d d' ∧ L ≤ L' ∧ L' ≤ L + 300000 ∧ d'.evs.length ≤ d.evs.length + 2 ∧ d'.nR ≤ d.nR + 1
theorem MX.ge {B : Nat} {σ : Sg} {L g g' : Nat} {κ : Nat → Nat} {d : MD} {w : World} (h : MX B σ L g κ d w) (hg : g ≤ g') : MX B σ L g' κ d w :=
 ⟨h.core, h.mem, h.tat, h.km, h.kt, h.ko, h.gm, h.gt, h.go, fun i b hb => by
  obtain ⟨h1, h2⟩ := h.ex i b hb
  exact ⟨h1.ge hg, h2⟩⟩
section
variable {B : Nat} {w0 w w' : World} {σ σ' : Sg} {κ κ' : Nat → Nat} {d : MD} {L g : Nat}
theorem MF.cM (h : MF B w0 σ κ d w) : ∀ W : World, W.heap[d.bM]? = w.heap[d.bM]? → W.cell? ⟨d.bM, 1, none⟩ = some (.slice d.AT d.nT d.cT) ∧ W.cell? ⟨d.bM, 3, none⟩ = some (.pointer (some ⟨d.t.bt, 0, none⟩)) ∧ W.cell? ⟨d.bM, 4, none⟩ = some (.slice (some ⟨d.ba, 0, none⟩) d.nT d.nT) ∧ W.cell? ⟨d.bM, 5, none⟩ = some (.slice (some ⟨d.bx, 0, none⟩) d.nT d.nT) ∧
  W.cell? ⟨d.bM, 6, none⟩ = some (.slice d.AE d.evs.length d.cE) ∧ W.cell? ⟨d.bM, 7, none⟩ = some (.slice d.AR d.nR d.cR) ∧ W.cell? ⟨d.bM, 8, none⟩ = some (.int .i64 d.pk) ∧ W.cell? ⟨d.bM, 9, none⟩ = some (.slice (some ⟨d.bb, 0, none⟩) d.nT d.nT) ∧ W.cell? ⟨d.bM, 10, none⟩ = some (.int .i64 d.cur) ∧ W.cell? ⟨d.bM, 11, none⟩ = some (.int .i64 d.most) := fun W hW =>
 have hM := hW.trans h.M
 ⟨blk_cell hM 1, blk_cell hM 3, blk_cell hM 4, blk_cell hM 5, blk_cell hM 6, blk_cell hM 7, blk_cell hM 8, blk_cell hM 9, blk_cell hM 10, blk_cell hM 11⟩
theorem MF.cA (h : MF B w0 σ κ d w) {i : Nat} {a : Int} (ha : d.ats[i]? = some a) : ∀ W : World, W.heap[d.ba]? = w.heap[d.ba]? → W.cell? ⟨d.ba, i, none⟩ = some (.int .i64 a) := fun W hW => by
 rw [blk_cell (hW.trans h.A) i]
 simp [ha]
theorem MF.cX (h : MF B w0 σ κ d w) {i : Nat} {a : Option Nat} (ha : d.exs[i]? = some a) : ∀ W : World, W.heap[d.bx]? = w.heap[d.bx]? → W.cell? ⟨d.bx, i, none⟩ = some (exP a) := fun W hW => by
 rw [blk_cell (hW.trans h.X) i]
 simp [ha]
theorem MF.cY (h : MF B w0 σ κ d w) {i : Nat} {a : Int} (ha : d.bys[i]? = some a) : ∀ W : World, W.heap[d.bb]? = w.heap[d.bb]? → W.cell? ⟨d.bb, i, none⟩ = some (.int .i64 a) := fun W hW => by
 rw [blk_cell (hW.trans h.Y) i]
 simp [ha]
theorem MF.nes (h : MF B w0 σ κ d w) : d.bM ≠ d.ba ∧ d.bM ≠ d.bx ∧ d.bM ≠ d.bb ∧ d.ba ≠ d.bx ∧ d.ba ≠ d.bb ∧ d.bx ≠ d.bb := by
 have h1 := h.kM
 have h2 := h.kA
 have h3 := h.kX
 have h4 := h.kY
 refine ⟨fun e => ?_, fun e => ?_, fun e => ?_, fun e => ?_, fun e => ?_, fun e => ?_⟩ <;> (have := congrArg κ e; omega)
def numW (w : World) (bM n : Nat) (pk cur : Int) : World := ((w.drewN n).setCell ⟨bM, 8, none⟩ (.int .i64 pk)).setCell ⟨bM, 10, none⟩ (.int .i64 cur)
theorem OnB.drewN {S : Nat → Prop} {w w' : World} (h : OnB S w w') (n : Nat) : OnB S w (w'.drewN n) := ⟨h.os, h.tape, h.output, h.size, h.block⟩
theorem MF.num (h : MF B w0 σ κ d w) (hx : MX B σ L g κ d w) (n : Nat) (pk cur : Int) : MF B w0 σ κ { d with pk := pk, cur := cur } (numW w d.bM n pk cur) ∧ MX B σ L g κ { d with pk := pk, cur := cur } (numW w d.bM n pk cur) := by
 have ho : OnB (Tv.four d) w (numW w d.bM n pk cur) := (((OnB.refl _ w).drewN n).set (p := ⟨d.bM, 8, none⟩) (.inl (.inl rfl)) _).set (p := ⟨d.bM, 10, none⟩) (.inl (.inl rfl)) _
 obtain ⟨e1, e2, e3, e4, e5, e6⟩ := h.nes
 refine ⟨h.upd pk cur d.most d.ats d.bys d.exs h.la h.lx h.ly ho ?_ ?_ ?_ ?_, (hx.on h ho).to rfl fun _ _ h => h⟩
 ·have hM : (w.drewN n).heap[d.bM]? = some (.cells d.cells 38 (0, 0)) := h.M
  exact blk_setW (i := 10) (blk_setW (i := 8) hM (.int .i64 pk)) (.int .i64 cur)
 ·exact set_other (set_other (w := w.drewN n) h.A e1.symm) e1.symm
 ·exact set_other (set_other (w := w.drewN n) h.X e2.symm) e2.symm
 ·exact set_other (set_other (w := w.drewN n) h.Y e3.symm) e3.symm
theorem EvI.num {ts : List (List OpD)} (h : EvI ts d) (pk cur most : Int) : EvI ts { d with pk := pk, cur := cur, most := most } := ⟨h.n, h.cnt, h.prop, h.ats, h.res⟩
end
section
variable {B : Nat} {w0 w w' : World} {σ σ' : Sg} {κ κ' : Nat → Nat} {d : MD} {L g : Nat}
theorem push_mx (h : MF B w0 σ κ d w) (hx : MX B σ L g κ d w) {u : Value} {code : Nat} (hc : code = 8 ∨ code = 9) (hu : ∀ b, u.ownBlock = some b → σ b = none ∧ κ b = code) (hg : w.grownBy w' u.ownBlock) {j : Nat} {v : Value} (hk : ∀ b, b < w.heap.size → κ' b = κ b) : MX B σ L g κ' d (w'.setCell ⟨d.bM, j, none⟩ v) := by
 have F : FM (fun b => (b < w.heap.size ∧ u.ownBlock = some b) ∨ b = d.bM) σ w σ (w'.setCell ⟨d.bM, j, none⟩ v) := by
  refine FM.setNew ⟨hg.os, hg.tape, hg.output, hg.size, Le.refl _, fun _ _ h => .inl h, fun b h1 h2 h3 => hg.block b h1 fun e => h3 (.inl ⟨h1, e.symm⟩)⟩ (.inr (.inr (.inr rfl))) v
 refine (hx.kap hk).keep F (fun b hb => ?_) ?_
 ·rcases hb with ⟨h1, h2⟩ | rfl
  ·rw [hk b h1, (hu b h2).2]; omega
  ·rw [hk _ (Array.getElem?_eq_some_iff.1 h.M).1, h.kM]; omega
 ·refine hx.core.same F.size fun b hb => ?_
  have hlt : b < w.heap.size := by
   obtain ⟨x, e⟩ := Option.ne_none_iff_exists'.1 hb
   exact hx.core.lt b x e
  refine (Below.heap_setCell w' ⟨d.bM, j, none⟩ v b fun e => ?_).trans (hg.block b hlt fun e => hb (hu b e.symm).1)
  have e : b = d.bM := e
  rw [e] at hb
  exact hb h.nM
theorem MFX.pushE (h : MF B w0 σ κ d w) (hx : MX B σ L g κ d w) (e : EvD) {a' : Option Addr} {c' : Nat} (hrow : w'.ownsRow B 72 11 (.slice a' (d.evs.length + 1) c') (d.evs.length + 1) (d.evs.flatMap EvD.cells ++ e.cells)) (hg : w.grownBy w' (Value.slice d.AE d.evs.length d.cE).ownBlock) (hnew : ∀ b, (Value.slice a' (d.evs.length + 1) c').ownBlock = some b → (Value.slice d.AE d.evs.length d.cE).ownBlock = some b ∨ w.heap.size ≤ b) :
  ∃ κ' : Nat → Nat, MF B w0 σ κ' { d with AE := a', cE := c', evs := d.evs ++ [e] } (w'.setCell ⟨d.bM, 6, none⟩ (.slice a' (d.evs.length + 1) c')) ∧ MX B σ L g κ' { d with AE := a', cE := c', evs := d.evs ++ [e] } (w'.setCell ⟨d.bM, 6, none⟩ (.slice a' (d.evs.length + 1) c')) := by
 obtain ⟨κ', h1, h2, _⟩ := h.pushE (fun b hb => hx.core.none3 hb) e hrow hg hnew
 exact ⟨κ', h2, (push_mx h hx (.inl rfl) h.nE hg h1).to rfl fun _ _ h => h⟩
theorem MFX.pushR (h : MF B w0 σ κ d w) (hx : MX B σ L g κ d w) (ys : List Value) {a' : Option Addr} {c' : Nat} (hrow : w'.ownsRow B 97 7 (.slice a' (d.nR + 1) c') (d.nR + 1) (d.xs ++ ys)) (hg : w.grownBy w' (Value.slice d.AR d.nR d.cR).ownBlock) (hnew : ∀ b, (Value.slice a' (d.nR + 1) c').ownBlock = some b → (Value.slice d.AR d.nR d.cR).ownBlock = some b ∨ w.heap.size ≤ b) :
  ∃ κ' : Nat → Nat, MF B w0 σ κ' { d with AR := a', nR := d.nR + 1, cR := c', xs := d.xs ++ ys } (w'.setCell ⟨d.bM, 7, none⟩ (.slice a' (d.nR + 1) c')) ∧ MX B σ L g κ' { d with AR := a', nR := d.nR + 1, cR := c', xs := d.xs ++ ys } (w'.setCell ⟨d.bM, 7, none⟩ (.slice a' (d.nR + 1) c')) := by
 obtain ⟨κ', h1, h2, _⟩ := h.pushR (fun b hb => hx.core.none3 hb) ys hrow hg hnew
 exact ⟨κ', h2, (push_mx h hx (.inr rfl) h.nR hg h1).to rfl fun _ _ h => h⟩
theorem MFX.quiet (h : MF B w0 σ κ d w) (hx : MX B σ L g κ d w) (F : FM (fun _ => False) σ w σ' w') (hc : Core σ' L w') : MF B w0 σ' κ d w' ∧ MX B σ' L g κ d w' :=
 ⟨h.keep F fun b h => h.elim, hx.keep F (fun b h => h.elim) hc⟩
theorem MFX.alloc (h : MF B w0 σ κ d w) (hx : MX B σ L g κ d w) (o : Obj) : MF B w0 σ κ d (w.alloc o) ∧ MX B σ L g κ d (w.alloc o) := MFX.quiet h hx (FM.alloc _ _ _ _) (hx.core.alloc o)
theorem MFX.drew (h : MF B w0 σ κ d w) (hx : MX B σ L g κ d w) : MF B w0 σ κ d w.drew ∧ MX B σ L g κ d w.drew := MFX.quiet h hx (FM.drew _ _ _) hx.core.drew
theorem MFX.beg (h : MF B w0 σ κ d w) (hx : MX B σ L g κ d w) {i be L' : Nat} (hi : i < d.nT) (h1 : w.heap.size ≤ be) (h2 : L ≤ L') (h3 : EX d.t.bm be σ' L' 0 w') (h4 : TAt σ' w' d.t) (h5 : FM (fun b => b = d.t.bm ∨ b = d.t.bo) σ w σ' w') :
  ∃ κ', MF B w0 σ' κ' { d with exs := d.exs.set i (some be) } (w'.setCell ⟨d.bx, i, none⟩ (.pointer (some ⟨be, 0, none⟩))) ∧ MX B σ' L' g κ' { d with exs := d.exs.set i (some be) } (w'.setCell ⟨d.bx, i, none⟩ (.pointer (some ⟨be, 0, none⟩))) := by
 obtain ⟨κ1, hk, hkb⟩ : ∃ κ1 : Nat → Nat, (∀ b, b < w.heap.size → κ1 b = κ b) ∧ κ1 be = 10 + i := ⟨fun b => if b = be then 10 + i else κ b, fun b hb => by
  show (if b = be then _ else _) = _
  rw [if_neg (by omega)], by show (if be = be then _ else _) = _; rw [if_pos rfl]⟩
 have hf1 := h.kap hk
 have hx1 := hx.kap hk
 have hS : ∀ b, (b = d.t.bm ∨ b = d.t.bo) → B ≤ b ∧ ¬ fixK (κ1 b) := by
  rintro b (e | e) <;> subst e
  ·rw [hx1.km]; unfold fixK; exact ⟨hx.gm, by omega⟩
  ·rw [hx1.ko]; unfold fixK; exact ⟨hx.go, by omega⟩
 have hf2 := hf1.keep h5 hS
 have hxl : d.exs.length = d.nT := h.lx
 have hx2 : MX B σ' L' g κ1 { d with exs := d.exs.set i (some be) } w' := by
  refine ⟨h3.core, h3.mem, h4, hx1.km, hx1.kt, hx1.ko, hx.gm, hx.gt, hx.go, fun j b hb => ?_⟩
  have hb : (d.exs.set i (some be))[j]? = some (some b) := hb
  by_cases e : i = j
  ·subst e
   rw [List.getElem?_set_self (by omega)] at hb
   injection hb with hb
   injection hb with hb
   subst hb
   exact ⟨h3.ge (Nat.zero_le _), hkb, by have := h.size; omega⟩
  ·rw [List.getElem?_set_ne e] at hb
   obtain ⟨g1, g2, g3⟩ := hx1.ex j b hb
   refine ⟨g1.other h3.core h3.mem h2 h5.sg (h5.non g1.lt.1 g1.lt.2) (h5.old b g1.lt.1 g1.lt.2 fun hs => ?_), g2, g3⟩
   rcases hs with e | e
   ·have q := hx1.km; rw [← e] at q; omega
   ·have q := hx1.ko; rw [← e] at q; omega
 have hne := hf2.nes
 have ho : OnB (Tv.four { d with exs := d.exs.set i (some be) }) w' (w'.setCell ⟨d.bx, i, none⟩ (.pointer (some ⟨be, 0, none⟩))) := (OnB.refl _ w').set (p := ⟨d.bx, i, none⟩) (.inl (.inr (.inr (.inl rfl)))) _
 obtain ⟨e1, e2, e3, e4, e5, e6⟩ := hne
 refine ⟨_, hf2.upd d.pk d.cur d.most d.ats d.bys (d.exs.set i (some be)) hf2.la (by simp [hxl]) hf2.ly ho ?_ ?_ ?_ ?_, ?_⟩
 ·exact set_other hf2.M e2
 ·exact set_other hf2.A e4
 ·have := blk_setW (i := i) hf2.X (.pointer (some ⟨be, 0, none⟩))
  rw [this]
  congr 2
  apply Array.ext'
  simp [exP, List.map_set]
 ·exact set_other hf2.Y e6.symm
 ·refine hx2.keep ho.fm (fun b hb => ?_) (hx2.core.on ho fun b hb => ?_)
  ·have := (hf2.four (b := b) hb).2.2; omega
  ·exact (hf2.four (b := b) hb).1
end
theorem cntT_app {l : List EvD} {e : EvD} {i : Nat} (h : i ≤ l.length) (t : Int) : cntT (l ++ [e]) i t = cntT l i t := by
 unfold cntT
 rw [List.take_append_of_le_length h]
theorem cntT_end (l : List EvD) (e : EvD) (t : Int) : cntT (l ++ [e]) (l ++ [e]).length t = cntT l l.length t + (if e.thread = t then 1 else 0) := by
 have : (l ++ [e]).length = l.length + 1 := by simp
 rw [this, cntT_succ (e := e) (by simp), cntT_app (Nat.le_refl _)]
theorem evok_app {ops : List Nat} {l : List EvD} {e x : EvD} {i : Nat} (hi : i ≤ l.length) (h : EvOk ops l i x) : EvOk ops (l ++ [e]) i x := by
 obtain ⟨h1, h2, h3, h4, h5, h6⟩ := h
 exact ⟨h1, h2, by rw [cntT_app hi]; exact h3, fun n hn => by rw [cntT_app hi]; exact h4 n hn, by rw [cntT_app hi]; exact h5, h6⟩
theorem proper_snoc {ops : List Nat} {l : List EvD} {e : EvD} (h : ProperP ops l) (he : EvOk ops l l.length e) : ProperP ops (l ++ [e]) := by
 intro i x hx
 rw [List.getElem?_append] at hx
 split at hx
 ·rename_i hi
  exact evok_app (by omega) (h i x hx)
 ·rename_i hi
  have hi0 : i - l.length = 0 := by
   have := (List.getElem?_eq_some_iff.1 hx).1
   simp at this
   omega
  rw [hi0] at hx
  simp only [List.getElem?_cons_zero, Option.some.injEq] at hx
  subst hx
  have : i = l.length := by omega
  subst this
  exact evok_app (Nat.le_refl _) he
theorem EvI.beg {ts : List (List OpD)} {d d' : MD} (h : EvI ts d) {i k be : Nat} {t : List OpD} (ha : d.ats[i]? = some (k : Int)) (hn : d.exs[i]? = some none) (ht : ts[i]? = some t) (hk : k < t.length) (e1 : d'.nT = d.nT) (e2 : d'.ats = d.ats) (e3 : d'.exs = d.exs.set i (some be)) (e4 : d'.evs = d.evs ++ [⟨i, k, false, ResF.zero⟩]) : EvI ts d' := by
 have hc := h.cnt i k ha
 rw [hn] at hc
 have hil : i < d.exs.length := (List.getElem?_eq_some_iff.1 hn).1
 refine ⟨by rw [e1]; exact h.n, ?_, ?_, ?_, ?_⟩
 ·intro j a hj
  rw [e2] at hj
  rw [e4, e3, cntT_end]
  have := h.cnt j a hj
  by_cases e : i = j
  ·subst e
   rw [hn] at this
   rw [List.getElem?_set_self hil]
   simp only [if_pos]
   simp only at this
   push_cast
   omega
  ·rw [List.getElem?_set_ne e]
   rw [if_neg (by simp only; omega)]
   simpa using this
 ·rw [e4]
  refine proper_snoc h.prop ⟨by simp, ?_, ?_, ?_, ?_, fun _ => rfl⟩
  ·have := (List.getElem?_eq_some_iff.1 ht).1
   simp only [List.length_map]
   omega
  ·simp only at hc ⊢
   omega
  ·intro n hn'
   simp only [Int.toNat_natCast, List.getElem?_map, ht, Option.map_some, Option.some.injEq] at hn'
   simp only at hc ⊢
   omega
  ·simp only at hc ⊢
   have : cntT d.evs d.evs.length (i : Int) % 2 = 0 := by omega
   simp [this]
 ·intro j a hj
  rw [e2] at hj
  obtain ⟨k', t', q1, q2, q3, q4⟩ := h.ats j a hj
  refine ⟨k', t', q1, q2, q3, fun hb => ?_⟩
  rw [e3, List.getElem?_set] at hb
  by_cases e : i = j
  ·subst e
   rw [ht] at q2
   injection q2 with q2
   subst q2
   rw [ha] at hj
   injection hj with hj
   omega
  ·rw [if_neg e] at hb
   exact q4 hb
 ·intro x hx
  rw [e4] at hx
  rcases List.mem_append.1 hx with hx | hx
  ·exact h.res x hx
  ·simp only [List.mem_singleton] at hx
   subst hx
   have z64 : InR .i64 0 := ⟨by rw [i64_min]; omega, by rw [i64_max]; omega⟩
   have zu : InR .u64 0 := ⟨by rw [u64_min]; omega, by rw [u64_max]; omega⟩
   exact ⟨z64, zu, (by show (0 : Nat) ≤ strMax; decide), z64, z64, z64⟩
theorem EvI.fin {ts : List (List OpD)} {d d' : MD} (h : EvI ts d) {i k be : Nat} {t : List OpD} (ha : d.ats[i]? = some (k : Int)) (hn : d.exs[i]? = some (some be)) (ht : ts[i]? = some t) (hk : k < t.length) (r : ResF) (hr : InR .i64 r.err ∧ InR .u64 r.value ∧ r.key.size ≤ strMax ∧ InR .i64 r.count ∧ InR .i64 r.ref ∧ InR .i64 r.root)
  (e1 : d'.nT = d.nT) (e2 : d'.ats = d.ats.set i (k + 1)) (e3 : d'.exs = d.exs.set i none) (e4 : d'.evs = d.evs ++ [⟨i, k, true, r⟩]) : EvI ts d' := by
 have hc := h.cnt i k ha
 rw [hn] at hc
 have hil : i < d.exs.length := (List.getElem?_eq_some_iff.1 hn).1
 have hia : i < d.ats.length := (List.getElem?_eq_some_iff.1 ha).1
 refine ⟨by rw [e1]; exact h.n, ?_, ?_, ?_, ?_⟩
 ·intro j a hj
  rw [e2] at hj
  rw [e4, e3, cntT_end]
  by_cases e : i = j
  ·subst e
   rw [List.getElem?_set_self hia] at hj
   injection hj with hj
   rw [List.getElem?_set_self hil]
   simp only [if_pos]
   simp only at hc
   push_cast
   omega
  ·rw [List.getElem?_set_ne e] at hj ⊢
   have := h.cnt j a hj
   rw [if_neg (by simp only; omega)]
   simpa using this
 ·rw [e4]
  refine proper_snoc h.prop ⟨by simp, ?_, ?_, ?_, ?_, fun h => by cases h⟩
  ·have := (List.getElem?_eq_some_iff.1 ht).1
   simp only [List.length_map]
   omega
  ·simp only at hc ⊢
   omega
  ·intro n hn'
   simp only [Int.toNat_natCast, List.getElem?_map, ht, Option.map_some, Option.some.injEq] at hn'
   simp only at hc ⊢
   omega
  ·simp only at hc ⊢
   have : cntT d.evs d.evs.length (i : Int) % 2 = 1 := by omega
   simp [this]
 ·intro j a hj
  rw [e2] at hj
  by_cases e : i = j
  ·subst e
   rw [List.getElem?_set_self hia] at hj
   injection hj with hj
   refine ⟨k + 1, t, by rw [← hj]; push_cast; rfl, ht, hk, fun hb => ?_⟩
   rw [e3, List.getElem?_set_self hil] at hb
   obtain ⟨b, hb⟩ := hb
   cases hb
  ·rw [List.getElem?_set_ne e] at hj
   obtain ⟨k', t', q1, q2, q3, q4⟩ := h.ats j a hj
   refine ⟨k', t', q1, q2, q3, fun hb => ?_⟩
   rw [e3, List.getElem?_set_ne e] at hb
   exact q4 hb
 ·intro x hx
  rw [e4] at hx
  rcases List.mem_append.1 hx with hx | hx
  ·exact h.res x hx
  ·simp only [List.mem_singleton] at hx
   subst hx
   exact hr
section
variable {B : Nat} {w0 w w' : World} {σ σ' : Sg} {κ κ' : Nat → Nat} {d : MD} {L g : Nat}
theorem set_map {α : Type} (l : List α) (f : α → Value) (i : Nat) (a : α) : (l.map f).toArray.setIfInBounds i (f a) = ((l.set i a).map f).toArray := by
 apply Array.ext'
 simp [List.map_set]
theorem MFX.end (h : MF B w0 σ κ d w) (hx : MX B σ L g κ d w) {i : Nat} (a : Int) : MF B w0 σ κ { d with ats := d.ats.set i a, exs := d.exs.set i none } ((w.setCell ⟨d.bx, i, none⟩ (.pointer none)).setCell ⟨d.ba, i, none⟩ (.int .i64 a)) ∧ MX B σ L g κ { d with ats := d.ats.set i a, exs := d.exs.set i none } ((w.setCell ⟨d.bx, i, none⟩ (.pointer none)).setCell ⟨d.ba, i, none⟩ (.int .i64 a)) := by
 have ho : OnB (Tv.four d) w ((w.setCell ⟨d.bx, i, none⟩ (.pointer none)).setCell ⟨d.ba, i, none⟩ (.int .i64 a)) := ((OnB.refl _ w).set (p := ⟨d.bx, i, none⟩) (.inl (.inr (.inr (.inl rfl)))) _).set (p := ⟨d.ba, i, none⟩) (.inl (.inr (.inl rfl))) _
 obtain ⟨e1, e2, e3, e4, e5, e6⟩ := h.nes
 refine ⟨h.upd d.pk d.cur d.most (d.ats.set i a) d.bys (d.exs.set i none) (by simp [h.la]) (by simp [h.lx]) h.ly ho ?_ ?_ ?_ ?_, (hx.on h ho).to rfl fun j b hb => ?_⟩
 ·exact set_other (set_other h.M e2) e1
 ·have := blk_setW (i := i) (set_other (b := d.bx) (i := i) (v := .pointer none) h.A e4) (.int .i64 a)
  rw [this, set_map]
 ·have := blk_setW (i := i) h.X (exP none)
  rw [set_map] at this
  exact set_other this e4.symm
 ·exact set_other (set_other h.Y e6.symm) e5.symm
 ·have hb : (d.exs.set i none)[j]? = some (some b) := hb
  by_cases e : i = j
  ·subst e
   rw [List.getElem?_set] at hb
   rw [if_pos rfl] at hb
   split at hb <;> simp at hb
  ·rwa [List.getElem?_set_ne e] at hb
theorem MFX.by (h : MF B w0 σ κ d w) (hx : MX B σ L g κ d w) {i : Nat} (a : Int) : MF B w0 σ κ { d with bys := d.bys.set i a } (w.setCell ⟨d.bb, i, none⟩ (.int .i64 a)) ∧ MX B σ L g κ { d with bys := d.bys.set i a } (w.setCell ⟨d.bb, i, none⟩ (.int .i64 a)) := by
 have ho : OnB (Tv.four d) w (w.setCell ⟨d.bb, i, none⟩ (.int .i64 a)) := (OnB.refl _ w).set (p := ⟨d.bb, i, none⟩) (.inl (.inr (.inr (.inr rfl)))) _
 obtain ⟨e1, e2, e3, e4, e5, e6⟩ := h.nes
 refine ⟨h.upd d.pk d.cur d.most d.ats (d.bys.set i a) d.exs h.la h.lx (by simp [h.ly]) ho (set_other h.M e3) (set_other h.A e5) (set_other h.X e6) ?_, (hx.on h ho).to rfl fun _ _ h => h⟩
 have := blk_setW (i := i) h.Y (.int .i64 a)
 rw [set_map] at this
 exact this
theorem MFX.most (h : MF B w0 σ κ d w) (hx : MX B σ L g κ d w) (v : Int) : MF B w0 σ κ { d with most := v } (w.setCell ⟨d.bM, 11, none⟩ (.int .i64 v)) ∧ MX B σ L g κ { d with most := v } (w.setCell ⟨d.bM, 11, none⟩ (.int .i64 v)) := by
 have ho : OnB (Tv.four d) w (w.setCell ⟨d.bM, 11, none⟩ (.int .i64 v)) := (OnB.refl _ w).set (p := ⟨d.bM, 11, none⟩) (.inl (.inl rfl)) _
 obtain ⟨e1, e2, e3, e4, e5, e6⟩ := h.nes
 exact ⟨h.upd d.pk d.cur v d.ats d.bys d.exs h.la h.lx h.ly ho (blk_setW (i := 11) h.M (.int .i64 v)) (set_other h.A e1.symm) (set_other h.X e2.symm) (set_other h.Y e3.symm), (hx.on h ho).to rfl fun _ _ h => h⟩
theorem MFX.most0 (h : MF B w0 σ κ d w) (hx : MX B σ L g κ d w) (v : Int) : MF B w0 σ κ { d with cur := 0, most := v } ((w.setCell ⟨d.bM, 11, none⟩ (.int .i64 v)).setCell ⟨d.bM, 10, none⟩ (.int .i64 0)) ∧ MX B σ L g κ { d with cur := 0, most := v } ((w.setCell ⟨d.bM, 11, none⟩ (.int .i64 v)).setCell ⟨d.bM, 10, none⟩ (.int .i64 0)) := by
 have ho : OnB (Tv.four d) w ((w.setCell ⟨d.bM, 11, none⟩ (.int .i64 v)).setCell ⟨d.bM, 10, none⟩ (.int .i64 0)) := ((OnB.refl _ w).set (p := ⟨d.bM, 11, none⟩) (.inl (.inl rfl)) _).set (p := ⟨d.bM, 10, none⟩) (.inl (.inl rfl)) _
 obtain ⟨e1, e2, e3, e4, e5, e6⟩ := h.nes
 exact ⟨h.upd d.pk 0 v d.ats d.bys d.exs h.la h.lx h.ly ho (blk_setW (i := 10) (blk_setW (i := 11) h.M (.int .i64 v)) (.int .i64 0)) (set_other (set_other h.A e1.symm) e1.symm) (set_other (set_other h.X e2.symm) e2.symm) (set_other (set_other h.Y e3.symm) e3.symm), (hx.on h ho).to rfl fun _ _ h => h⟩
theorem alloc_at (W : World) (cs : Array Value) (T : TypeId) {j : Nat} {x : Value} (h : cs.toList[j]? = some x) : (W.alloc (.cells cs T)).cell? ((⟨W.heap.size, 0, none⟩ : Addr).add j) = some x := by
 have e : (⟨W.heap.size, 0, none⟩ : Addr).add j = ⟨W.heap.size, j, none⟩ := by simp [Addr.add]; intro h; exact h.symm
 rw [e, blk_cell (heap_alloc W (.cells cs T)).1]
 simpa using h
theorem ev_one (e : EvD) : ∀ x ∈ e.cells, x.oneCell' = true := by
 intro x hx
 simp only [EvD.cells, ResF.cells, List.mem_cons, List.not_mem_nil, or_false] at hx
 rcases hx with rfl | rfl | rfl | rfl | rfl | rfl | rfl | rfl | rfl | rfl | rfl <;> rfl
theorem MF.grown (h : MF B w0 σ κ d w) {u : Value} {code : Nat} (hc : code = 8 ∨ code = 9) (hu : ∀ b, u.ownBlock = some b → σ b = none ∧ κ b = code) (hg : w.grownBy w' u.ownBlock) : w'.heap[d.bM]? = w.heap[d.bM]? :=
 hg.block _ (Array.getElem?_eq_some_iff.1 h.M).1 fun e => by
  have := (hu _ e.symm).2
  rw [h.kM] at this
  omega
end
theorem MF.afterBeg {B : Nat} {w0 w w' : World} {σ σ' : Sg} {κ : Nat → Nat} {d : MD} {L g : Nat} (h : MF B w0 σ κ d w) (hx : MX B σ L g κ d w) (h5 : FM (fun b => b = d.t.bm ∨ b = d.t.bo) σ w σ' w') : MF B w0 σ' κ d w' :=
 h.keep h5 fun b hb => by
  unfold fixK
  rcases hb with e | e <;> subst e
  ·rw [hx.km]; exact ⟨hx.gm, by omega⟩
  ·rw [hx.ko]; exact ⟨hx.go, by omega⟩
def PkS (bM bt : Nat) (bT oT nT cT bx bO oO tl cu i k : Nat) (o : OpD) (W : World) : Prop :=
 W.cell? ⟨bM, 1, none⟩ = some (.slice (some ⟨bT, oT, none⟩) nT cT) ∧ W.cell? ⟨bM, 3, none⟩ = some (.pointer (some ⟨bt, 0, none⟩)) ∧ W.cell? ⟨bM, 5, none⟩ = some (.slice (some ⟨bx, 0, none⟩) nT nT) ∧ W.cell? ⟨bT, oT + i, none⟩ = some (.slice (some ⟨bO, oO, none⟩) tl cu) ∧
 W.cell? ⟨bO, oO + k * 5, none⟩ = some (.int .i64 o.kind) ∧ W.cell? ⟨bO, oO + k * 5 + 1, none⟩ = some (.int .i64 o.handle) ∧ W.cell? ⟨bO, oO + k * 5 + 2, none⟩ = some (.string o.key) ∧ W.cell? ⟨bO, oO + k * 5 + 3, none⟩ = some (.int .u64 o.value) ∧ W.cell? ⟨bO, oO + k * 5 + 4, none⟩ = some (.int .u64 o.expect)
theorem below_fm {σ : Sg} {w w' : World} (h : Below w.heap.size w w') : FM (fun _ => False) σ w σ w' := ⟨h.os, h.tape, h.output, h.size, Le.refl _, fun _ _ h => .inl h, fun b h1 _ _ => h.block b h1⟩
theorem MFX.below {B : Nat} {w0 w w' : World} {σ : Sg} {κ : Nat → Nat} {d : MD} {L g : Nat} (h : MF B w0 σ κ d w) (hx : MX B σ L g κ d w) (hb : Below w.heap.size w w') : MF B w0 σ κ d w' ∧ MX B σ L g κ d w' :=
 MFX.quiet h hx (below_fm hb) (hx.core.same hb.size fun b h1 => by
  obtain ⟨x, e⟩ := Option.ne_none_iff_exists'.1 h1
  exact hb.block b (hx.core.lt b x e))
def PkTr (B : Nat) (w0 : World) (ts : List (List OpD)) (d : MD) (L g i be : Nat) (k : Int) (wx : World) : Prop :=
 ∃ (d' : MD) (σ' : Sg) (κ' : Nat → Nat), MF B w0 σ' κ' d' wx ∧ MX B σ' L g κ' d' wx ∧ EvI ts d' ∧ Stat d d' ∧ d'.evs.length ≤ d.evs.length ∧ d'.nR ≤ d.nR + 1 ∧ d'.exs[i]? = some (some be) ∧ d'.ats[i]? = some k
theorem en_one (e0 e1 e2 e3 e4 e5 : Int) (b : Bool) : ∀ x ∈ [Value.int .i64 e0, .int .i64 e1, .int .i64 e2, .int .i64 e3, .int .i64 e4, .int .i64 e5, .bool b], x.oneCell' = true := by
 intro x hx
 simp only [List.mem_cons, List.not_mem_nil, or_false] at hx
 rcases hx with rfl | rfl | rfl | rfl | rfl | rfl | rfl <;> rfl
def PkR (B : Nat) (w0 : World) (d : MD) (L g : Nat) (v8 : Value) (wx : World) : Prop :=
 ∃ (P : Nat) (σ : Sg) (κ : Nat → Nat) (r0 r2 r4 r5 r6 : Int) (r1 r7 : Bool) (r3 : ByteArray), v8 = .pointer (some ⟨P, 0, none⟩) ∧ wx.heap[P]? = some (.cells #[.int .i64 r0, .bool r1, .int .u64 r2, .string r3, .int .i64 r4, .int .i64 r5, .int .i64 r6, .bool r7] 56 (0, 0)) ∧ RsOk r0 r2 r3 r4 r5 r6 ∧ MF B w0 σ κ d wx ∧ MX B σ L g κ d wx
def PkE (B : Nat) (w0 : World) (d : MD) (L g i : Nat) (k : Int) (wx : World) : Prop :=
 ∃ (d' : MD) (σ : Sg) (κ : Nat → Nat) (r : ResF), MF B w0 σ κ d' wx ∧ MX B σ L g κ d' wx ∧ (InR .i64 r.err ∧ InR .u64 r.value ∧ r.key.size ≤ strMax ∧ InR .i64 r.count ∧ InR .i64 r.ref ∧ InR .i64 r.root) ∧ Stat d d' ∧ d'.ba = d.ba ∧ d'.bx = d.bx ∧ d'.ats = d.ats ∧ d'.exs = d.exs ∧ d'.evs = d.evs ++ [⟨i, k, true, r⟩] ∧ d'.nR = d.nR
theorem belowA {a w : World} (h : Below a.heap.size a w) (o : Obj) : Below a.heap.size a (w.alloc o) := h.alloc h.size o
def PkMid (B : Nat) (w0 : World) (ts : List (List OpD)) (d : MD) (L g i : Nat) (k : Int) (wx : World) : Prop :=
 ∃ (d' : MD) (σ' : Sg) (κ' : Nat → Nat) (L' be : Nat), MF B w0 σ' κ' d' wx ∧ MX B σ' L' (g + 1) κ' d' wx ∧ EvI ts d' ∧ Stat d d' ∧ L ≤ L' ∧ L' ≤ L + 300000 ∧ d'.evs.length ≤ d.evs.length + 1 ∧ d'.nR ≤ d.nR + 1 ∧ d'.exs[i]? = some (some be) ∧ d'.ats[i]? = some k
def PkEnd (B : Nat) (w0 : World) (ts : List (List OpD)) (d : MD) (L g : Nat) (wx : World) : Prop :=
 ∃ (d' : MD) (σ' : Sg) (κ' : Nat → Nat) (L' : Nat), MF B w0 σ' κ' d' wx ∧ MX B σ' L' (g + 1) κ' d' wx ∧ EvI ts d' ∧ Stat d d' ∧ L ≤ L' ∧ L' ≤ L + 300000 ∧ d'.evs.length ≤ d.evs.length + 2 ∧ d'.nR ≤ d.nR + 1
structure WkD where
 b : Bool
 A : Option Addr
 n : Nat
 c : Nat
 A2 : Option Addr
 n2 : Nat
 c2 : Nat
def PkZ (B : Nat) (w0 : World) (d : MD) (L g : Nat) (Z : Option Nat) (k : Option WkD) (W : World) : Prop :=
 ∃ (σ : Sg) (κ : Nat → Nat), MF B w0 σ κ d W ∧ MX B σ L g κ d W ∧ (∀ P, Z = some P → P < W.heap.size ∧ σ P = none ∧ κ P = 0 ∧ B ≤ P ∧ ∃ cs, cs.size = 8 ∧ W.heap[P]? = some (.cells cs 56 (0, 0))) ∧
  (∀ x, k = some x → x.n ≤ L ∧ SlOk tab σ 168 x.A x.n x.c ∧ x.n2 ≤ L ∧ SlOk tab σ 139 x.A2 x.n2 x.c2)
section
variable {B : Nat} {w0 W : World} {d : MD} {L g : Nat} {Z : Option Nat} {k : Option WkD}
theorem PkZ.cells (h : PkZ B w0 d L g Z k W) {i be : Nat} (hx : d.exs[i]? = some (some be)) {bM nT : Nat} (e1 : d.bM = bM) (e2 : d.nT = nT) : W.cell? ⟨bM, 3, none⟩ = some (.pointer (some ⟨d.t.bt, 0, none⟩)) ∧ W.cell? ⟨bM, 5, none⟩ = some (.slice (some ⟨d.bx, 0, none⟩) nT nT) ∧ W.cell? ⟨d.bx, i, none⟩ = some (.pointer (some ⟨be, 0, none⟩)) := by
 obtain ⟨σ, κ, hf, _⟩ := h
 obtain ⟨_, m3, _, m5, _⟩ := hf.cM W rfl
 rw [e1] at m3 m5
 rw [e2] at m5
 exact ⟨m3, m5, hf.cX hx W rfl⟩
theorem PkZ.alloc (h : PkZ B w0 d L g none k W) {cs : Array Value} (hs : cs.size = 8) : PkZ B w0 d L g (some W.heap.size) k (W.alloc (.cells cs 56)) := by
 obtain ⟨σ, κ, hf, hx, _, hk⟩ := h
 have ka : ∀ b, b < W.heap.size → (fun b => if b = W.heap.size then 0 else κ b) b = κ b := fun b hb => by
  show (if b = W.heap.size then _ else _) = _
  rw [if_neg (by omega)]
 obtain ⟨hf2, hx2⟩ := MFX.alloc (hf.kap ka) (hx.kap ka) (.cells cs 56)
 refine ⟨σ, _, hf2, hx2, fun P hP => ?_, hk⟩
 injection hP with hP
 subst hP
 exact ⟨by simp, hx.core.new, by simp, hf.size, cs, hs, (heap_alloc W _).1⟩
theorem PkZ.step {i be : Nat} {σ σ' : Sg} {κ : Nat → Nat} {w' : World} (hi : d.exs[i]? = some (some be)) (hf : MF B w0 σ κ d W) (hx : MX B σ L g κ d W) (hZ : ∀ P, Z = some P → P < W.heap.size ∧ σ P = none ∧ κ P = 0 ∧ B ≤ P ∧ ∃ cs, cs.size = 8 ∧ W.heap[P]? = some (.cells cs 56 (0, 0)))
  (hex : EX d.t.bm be σ' L g w') (hF : HF d.t.bm be σ W σ' w') : MF B w0 σ' κ d w' ∧ MX B σ' L g κ d w' ∧ (∀ P, Z = some P → P < w'.heap.size ∧ σ' P = none ∧ κ P = 0 ∧ B ≤ P ∧ ∃ cs, cs.size = 8 ∧ w'.heap[P]? = some (.cells cs 56 (0, 0))) := by
 refine ⟨hf.run hx hi hF, hx.run hi hex (Nat.le_refl _) (Nat.le_refl _) hF, fun P hP => ?_⟩
 obtain ⟨h1, h2, h3, hBP, cs, h4, h5⟩ := hZ P hP
 have F := hF.fm
 refine ⟨Nat.lt_of_lt_of_le h1 F.size, F.non h1 h2, h3, hBP, cs, h4, (F.old P h1 h2 fun hs => ?_).trans h5⟩
 rcases hs with e | e
 ·have := hx.km; rw [← e] at this; omega
 ·have := (hx.ex i be hi).2.1; rw [← e] at this; omega
theorem PkZ.result (h : PkZ B w0 d L g Z k W) {i be : Nat} (hi : d.exs[i]? = some (some be)) (hL : L ≤ 137438000000) :
  Calls Tryz.prog 48 #[.pointer (some ⟨be, 0, none⟩)] W fun e w' => ∃ (r0 r2 r4 r5 r6 : Int) (r1 r7 : Bool) (r3 : ByteArray), e = .returned (.agg #[.int .i64 r0, .bool r1, .int .u64 r2, .string r3, .int .i64 r4, .int .i64 r5, .int .i64 r6, .bool r7]) ∧ RsOk r0 r2 r3 r4 r5 r6 ∧ PkZ B w0 d L g Z k w' := by
 obtain ⟨σ, κ, hf, hx, hZ, hk⟩ := h
 refine (result_x (hx.ex i be hi).1 hL).mono ?_
 rintro e w' ⟨σ', hex, hF, r0, r2, r4, r5, r6, r1, r7, r3, rfl, hr⟩
 obtain ⟨q1, q2, q3⟩ := PkZ.step hi hf hx hZ hex hF
 exact ⟨r0, r2, r4, r5, r6, r1, r7, r3, rfl, hr, σ', κ, q1, q2, q3, fun x hx => by
  obtain ⟨k1, k2, k3, k4⟩ := hk x hx
  exact ⟨k1, k2.mono hF.sg, k3, k4.mono hF.sg⟩⟩
theorem PkZ.walk (h : PkZ B w0 d L g Z k W) {i be : Nat} (hi : d.exs[i]? = some (some be)) (hL : L ≤ 137438000000) :
  Calls Tryz.prog 49 #[.pointer (some ⟨be, 0, none⟩)] W fun e w' => ∃ x : WkD, e = .returned (.agg #[.bool x.b, .slice x.A x.n x.c, .slice x.A2 x.n2 x.c2]) ∧ PkZ B w0 d L g Z (some x) w' := by
 obtain ⟨σ, κ, hf, hx, hZ, hk⟩ := h
 refine (walk_x (hx.ex i be hi).1 hL).mono ?_
 rintro e w' ⟨σ', hex, hF, st, A, n, c, A2, n2, c2, rfl, q1, q2, q3, q4⟩
 obtain ⟨p1, p2, p3⟩ := PkZ.step hi hf hx hZ hex hF
 exact ⟨⟨st, A, n, c, A2, n2, c2⟩, rfl, σ', κ, p1, p2, p3, fun x hx => by
  injection hx with hx
  subst hx
  exact ⟨q1, q2, q3, q4⟩⟩
theorem PkZ.finish {x : WkD} (h : PkZ B w0 d L g Z (some x) W) (th ix : Int) (t0 : 0 ≤ th) (t1 : th < 8) (i0 : 0 ≤ ix) (i1 : ix < 16) {r0 r2 r4 r5 r6 : Int} {r1 r7 : Bool} {r3 : ByteArray} (hr : RsOk r0 r2 r3 r4 r5 r6) :
  Calls Tryz.prog 47 #[.pointer (some ⟨d.t.bt, 0, none⟩), .int .i64 th, .int .i64 ix, .agg #[.int .i64 r0, .bool r1, .int .u64 r2, .string r3, .int .i64 r4, .int .i64 r5, .int .i64 r6, .bool r7], .agg #[.bool x.b, .slice x.A x.n x.c, .slice x.A2 x.n2 x.c2]] W fun e w' =>
   ∃ (s0 s2 s4 s5 s6 : Int) (s1 s7 : Bool) (s3 : ByteArray), e = .returned (.agg #[.int .i64 s0, .bool s1, .int .u64 s2, .string s3, .int .i64 s4, .int .i64 s5, .int .i64 s6, .bool s7]) ∧ RsOk s0 s2 s3 s4 s5 s6 ∧ PkZ B w0 d L g Z none w' := by
 obtain ⟨σ, κ, hf, hx, hZ, hk⟩ := h
 obtain ⟨k1, k2, k3, k4⟩ := hk x rfl
 refine (finish_h (r1 := r1) (r7 := r7) (st := x.b) hx.core hx.tat th ix t0 t1 i0 i1 hr k1 k2 k3 k4).mono ?_
 rintro e w' ⟨σ', s0, s2, s4, s5, s6, s1, s7, s3, rfl, hs, hc, _, hF⟩
 obtain ⟨q1, q2⟩ := MFX.quiet hf hx hF hc
 refine ⟨s0, s2, s4, s5, s6, s1, s7, s3, rfl, hs, σ', κ, q1, q2, fun P hP => ?_, fun x hx => by cases hx⟩
 obtain ⟨h1, h2, h3, hBP, cs, h4, h5⟩ := hZ P hP
 exact ⟨Nat.lt_of_lt_of_le h1 hF.size, hF.non h1 h2, h3, hBP, cs, h4, (hF.old P h1 h2 fun h => h).trans h5⟩
theorem PkZ.set {P j : Nat} (h : PkZ B w0 d L g (some P) k W) (v : Value) : PkZ B w0 d L g (some P) k (W.setCell ⟨P, j, none⟩ v) := by
 obtain ⟨σ, κ, hf, hx, hZ, hk⟩ := h
 obtain ⟨h1, h2, h3, hBP, cs, h4, h5⟩ := hZ P rfl
 have F : FM (fun b => b = P) σ W σ (W.setCell ⟨P, j, none⟩ v) := FM.set v (.inr (.inl rfl))
 refine ⟨σ, κ, ?_, ?_, fun P' hP => ?_, hk⟩
 ·exact hf.keep F fun b hb => by subst hb; unfold fixK; exact ⟨hBP, by omega⟩
 ·exact hx.keep F (fun b hb => by subst hb; omega) (hx.core.setOut h2 v)
 ·injection hP with hP
  subst hP
  exact ⟨by simp [World.setCell]; exact h1, h2, h3, hBP, _, by simpa using h4, blk_setW h5 v⟩
theorem cs8 {cs : Array Value} (h : cs.size = 8) : ∃ c0 c1 c2 c3 c4 c5 c6 c7, cs = #[c0, c1, c2, c3, c4, c5, c6, c7] := by
 obtain ⟨l⟩ := cs
 match l, h with
 | [c0, c1, c2, c3, c4, c5, c6, c7], _ => exact ⟨c0, c1, c2, c3, c4, c5, c6, c7, rfl⟩
theorem PkZ.done {P : Nat} (h : PkZ B w0 d L g (some P) none W) {s0 s2 s4 s5 s6 : Int} {s1 s7 : Bool} {s3 : ByteArray} (hs : RsOk s0 s2 s3 s4 s5 s6) : PkR B w0 d L g (.pointer (some ⟨P, 0, none⟩)) (((((((((((((((W.setCell ⟨P, 0, none⟩ (.int .i64 s0))).setCell ⟨P, 1, none⟩ (.bool s1))).setCell ⟨P, 2, none⟩ (.int .u64 s2))).setCell ⟨P, 3, none⟩ (.string s3))).setCell ⟨P, 4, none⟩ (.int .i64 s4))).setCell ⟨P, 5, none⟩ (.int .i64 s5))).setCell ⟨P, 6, none⟩ (.int .i64 s6))).setCell ⟨P, 7, none⟩ (.bool s7)) := by
 have hh := (((((((h.set (j := 0) (.int .i64 s0)).set (j := 1) (.bool s1)).set (j := 2) (.int .u64 s2)).set (j := 3) (.string s3)).set (j := 4) (.int .i64 s4)).set (j := 5) (.int .i64 s5)).set (j := 6) (.int .i64 s6)).set (j := 7) (.bool s7)
 obtain ⟨σ, κ, hf, hx, _, _⟩ := hh
 refine ⟨P, σ, κ, s0, s2, s4, s5, s6, s1, s7, s3, rfl, ?_, hs, hf, hx⟩
 obtain ⟨_, _, _, _, hZ, _⟩ := h
 obtain ⟨_, _, _, _, cs, h4, h0⟩ := hZ P rfl
 obtain ⟨c0, c1, c2, c3, c4, c5, c6, c7, rfl⟩ := cs8 h4
 clear hZ h4 hf hx
 have h1 : (W.setCell ⟨P, 0, none⟩ (.int .i64 s0)).heap[P]? = some (.cells #[.int .i64 s0, c1, c2, c3, c4, c5, c6, c7] 56 (0, 0)) := blk_setW (i := 0) h0 (.int .i64 s0)
 generalize W.setCell ⟨P, 0, none⟩ (.int .i64 s0) = W1 at *
 have h2 : (W1.setCell ⟨P, 1, none⟩ (.bool s1)).heap[P]? = some (.cells #[.int .i64 s0, .bool s1, c2, c3, c4, c5, c6, c7] 56 (0, 0)) := blk_setW (i := 1) h1 (.bool s1)
 generalize W1.setCell ⟨P, 1, none⟩ (.bool s1) = W2 at *
 have h3 : (W2.setCell ⟨P, 2, none⟩ (.int .u64 s2)).heap[P]? = some (.cells #[.int .i64 s0, .bool s1, .int .u64 s2, c3, c4, c5, c6, c7] 56 (0, 0)) := blk_setW (i := 2) h2 (.int .u64 s2)
 generalize W2.setCell ⟨P, 2, none⟩ (.int .u64 s2) = W3 at *
 have h4 : (W3.setCell ⟨P, 3, none⟩ (.string s3)).heap[P]? = some (.cells #[.int .i64 s0, .bool s1, .int .u64 s2, .string s3, c4, c5, c6, c7] 56 (0, 0)) := blk_setW (i := 3) h3 (.string s3)
 generalize W3.setCell ⟨P, 3, none⟩ (.string s3) = W4 at *
 have h5 : (W4.setCell ⟨P, 4, none⟩ (.int .i64 s4)).heap[P]? = some (.cells #[.int .i64 s0, .bool s1, .int .u64 s2, .string s3, .int .i64 s4, c5, c6, c7] 56 (0, 0)) := blk_setW (i := 4) h4 (.int .i64 s4)
 generalize W4.setCell ⟨P, 4, none⟩ (.int .i64 s4) = W5 at *
 have h6 : (W5.setCell ⟨P, 5, none⟩ (.int .i64 s5)).heap[P]? = some (.cells #[.int .i64 s0, .bool s1, .int .u64 s2, .string s3, .int .i64 s4, .int .i64 s5, c6, c7] 56 (0, 0)) := blk_setW (i := 5) h5 (.int .i64 s5)
 generalize W5.setCell ⟨P, 5, none⟩ (.int .i64 s5) = W6 at *
 have h7 : (W6.setCell ⟨P, 6, none⟩ (.int .i64 s6)).heap[P]? = some (.cells #[.int .i64 s0, .bool s1, .int .u64 s2, .string s3, .int .i64 s4, .int .i64 s5, .int .i64 s6, c7] 56 (0, 0)) := blk_setW (i := 6) h6 (.int .i64 s6)
 generalize W6.setCell ⟨P, 6, none⟩ (.int .i64 s6) = W7 at *
 have h8 : (W7.setCell ⟨P, 7, none⟩ (.bool s7)).heap[P]? = some (.cells #[.int .i64 s0, .bool s1, .int .u64 s2, .string s3, .int .i64 s4, .int .i64 s5, .int .i64 s6, .bool s7] 56 (0, 0)) := blk_setW (i := 7) h7 (.bool s7)
 exact h8
end
end Tv
end Go.Proofs.YtpabdmcbahmjnaaGreat
