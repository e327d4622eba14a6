/- NEXT, with a stack in a block that is no other's. -/
import Derived.Test.YtpabdmcbahmjnaaGreatMVB
import Derived.Deep.LoopGhost
import Derived.Deep.RegionWith
import Derived.StillTailTactics
namespace Go.Proofs.YtpabdmcbahmjnaaGreat
namespace Tv
open Go Go.RowKit Go.MapKept
set_option linter.unusedSimpArgs false
set_option linter.unusedVariables false
structure UpS (x x' : XS) (fs fs' : List (Int × Int)) (c : Nat) : Prop where
  le : x.L ≤ x'.L
  mu : x'.mu ≤ x.mu
  gf : (x'.G : Int) + x'.f ≤ x.G + x.f
  pot : (x'.L : Int) + 256 * x'.mu ≤ x.L + 256 * x.mu + c
  len : (fs'.length : Int) + x'.mu ≤ fs.length + x.mu
def Fbd (fs : List (Int × Int)) : Prop := ∀ y ∈ fs, 0 ≤ y.2 ∧ y.2 ≤ 64
def StPost (bm be : Nat) (σ : Sg) (x : XS) (w : World) (cc : Nat) (fs : List (Int × Int)) (r : Nat) (e : Ending) (w' : World) : Prop :=
  ∃ (σ' : Sg) (x' : XS) (v' : Value) (fs' : List (Int × Int)) (A' : Option Addr) (r' c' : Nat) (pk : ByteArray) (pv : Int) (ok : Bool), e = .returned (.tuple #[.agg #[.bool true, v', .slice A' r' c'], .agg #[.string pk, .int .u64 pv], .bool ok]) ∧
    EW bm be σ' x' w' ∧ HF bm be σ w σ' w' ∧ StkAt bm be σ' w' v' fs' ∧ Fbd fs' ∧ SlOk tab σ' 139 A' r' c' ∧ r' ≤ x'.L ∧ UpS x x' fs fs' cc ∧ (ok = true → MM x' fs' r' < MM x fs r)
def StRel (bm be : Nat) (σ : Sg) (x : XS) (w : World) (fs : List (Int × Int)) (r cc : Nat) (k : Nat) (wr : World) : Prop :=
  ∃ (σr : Sg) (xr : XS) (v : Value) (fr : List (Int × Int)) (A : Option Addr) (rr cr : Nat), k = MM xr fr rr ∧ EW bm be σr xr wr ∧ HF bm be σ w σr wr ∧
    (Lo bm be σr wr w.heap.size ∧ Lo bm be σr wr (w.heap.size + 1) ∧ Lo bm be σr wr (w.heap.size + 1 + 1)) ∧
    wr.heap[w.heap.size]? = some (.cells #[.bool true, v, .slice A rr cr] 104 (0, 0)) ∧
    wr.heap[w.heap.size + 1]? = some (.cells #[.bool false, .slice none 0 0, .slice none 0 0] 104 (0, 0)) ∧
    wr.heap[w.heap.size + 1 + 1]? = some (.cells #[.string ⟨#[]⟩, .int .u64 0] 139 (0, 0)) ∧
    StkAt bm be σr wr v fr ∧ (∀ g, v.ownBlock = some g → g ≠ w.heap.size ∧ g ≠ w.heap.size + 1 ∧ g ≠ w.heap.size + 1 + 1) ∧ Fbd fr ∧ SlOk tab σr 139 A rr cr ∧ rr ≤ xr.L ∧ UpS x xr fs fr cc ∧ MM xr fr rr ≤ MM x fs r
theorem snoc_cases {α : Type} (l : List α) : l = [] ∨ ∃ l' x, l = l' ++ [x] := by
  rcases List.eq_nil_or_concat l with h | ⟨l', x, h⟩
  · exact .inl h
  · exact .inr ⟨l', x, by rw [h, List.concat_eq_append]⟩
theorem UpS.refl (x : XS) (fs : List (Int × Int)) : UpS x x fs fs 0 := ⟨Nat.le_refl _, Int.le_refl _, Int.le_refl _, by omega, Int.le_refl _⟩
theorem five_set {w : World} {b d : Nat} (hne : d ≠ b) {x0 x1 x2 q0 q1 : Value} (y0 y1 y2 p0 p1 : Value) (h0 : w.cell? ⟨b, 0, none⟩ = some x0) (h1 : w.cell? ⟨b, 1, none⟩ = some x1) (h2 : w.cell? ⟨b, 2, none⟩ = some x2) (k0 : w.cell? ⟨d, 0, none⟩ = some q0) (k1 : w.cell? ⟨d, 1, none⟩ = some q1) :
    ((w.setCell ⟨b, 0, none⟩ y0).cell? ⟨b, 0, none⟩ = some y0 ∧ ((w.setCell ⟨b, 0, none⟩ y0).setCell ⟨b, 1, none⟩ y1).cell? ⟨b, 1, none⟩ = some y1 ∧ (((w.setCell ⟨b, 0, none⟩ y0).setCell ⟨b, 1, none⟩ y1).setCell ⟨b, 2, none⟩ y2).cell? ⟨b, 2, none⟩ = some y2) ∧
    ((((w.setCell ⟨b, 0, none⟩ y0).setCell ⟨b, 1, none⟩ y1).setCell ⟨b, 2, none⟩ y2).setCell ⟨d, 0, none⟩ p0).cell? ⟨d, 0, none⟩ = some p0 ∧
    (((((w.setCell ⟨b, 0, none⟩ y0).setCell ⟨b, 1, none⟩ y1).setCell ⟨b, 2, none⟩ y2).setCell ⟨d, 0, none⟩ p0).setCell ⟨d, 1, none⟩ p1).cell? ⟨d, 1, none⟩ = some p1 := by
  have ne : ∀ i j : Nat, (⟨b, i, none⟩ : Addr) ≠ ⟨d, j, none⟩ := fun i j e => hne (by injection e with e; exact e.symm)
  have e : (⟨d, 0, none⟩ : Addr) ≠ ⟨d, 1, none⟩ := fun e => by injection e with _ e; cases e
  have a0 := (World.cell?_setCell_other _ _ _ y2 (ne 2 0)).trans ((World.cell?_setCell_other _ _ _ y1 (ne 1 0)).trans ((World.cell?_setCell_other _ _ _ y0 (ne 0 0)).trans k0))
  have a1 := (World.cell?_setCell_other _ _ _ y2 (ne 2 1)).trans ((World.cell?_setCell_other _ _ _ y1 (ne 1 1)).trans ((World.cell?_setCell_other _ _ _ y0 (ne 0 1)).trans k1))
  have b1 := (World.cell?_setCell_other _ _ _ p0 e).trans a1
  exact ⟨three_set0 h0 h1 h2, World.cell?_setCell_same _ _ _ a0, World.cell?_setCell_same _ _ _ b1⟩
theorem st_done {bm be : Nat} {σ σr : Sg} {x xr : XS} {w wr wf : World} {fs fr : List (Int × Int)} {r rr cr : Nat} {v : Value} {A : Option Addr} (er : EW bm be σr xr wr) (f_r : HF bm be σ w σr wr)
    (l3 : Lo bm be σr wr w.heap.size) (l4 : Lo bm be σr wr (w.heap.size + 1)) (l5 : Lo bm be σr wr (w.heap.size + 1 + 1)) (sr : StkAt bm be σr wr v fr) (ne : ∀ g, v.ownBlock = some g → g ≠ w.heap.size ∧ g ≠ w.heap.size + 1 ∧ g ≠ w.heap.size + 1 + 1)
    (fb : Fbd fr) (so : SlOk tab σr 139 A rr cr) (rl : rr ≤ xr.L) {cc : Nat} (us : UpS x xr fs fr cc) (pk : ByteArray) (pv : Int) (ok : Bool) (hm : ok = true → MM xr fr rr < MM x fs r)
    (W : OnB (fun b => b = w.heap.size ∨ b = w.heap.size + 1 ∨ b = w.heap.size + 1 + 1) wr wf) :
    StPost bm be σ x w cc fs r (.returned (.tuple #[.agg #[.bool true, v, .slice A rr cr], .agg #[.string pk, .int .u64 pv], .bool ok])) wf := by
  refine ⟨σr, xr, v, fr, A, rr, cr, pk, pv, ok, rfl, er.on W ?_, f_r.on W ?_, sr.on W fun g hg => ?_, fb, so, rl, us, hm⟩
  · rintro b (rfl | rfl | rfl)
    · exact l3
    · exact l4
    · exact l5
  · rintro b (rfl | rfl | rfl) <;> omega
  · obtain ⟨h1, h2, h3⟩ := ne g hg
    rintro (e | e | e)
    · exact h1 e
    · exact h2 e
    · exact h3 e
theorem st_pop {bm be cc : Nat} {σ σr σ6 : Sg} {x xr : XS} {w wr w6 w7 : World} {fs fl : List (Int × Int)} {r cr : Nat} {Ar : Option Addr} {a1 : Option Addr} {c1 : Nat} {ov : Value} (FR : HF bm be σ w σr wr) (E6 : EW bm be σ6 xr w6) (F6 : HF bm be σr wr σ6 w6)
    (L3 : Lo bm be σr wr w.heap.size) (L4 : Lo bm be σr wr (w.heap.size + 1)) (L5 : Lo bm be σr wr (w.heap.size + 1 + 1)) (hwr : w.heap.size + 1 + 1 < wr.heap.size) (W7 : OnB (fun _ => False) w6 w7)
    (x3 : w7.heap[w.heap.size]? = some (.cells #[.bool true, ov, .slice Ar 0 cr] 104 (0, 0))) (x4 : w7.heap[w.heap.size + 1]? = some (.cells #[.bool false, .slice none 0 0, .slice none 0 0] 104 (0, 0)))
    (x5 : w7.heap[w.heap.size + 1 + 1]? = some (.cells #[.string ⟨#[]⟩, .int .u64 0] 139 (0, 0))) (O7 : w7.ownsRow (w6.heap.size + 1) 168 2 (.slice a1 fl.length c1) fl.length (fl.flatMap frC))
    (hbd : ∀ y ∈ fl, InR .i64 y.1 ∧ InR .i64 y.2) (fb : Fbd fl) (so : SlOk tab σr 139 Ar 0 cr) (us : UpS x xr fs fl cc) (mm : MM xr fl 0 ≤ MM x fs r) :
    StRel bm be σ x w fs r cc (MM xr fl 0) (w7.setCell ⟨w.heap.size, 1, none⟩ (.slice a1 fl.length c1)) := by
  have hs6 := F6.size
  have W8 : OnB (fun b => b = w.heap.size) w6 (w7.setCell ⟨w.heap.size, 1, none⟩ (.slice a1 fl.length c1)) := OnB.set (S := fun b => b = w.heap.size) (W7.mono (fun _ h => h.elim)) (p := ⟨w.heap.size, 1, none⟩) (.inl rfl) _
  have hset := blk_set x3 (i := 1) (.slice a1 fl.length c1)
  have hother : ∀ b, b ≠ w.heap.size → (w7.setCell ⟨w.heap.size, 1, none⟩ (.slice a1 fl.length c1)).heap[b]? = w7.heap[b]? := fun b hb => Below.heap_setCell _ _ _ _ hb
  refine ⟨σ6, xr, _, fl, Ar, 0, cr, rfl, E6.on W8 (fun b e => by subst e; exact (F6.keep _ L3).1), (FR.trans F6).on W8 (fun b e => by subst e; exact Nat.le_refl _), ⟨(F6.keep _ L3).1.on W8.size, (F6.keep _ L4).1.on W8.size, (F6.keep _ L5).1.on W8.size⟩,
    hset, (hother _ (by omega)).trans x4, (hother _ (by omega)).trans x5, ⟨?_, ?_, hbd⟩, ?_, fb, so.mono F6.sg, Nat.zero_le _, us, mm⟩
  · exact row_keep (row_le O7 (Nat.zero_le _)) (fun g hg => hother g (by have := (row_kind O7 hg).1; omega))
  · intro g hg
    have h1 := (row_kind O7 hg).1
    have h2 := row_lt O7 hg
    exact E6.newLo (by omega) (by simp [World.setCell]; omega)
  · intro g hg
    have h1 := (row_kind O7 hg).1
    omega
structure StAt (bm be : Nat) (σ : Sg) (x : XS) (w : World) (fs : List (Int × Int)) (cc : Nat) (σr : Sg) (xr : XS) (v : Value) (fr : List (Int × Int)) (A : Option Addr) (rr cr : Nat) (wr : World) : Prop where
  ew : EW bm be σr xr wr
  hf : HF bm be σ w σr wr
  l3 : Lo bm be σr wr w.heap.size
  l4 : Lo bm be σr wr (w.heap.size + 1)
  l5 : Lo bm be σr wr (w.heap.size + 1 + 1)
  b3 : wr.heap[w.heap.size]? = some (.cells #[.bool true, v, .slice A rr cr] 104 (0, 0))
  b4 : wr.heap[w.heap.size + 1]? = some (.cells #[.bool false, .slice none 0 0, .slice none 0 0] 104 (0, 0))
  b5 : wr.heap[w.heap.size + 1 + 1]? = some (.cells #[.string ⟨#[]⟩, .int .u64 0] 139 (0, 0))
  stk : StkAt bm be σr wr v fr
  ne : ∀ g, v.ownBlock = some g → g ≠ w.heap.size ∧ g ≠ w.heap.size + 1 ∧ g ≠ w.heap.size + 1 + 1
  fb : Fbd fr
  so : SlOk tab σr 139 A rr cr
  rl : rr ≤ xr.L
  us : UpS x xr fs fr cc
theorem StAt.rel {bm be : Nat} {σ : Sg} {x : XS} {w : World} {fs : List (Int × Int)} {cc : Nat} {σr : Sg} {xr : XS} {v : Value} {fr : List (Int × Int)} {A : Option Addr} {rr cr : Nat} {wr : World} {r : Nat} (h : StAt bm be σ x w fs cc σr xr v fr A rr cr wr) (mm : MM xr fr rr ≤ MM x fs r) :
    StRel bm be σ x w fs r cc (MM xr fr rr) wr := ⟨σr, xr, v, fr, A, rr, cr, rfl, h.ew, h.hf, ⟨h.l3, h.l4, h.l5⟩, h.b3, h.b4, h.b5, h.stk, h.ne, h.fb, h.so, h.rl, h.us, mm⟩
theorem StAt.call {bm be : Nat} {σ : Sg} {x : XS} {w : World} {fs : List (Int × Int)} {cc : Nat} {σr σ' : Sg} {xr : XS} {v : Value} {fr : List (Int × Int)} {A : Option Addr} {rr cr : Nat} {wr w' : World} (h : StAt bm be σ x w fs cc σr xr v fr A rr cr wr) (e : EW bm be σ' xr w') (f : HF bm be σr wr σ' w') :
    StAt bm be σ x w fs cc σ' xr v fr A rr cr w' :=
  ⟨e, h.hf.trans f, (f.keep _ h.l3).1, (f.keep _ h.l4).1, (f.keep _ h.l5).1, (f.keep _ h.l3).2.trans h.b3, (f.keep _ h.l4).2.trans h.b4, (f.keep _ h.l5).2.trans h.b5, h.stk.next f, h.ne, h.fb, h.so.mono f.sg, h.rl, h.us⟩
theorem st_set {bm be cc : Nat} {σ σr σ6 : Sg} {x xr : XS} {w wr w6 w7 : World} {fs fn : List (Int × Int)} {n cr : Nat} {Ar : Option Addr} {a1 : Option Addr} {c1 : Nat} {ov : Value} (FR : HF bm be σ w σr wr) (E6 : EW bm be σ6 xr w6) (F6 : HF bm be σr wr σ6 w6)
    (L3 : Lo bm be σr wr w.heap.size) (L4 : Lo bm be σr wr (w.heap.size + 1)) (L5 : Lo bm be σr wr (w.heap.size + 1 + 1)) (hwr : w.heap.size + 1 + 1 < wr.heap.size) (W7 : OnB (fun b => b = w.heap.size) w6 w7)
    (x3 : w7.heap[w.heap.size]? = some (.cells #[.bool true, ov, .slice Ar 0 cr] 104 (0, 0))) (x4 : w7.heap[w.heap.size + 1]? = some (.cells #[.bool false, .slice none 0 0, .slice none 0 0] 104 (0, 0)))
    (x5 : w7.heap[w.heap.size + 1 + 1]? = some (.cells #[.string ⟨#[]⟩, .int .u64 0] 139 (0, 0))) (hn : fn.length = n) (O7 : w7.ownsRow (w6.heap.size + 1) 168 2 (.slice a1 n c1) n (fn.flatMap frC))
    (hbd : ∀ y ∈ fn, InR .i64 y.1 ∧ InR .i64 y.2) (fb : Fbd fn) (so : SlOk tab σr 139 Ar 0 cr) (us : UpS x xr fs fn cc) :
    StAt bm be σ x w fs cc σ6 xr (.slice a1 n c1) fn Ar 0 cr (w7.setCell ⟨w.heap.size, 1, none⟩ (.slice a1 n c1)) := by
  have hs6 := F6.size
  have W8 : OnB (fun b => b = w.heap.size) w6 (w7.setCell ⟨w.heap.size, 1, none⟩ (.slice a1 n c1)) := OnB.set (S := fun b => b = w.heap.size) W7 (p := ⟨w.heap.size, 1, none⟩) (.inl rfl) _
  have hset := blk_set x3 (i := 1) (.slice a1 n c1)
  have hother : ∀ b, b ≠ w.heap.size → (w7.setCell ⟨w.heap.size, 1, none⟩ (.slice a1 n c1)).heap[b]? = w7.heap[b]? := fun b hb => Below.heap_setCell _ _ _ _ hb
  subst hn
  refine ⟨E6.on W8 (fun b e => by subst e; exact (F6.keep _ L3).1), (FR.trans F6).on W8 (fun b e => by subst e; exact Nat.le_refl _), (F6.keep _ L3).1.on W8.size, (F6.keep _ L4).1.on W8.size, (F6.keep _ L5).1.on W8.size,
    hset, (hother _ (by omega)).trans x4, (hother _ (by omega)).trans x5, ⟨?_, ?_, hbd⟩, ?_, fb, so.mono F6.sg, Nat.zero_le _, us⟩
  · exact row_keep (row_le O7 (Nat.zero_le _)) (fun g hg => hother g (by have := (row_kind O7 hg).1; omega))
  · intro g hg
    have h1 := (row_kind O7 hg).1
    have h2 := row_lt O7 hg
    exact E6.newLo (by omega) (by simp [World.setCell]; omega)
  · intro g hg
    have h1 := (row_kind O7 hg).1
    omega
theorem StAt.acc {bm be : Nat} {σ : Sg} {x : XS} {w : World} {fs : List (Int × Int)} {cc c2 : Nat} {σr σ' : Sg} {xr x' : XS} {v : Value} {fr : List (Int × Int)} {A : Option Addr} {rr cr : Nat} {wr w' : World} (h : StAt bm be σ x w fs cc σr xr v fr A rr cr wr) (e : EW bm be σ' x' w') (f : HF bm be σr wr σ' w') (rl : rr ≤ x'.L) (us : UpS x x' fs fr c2) :
    StAt bm be σ x w fs c2 σ' x' v fr A rr cr w' :=
  ⟨e, h.hf.trans f, (f.keep _ h.l3).1, (f.keep _ h.l4).1, (f.keep _ h.l5).1, (f.keep _ h.l3).2.trans h.b3, (f.keep _ h.l4).2.trans h.b4, (f.keep _ h.l5).2.trans h.b5, h.stk.next f, h.ne, h.fb, h.so.mono f.sg, rl, us⟩
theorem StAt.drew {bm be : Nat} {σ : Sg} {x : XS} {w : World} {fs : List (Int × Int)} {cc : Nat} {σr : Sg} {xr : XS} {v : Value} {fr : List (Int × Int)} {A : Option Addr} {rr cr : Nat} {wr : World} (h : StAt bm be σ x w fs cc σr xr v fr A rr cr wr) : StAt bm be σ x w fs cc σr xr v fr A rr cr wr.drew :=
  h.call (h.ew.on (S := fun _ => False) (OnB.refl _ _).drew (fun _ h => h.elim)) ((HF.refl bm be σr wr).on (S := fun _ => False) (OnB.refl _ _).drew (fun _ h => h.elim))
theorem st_enter {bm be cc : Nat} {σ : Sg} {x : XS} {w : World} {fs : List (Int × Int)} {σr σ9 : Sg} {xr x9 : XS} {v v9 : Value} {fr fs9 : List (Int × Int)} {A A9 : Option Addr} {rr cr r9 c9 : Nat} {wr w14 : World} (h : StAt bm be σ x w fs cc σr xr v fr A rr cr wr) (hz : xr.z = 1)
    (e14 : EW bm be σ9 x9 w14) (f14 : HF bm be σr wr σ9 w14) (u14 : Up xr x9 20) (s14 : StkAt bm be σ9 w14 v9 fs9) (hfs : fs9 = fr ∨ ∃ m, fs9 = fr ++ [(m, 0)]) (so : SlOk tab σ9 139 A9 r9 c9) (rl : r9 ≤ x9.L) :
    StAt bm be σ x w fs cc σ9 x9 v9 fs9 A9 r9 c9 (((w14.setCell ⟨w.heap.size, 0, none⟩ (.bool true)).setCell ⟨w.heap.size, 1, none⟩ v9).setCell ⟨w.heap.size, 2, none⟩ (.slice A9 r9 c9)) := by
  have l3 := f14.keep _ h.l3
  have l4 := f14.keep _ h.l4
  have l5 := f14.keep _ h.l5
  have b3 := l3.2.trans h.b3
  have b4 := l4.2.trans h.b4
  have b5 := l5.2.trans h.b5
  have W : OnB (fun b => b = w.heap.size) w14 (((w14.setCell ⟨w.heap.size, 0, none⟩ (.bool true)).setCell ⟨w.heap.size, 1, none⟩ v9).setCell ⟨w.heap.size, 2, none⟩ (.slice A9 r9 c9)) :=
    OnB.set (S := fun b => b = w.heap.size) (OnB.set (S := fun b => b = w.heap.size) (OnB.set (S := fun b => b = w.heap.size) (OnB.refl _ _) (p := ⟨w.heap.size, 0, none⟩) (.inl rfl) _) (p := ⟨w.heap.size, 1, none⟩) (.inl rfl) _) (p := ⟨w.heap.size, 2, none⟩) (.inl rfl) _
  have c3 := blk_set (blk_set (blk_set b3 (i := 0) (.bool true)) (i := 1) v9) (i := 2) (.slice A9 r9 c9)
  have ne : ∀ g, v9.ownBlock = some g → g ≠ w.heap.size ∧ g ≠ w.heap.size + 1 ∧ g ≠ w.heap.size + 1 + 1 := by
    intro g hg
    obtain ⟨_, cur, hc⟩ := row_kind s14.row hg
    refine ⟨fun e => ?_, fun e => ?_, fun e => ?_⟩
    · subst e; rw [b3] at hc; injection hc with hc; injection hc with _ h2 _; exact absurd h2 (by decide)
    · subst e; rw [b4] at hc; injection hc with hc; injection hc with _ h2 _; exact absurd h2 (by decide)
    · subst e; rw [b5] at hc; injection hc with hc; injection hc with _ h2 _; exact absurd h2 (by decide)
  have hlen : fs9.length ≤ fr.length + 1 := by
    rcases hfs with rfl | ⟨m, rfl⟩
    · omega
    · simp
  have hmu := u14.mu
  refine ⟨e14.on W (fun b e => by subst e; exact l3.1), (h.hf.trans f14).on W (fun b e => by subst e; exact Nat.le_refl _), l3.1.on W.size, l4.1.on W.size, l5.1.on W.size, c3, (W.block _ l4.1.1 (by show ¬ (w.heap.size + 1 = w.heap.size); omega)).trans b4, (W.block _ l5.1.1 (by show ¬ (w.heap.size + 1 + 1 = w.heap.size); omega)).trans b5, s14.on W (fun g hg e => (ne g hg).1 e), ne, ?_, so, rl, ?_⟩
  · intro y hy
    rcases hfs with rfl | ⟨m, rfl⟩
    · exact h.fb y hy
    · rcases List.mem_append.1 hy with hy | hy
      · exact h.fb y hy
      · simp only [List.mem_singleton] at hy
        subst hy
        exact ⟨by show (0 : Int) ≤ 0; omega, by show (0 : Int) ≤ 64; omega⟩
  · have h1 := h.us
    have a1 := h1.le
    have a2 := h1.mu
    have a3 := h1.gf
    have a4 := h1.pot
    have a5 := h1.len
    have b1 := u14.le
    have b2 := u14.up
    have b3 := u14.gf
    exact ⟨by omega, by omega, by omega, by omega, by omega⟩
theorem st_enter2 {bm be cc c2 : Nat} {σ : Sg} {x : XS} {w : World} {fs : List (Int × Int)} {σr σ9 : Sg} {xr x9 : XS} {v v9 : Value} {fr fs9 : List (Int × Int)} {A A9 : Option Addr} {rr cr r9 c9 : Nat} {wr w14 : World} (h : StAt bm be σ x w fs cc σr xr v fr A rr cr wr) (us : UpS x x9 fs fs9 c2)
    (e14 : EW bm be σ9 x9 w14) (f14 : HF bm be σr wr σ9 w14) (s14 : StkAt bm be σ9 w14 v9 fs9) (hfs : fs9 = fr ∨ ∃ m, fs9 = fr ++ [(m, 0)]) (so : SlOk tab σ9 139 A9 r9 c9) (rl : r9 ≤ x9.L) :
    StAt bm be σ x w fs c2 σ9 x9 v9 fs9 A9 r9 c9 (((w14.setCell ⟨w.heap.size, 0, none⟩ (.bool true)).setCell ⟨w.heap.size, 1, none⟩ v9).setCell ⟨w.heap.size, 2, none⟩ (.slice A9 r9 c9)) := by
  have l3 := f14.keep _ h.l3
  have l4 := f14.keep _ h.l4
  have l5 := f14.keep _ h.l5
  have b3 := l3.2.trans h.b3
  have b4 := l4.2.trans h.b4
  have b5 := l5.2.trans h.b5
  have W : OnB (fun b => b = w.heap.size) w14 (((w14.setCell ⟨w.heap.size, 0, none⟩ (.bool true)).setCell ⟨w.heap.size, 1, none⟩ v9).setCell ⟨w.heap.size, 2, none⟩ (.slice A9 r9 c9)) :=
    OnB.set (S := fun b => b = w.heap.size) (OnB.set (S := fun b => b = w.heap.size) (OnB.set (S := fun b => b = w.heap.size) (OnB.refl _ _) (p := ⟨w.heap.size, 0, none⟩) (.inl rfl) _) (p := ⟨w.heap.size, 1, none⟩) (.inl rfl) _) (p := ⟨w.heap.size, 2, none⟩) (.inl rfl) _
  have c3 := blk_set (blk_set (blk_set b3 (i := 0) (.bool true)) (i := 1) v9) (i := 2) (.slice A9 r9 c9)
  have ne : ∀ g, v9.ownBlock = some g → g ≠ w.heap.size ∧ g ≠ w.heap.size + 1 ∧ g ≠ w.heap.size + 1 + 1 := by
    intro g hg
    obtain ⟨_, cur, hc⟩ := row_kind s14.row hg
    refine ⟨fun e => ?_, fun e => ?_, fun e => ?_⟩
    · subst e; rw [b3] at hc; injection hc with hc; injection hc with _ h2 _; exact absurd h2 (by decide)
    · subst e; rw [b4] at hc; injection hc with hc; injection hc with _ h2 _; exact absurd h2 (by decide)
    · subst e; rw [b5] at hc; injection hc with hc; injection hc with _ h2 _; exact absurd h2 (by decide)
  have hlen : fs9.length ≤ fr.length + 1 := by
    rcases hfs with rfl | ⟨m, rfl⟩
    · omega
    · simp
  refine ⟨e14.on W (fun b e => by subst e; exact l3.1), (h.hf.trans f14).on W (fun b e => by subst e; exact Nat.le_refl _), l3.1.on W.size, l4.1.on W.size, l5.1.on W.size, c3, (W.block _ l4.1.1 (by show ¬ (w.heap.size + 1 = w.heap.size); omega)).trans b4, (W.block _ l5.1.1 (by show ¬ (w.heap.size + 1 + 1 = w.heap.size); omega)).trans b5, s14.on W (fun g hg e => (ne g hg).1 e), ne, ?_, so, rl, us⟩
  · intro y hy
    rcases hfs with rfl | ⟨m, rfl⟩
    · exact h.fb y hy
    · rcases List.mem_append.1 hy with hy | hy
      · exact h.fb y hy
      · simp only [List.mem_singleton] at hy
        subst hy
        exact ⟨by show (0 : Int) ≤ 0; omega, by show (0 : Int) ≤ 64; omega⟩
theorem up_first {x x5 x9 : XS} {fs fs9 : List (Int × Int)} (hz : x.z = 1) (u5 : Up x x5 1) (u9 : Up x5 x9 20) (h5 : 0 ≤ x5.z) (hfs : fs9 = fs ∨ ∃ m, fs9 = fs ++ [(m, 0)]) : UpS x x9 fs fs9 64 := by
  have hl : fs9.length ≤ fs.length + 1 := by
    rcases hfs with rfl | ⟨m, rfl⟩
    · omega
    · simp
  obtain ⟨a1, a2, a3, a4⟩ := u5
  obtain ⟨b1, b2, b3, b4⟩ := u9
  exact ⟨by omega, by omega, by omega, by omega, by omega⟩
theorem mm_first {bm be : Nat} {σ9 : Sg} {w9 : World} {x x5 x9 : XS} {fs fs9 : List (Int × Int)} {r r9 : Nat} (hz : x.z = 1) (hfl : (fs.length : Int) + x.mu ≤ 1000000000) (u5 : Up x x5 1) (u9 : Up x5 x9 20) (e9 : EW bm be σ9 x9 w9) (h5 : 0 ≤ x5.z) (fb : Fbd fs) (hfs : fs9 = fs ∨ ∃ m, fs9 = fs ++ [(m, 0)])
    (hL : (x.L : Int) + 256 * (x.mu + 1) + 512 ≤ 137438950000) (rl : r9 ≤ x9.L) : MM x9 fs9 r9 ≤ MM x fs r := by
  have h3 : 0 ≤ x9.mu := by
    have a := mu_nn e9.xi
    have b := e9.z0
    unfold XS.mu
    omega
  obtain ⟨a1, a2, a3, a4⟩ := u5
  obtain ⟨b1, b2, b3, b4⟩ := u9
  refine Nat.le_of_lt (MM_mu h3 (by omega) (fun y hy => ?_) ?_ (by omega))
  · rcases hfs with rfl | ⟨m, rfl⟩
    · exact (fb y hy).1
    · rcases List.mem_append.1 hy with hy | hy
      · exact (fb y hy).1
      · simp only [List.mem_singleton] at hy
        subst hy
        exact Int.le_refl 0
  · rcases hfs with rfl | ⟨m, rfl⟩
    · omega
    · simp; omega
set_option maxRecDepth 100000 in
set_option maxHeartbeats 8000000 in
theorem step_h {bm be : Nat} {σ : Sg} {x : XS} {w : World} (h : EW bm be σ x w) (hL : (x.L : Int) + 256 * (x.mu + 1) + 512 ≤ 137438950000) (hz : x.z = 1) (v : Value) (fs : List (Int × Int)) (hs : StkAt bm be σ w v fs) (hb : Fbd fs)
    (hfs : (fs.length : Int) + x.mu ≤ 1000000000) (A : Option Addr) (r c : Nat) (hw : SlOk tab σ 139 A r c) (hr : r ≤ x.L) (st : Bool) (cc : Nat) (hcc : cc = if st then 0 else 64) :
    Calls Tryz.prog 77 #[.pointer (some ⟨be, 0, none⟩), .agg #[.bool st, v, .slice A r c]] w (StPost bm be σ x w cc fs r) := by
  obtain ⟨A0, c0, rfl⟩ := row_form hs.row
  have HE := Lib.hid h
  have HS := Lib.hid hs
  have HW := Lib.hid hw
  have HR := Lib.hid hr
  have HB := Lib.hid hb
  have HL := Lib.hid hL
  have HZ := Lib.hid hz
  have HFS := Lib.hid hfs
  clear h hs hw hr hb hL hz hfs
  go_enter Tryz.func77, Tryz.ntmps77
  have hcc64 : cc ≤ 64 := by rw [hcc]; cases st <;> decide
  have HCC := Lib.hid hcc
  clear hcc
  go_upto_if 17 with fail
  go_cut [] (fun wx => ∃ k, StRel bm be σ x w fs r cc k wx)
  case first =>
    cases st with
    | true =>
      obtain rfl : cc = 0 := HCC.out
      clear HCC
      obtain ⟨e1, l1, f1⟩ := HE.out.alloc (.cells #[.bool true, .slice A0 fs.length c0, .slice A r c] 104)
      obtain ⟨e2, l2, f2⟩ := e1.alloc (.cells #[.bool false, .slice none 0 0, .slice none 0 0] 104)
      obtain ⟨e3, l3, f3⟩ := e2.alloc (.cells #[.string ⟨#[]⟩, .int .u64 0] 139)
      have INI : Hid (StRel bm be σ x w fs r 0 (MM x fs r) (((w.alloc (.cells #[.bool true, .slice A0 fs.length c0, .slice A r c] 104)).alloc (.cells #[.bool false, .slice none 0 0, .slice none 0 0] 104)).alloc (.cells #[.string ⟨#[]⟩, .int .u64 0] 139))) := by
        have f13 := (f1.trans f2).trans f3
        have z1 : (w.alloc (.cells #[.bool true, .slice A0 fs.length c0, .slice A r c] 104)).heap.size = w.heap.size + 1 := by simp
        have z2 : ((w.alloc (.cells #[.bool true, .slice A0 fs.length c0, .slice A r c] 104)).alloc (.cells #[.bool false, .slice none 0 0, .slice none 0 0] 104)).heap.size = w.heap.size + 1 + 1 := by simp
        have l1' := (f2.keep _ l1).1
        have l1'' := f3.keep _ l1'
        have l2' := f3.keep _ l2
        rw [z1] at l2 l2'
        rw [z2] at l3
        refine Lib.hid ⟨σ, x, _, fs, A, r, c, rfl, e3, f13, ⟨l1''.1, l2'.1, l3⟩, ?_, ?_, ?_, HS.out.next f13, fun g hg => ?_, HB.out, HW.out, HR.out, UpS.refl _ _, Nat.le_refl _⟩
        · exact l1''.2.trans ((f2.keep _ l1).2.trans (heap_alloc w _).1)
        · rw [l2'.2]
          have := (heap_alloc (w.alloc (.cells #[.bool true, .slice A0 fs.length c0, .slice A r c] 104)) (.cells #[.bool false, .slice none 0 0, .slice none 0 0] 104)).1
          rw [z1] at this
          exact this
        · have := (heap_alloc ((w.alloc (.cells #[.bool true, .slice A0 fs.length c0, .slice A r c] 104)).alloc (.cells #[.bool false, .slice none 0 0, .slice none 0 0] 104)) (.cells #[.string ⟨#[]⟩, .int .u64 0] 139)).1
          rw [z2] at this
          exact this
        · have := (HS.out.lo g hg).1
          omega
      clear e1 l1 f1 e2 l2 f2 e3 l3 f3
      go_wp2_with fail
      go_meet
      exact ⟨_, INI.out⟩
    | false =>
      obtain rfl : cc = 64 := HCC.out
      clear HCC
      obtain ⟨r0, ro, q, hr0, hq, hrd⟩ := HE.out.reads
      obtain ⟨e1, l1, f1⟩ := HE.out.alloc (.cells #[.bool true, .slice A0 fs.length c0, .slice A r c] 104)
      obtain ⟨e2, l2, f2⟩ := e1.alloc (.cells #[.bool false, .slice none 0 0, .slice none 0 0] 104)
      obtain ⟨e3, l3, f3⟩ := e2.alloc (.cells #[.string ⟨#[]⟩, .int .u64 0] 139)
      have INI : Hid (StAt bm be σ x w fs 0 σ x (.slice A0 fs.length c0) fs A r c (((w.alloc (.cells #[.bool true, .slice A0 fs.length c0, .slice A r c] 104)).alloc (.cells #[.bool false, .slice none 0 0, .slice none 0 0] 104)).alloc (.cells #[.string ⟨#[]⟩, .int .u64 0] 139))) := by
        have f13 := (f1.trans f2).trans f3
        have z1 : (w.alloc (.cells #[.bool true, .slice A0 fs.length c0, .slice A r c] 104)).heap.size = w.heap.size + 1 := by simp
        have z2 : ((w.alloc (.cells #[.bool true, .slice A0 fs.length c0, .slice A r c] 104)).alloc (.cells #[.bool false, .slice none 0 0, .slice none 0 0] 104)).heap.size = w.heap.size + 1 + 1 := by simp
        have l1' := (f2.keep _ l1).1
        have l1'' := f3.keep _ l1'
        have l2' := f3.keep _ l2
        rw [z1] at l2 l2'
        rw [z2] at l3
        refine Lib.hid ⟨e3, f13, l1''.1, l2'.1, l3, ?_, ?_, ?_, HS.out.next f13, fun g hg => ?_, HB.out, HW.out, HR.out, UpS.refl _ _⟩
        · exact l1''.2.trans ((f2.keep _ l1).2.trans (heap_alloc w _).1)
        · rw [l2'.2]
          have := (heap_alloc (w.alloc (.cells #[.bool true, .slice A0 fs.length c0, .slice A r c] 104)) (.cells #[.bool false, .slice none 0 0, .slice none 0 0] 104)).1
          rw [z1] at this
          exact this
        · have := (heap_alloc ((w.alloc (.cells #[.bool true, .slice A0 fs.length c0, .slice A r c] 104)).alloc (.cells #[.bool false, .slice none 0 0, .slice none 0 0] 104)) (.cells #[.string ⟨#[]⟩, .int .u64 0] 139)).1
          rw [z2] at this
          exact this
        · have := (HS.out.lo g hg).1
          omega
      have HT : Hid ((((w.alloc (.cells #[.bool true, .slice A0 fs.length c0, .slice A r c] 104)).alloc (.cells #[.bool false, .slice none 0 0, .slice none 0 0] 104)).alloc (.cells #[.string ⟨#[]⟩, .int .u64 0] 139)).cell? ⟨be, 2, none⟩ = some (.int .i64 r0)) := Lib.hid (hrd _ (by
        have hb := HE.out.lo.2
        rw [Below.heap_alloc _ _ _ (by simp; omega)]
        exact two_old hb _ _)).1
      have HR0 := Lib.hid hr0
      clear e1 l1 f1 e2 l2 f2 e3 l3 f3 hq hrd hr0
      go_wp2_with fail
      generalize ((w.alloc (.cells #[.bool true, .slice A0 fs.length c0, .slice A r c] 104)).alloc (.cells #[.bool false, .slice none 0 0, .slice none 0 0] 104)).alloc (.cells #[.string ⟨#[]⟩, .int .u64 0] 139) = W3 at *
      have ht := HT.out
      have u0 := blk_cell INI.out.b3 0
      have u1 := blk_cell INI.out.b3 1
      have u2 := blk_cell INI.out.b3 2
      simp only [List.getElem?_toArray, List.getElem?_cons_zero, List.getElem?_cons_succ] at u0 u1 u2
      have ED : Hid (EW bm be σ x W3.drew) := Lib.hid (INI.out.ew.on (S := fun _ => False) (OnB.refl _ _).drew (fun _ h => h.elim))
      have hLx : x.L + 1 ≤ 137438950000 := by
        have h1 := HL.out
        have h2 := mu_nn HE.out.xi
        have h3 := HE.out.z0
        have h4 : x.mu = Tv.mu x.G x.a x.f + x.z := rfl
        omega
      have hLx2 := HL.out
      have hfsl : fs.length ≤ 1000000000 := by
        have h1 := HFS.out
        have h2 := mu_nn HE.out.xi
        have h3 := HE.out.z0
        have h4 : x.mu = Tv.mu x.G x.a x.f + x.z := rfl
        omega
      have h20 : x.L + 1 + 20 ≤ 137438950000 := by
        have h2 := mu_nn HE.out.xi
        have h3 := HE.out.z0
        have h4 : x.mu = Tv.mu x.G x.a x.f + x.z := rfl
        omega
      have hmz := HZ.out
      go_region_with ((first
        | (go_at_call 80; (with_reducible refine (load_h ED.out hLx r0 HR0.out).mono ?_); rintro e w5 ⟨vi, σ5, x5, rfl, hvi, e5, f5, u5⟩;
            (have F5 := Lib.hid (((HF.refl bm be σ W3).on (S := fun _ => False) (OnB.refl _ _).drew (fun _ h => h.elim)).trans f5)); (have E5 := Lib.hid e5); (have VI := Lib.hid hvi); (have U5 := Lib.hid u5); (have S5 := Lib.hid (INI.out.stk.next F5.out)); clear e5 hvi f5 u5;
            (have q0 := blk_cell ((F5.out.keep _ INI.out.l3).2.trans INI.out.b3) 0); (have q1 := blk_cell ((F5.out.keep _ INI.out.l3).2.trans INI.out.b3) 1); (have q2 := blk_cell ((F5.out.keep _ INI.out.l3).2.trans INI.out.b3) 2);
            simp only [List.getElem?_toArray, List.getElem?_cons_zero, List.getElem?_cons_succ] at q0 q1 q2)
        | (go_at_call 102; (with_reducible refine (enter_h E5.out (by have := U5.out.up; omega) true _ fs S5.out hfsl A r c (HW.out.mono F5.out.sg) (Nat.le_trans HR.out U5.out.le) vi VI.out).mono ?_); rintro e w9 ⟨σ9, x9, v9, fs9, A9, r9, c9, rfl, e9, f9, u9, s9, hfs9, so9, rl9⟩;
            obtain ⟨a9, cap9, rfl⟩ := row_form s9.row;
            (have ST5 := INI.out.acc (c2 := 64) E5.out F5.out (Nat.le_trans HR.out U5.out.le) ⟨U5.out.le, (by have := U5.out.mu; omega), U5.out.gf, (by have := U5.out.mu; have := U5.out.up; omega), (by have := U5.out.mu; omega)⟩);
            (have ST9 := Lib.hid (st_enter2 ST5 (up_first HZ.out U5.out u9 E5.out.z0 hfs9) e9 f9 s9 hfs9 so9 rl9)); (have M9 := Lib.hid (mm_first (r := r) HZ.out HFS.out U5.out u9 e9 E5.out.z0 HB.out hfs9 hLx2 rl9)); (have G9 := Lib.hid (f9.keep _ ST5.l3)); (have H9 := Lib.hid (G9.out.2.trans ST5.b3));
            (have t0 := blk_cell H9.out 0); (have t1 := blk_cell H9.out 1); (have t2 := blk_cell H9.out 2); (have tf0 := blk_frozen H9.out 0); (have tf1 := blk_frozen H9.out 1); (have tf2 := blk_frozen H9.out 2);
            simp only [List.getElem?_toArray, List.getElem?_cons_zero, List.getElem?_cons_succ] at t0 t1 t2;
            clear e9 f9 u9 s9 hfs9 so9 rl9 ST5)
        | fail))
      all_goals
        go_wp2_with fail
        go_meet
        first
          | exact ⟨_, ST9.out.rel M9.out⟩
          | exact ⟨_, ST9.out.drew.rel M9.out⟩
  case rest =>
  obtain ⟨k0, hk0⟩ := hcut
  have INI := Lib.hid hk0
  clear hk0
  go_wp2_with fail
  go_loopg [] k0 (fun k wr => StRel bm be σ x w fs r cc k wr)
  case atStart => exact INI.out
  case round =>
    clear INI
    obtain ⟨σr, xr, vr, fr, Ar, rr, cr, hk, er, f_r, ⟨l3, l4, l5⟩, b3, b4, b5, sr, ne, fb, so, rl, us, mm⟩ := hrel
    obtain ⟨ar, capr, rfl⟩ := row_form sr.row
    obtain ⟨r0, ro, q, hr0, hq, hrd⟩ := er.reads
    have k35 := (hrd wr rfl).2.2
    have KK := Lib.hid hk
    have ER := Lib.hid er
    have FR := Lib.hid f_r
    have L3 := Lib.hid l3
    have L4 := Lib.hid l4
    have L5 := Lib.hid l5
    have B3 := Lib.hid b3
    have B4 := Lib.hid b4
    have B5 := Lib.hid b5
    have SR := Lib.hid sr
    have NE := Lib.hid ne
    have FB := Lib.hid fb
    have SO := Lib.hid so
    have RL := Lib.hid rl
    have US := Lib.hid us
    have MH := Lib.hid mm
    have HQ := Lib.hid hq
    have HRD := Lib.hid hrd
    have u0 := blk_cell b3 0
    have u1 := blk_cell b3 1
    have u2 := blk_cell b3 2
    have v0 := blk_cell b4 0
    have v1 := blk_cell b4 1
    have v2 := blk_cell b4 2
    have p0 := blk_cell b5 0
    have p1 := blk_cell b5 1
    have y1 := blk_frozen b3 1
    have y2 := blk_frozen b3 2
    have z0 := blk_frozen b4 0
    have z1 := blk_frozen b4 1
    have z2 := blk_frozen b4 2
    have o0 := blk_frozen b5 0
    have o1 := blk_frozen b5 1
    simp only [List.getElem?_toArray, List.getElem?_cons_zero, List.getElem?_cons_succ] at u0 u1 u2 v0 v1 v2 p0 p1
    clear hk er f_r l3 l4 l5 b3 b4 b5 sr ne fb so rl us mm hq hrd HE HS HW HR HB
    cases q with
    | true =>
      go_wp2_with fail
      obtain ⟨⟨g0, g1, g2⟩, g3, g4⟩ := five_set (w := wr) (b := w.heap.size + 1) (d := w.heap.size + 1 + 1) (by omega) (.bool true) (.slice ar fr.length capr) (.slice Ar rr cr) (.string ⟨#[]⟩) (.int .u64 0) v0 v1 v2 p0 p1
      refine bodyPost_ret (v := .tuple #[.agg #[.bool true, .slice ar fr.length capr, .slice Ar rr cr], .agg #[.string ⟨#[]⟩, .int .u64 0], .bool false]) (by simp [results, Tryz.results77, go_sem, g0, g1, g2, g3, g4]) rfl ?_
      exact st_done ER.out FR.out L3.out L4.out L5.out SR.out NE.out FB.out SO.out RL.out US.out _ _ false (fun e => by cases e)
        (((((( OnB.refl _ _).set (p := ⟨w.heap.size + 1, 0, none⟩) (.inl (.inr (.inl rfl))) _).set (p := ⟨w.heap.size + 1, 1, none⟩) (.inl (.inr (.inl rfl))) _).set (p := ⟨w.heap.size + 1, 2, none⟩) (.inl (.inr (.inl rfl))) _).set (p := ⟨w.heap.size + 1 + 1, 0, none⟩) (.inl (.inr (.inr rfl))) _).set (p := ⟨w.heap.size + 1 + 1, 1, none⟩) (.inl (.inr (.inr rfl))) _)
    | false =>
      have hz1 : xr.z = 1 := by
        have h0 := ER.out.z0
        have h1 := ER.out.z1
        have h2 : xr.z ≠ 0 := fun e => by have := HQ.out.2 e; cases this
        omega
      have HZ1 := Lib.hid hz1
      clear hz1
      by_cases hpos : 0 < rr
      · obtain ⟨bp, off, key, val, rfl, hbp, hsb, hcp, hkey, hval, hs1, hs2⟩ := ER.out.pairAt SO.out hpos
        have HKEY := Lib.hid hkey
        have HVAL := Lib.hid hval
        have HS1 := Lib.hid hs1
        have HS2 := Lib.hid hs2
        have hposi : (0 : Int) < rr := by omega
        have c0' := (hcp wr rfl).1
        have c1' := (hcp wr rfl).2
        have hsz := L5.out.1
        have q0 := fun o => (World.cell?_of_block (a := ⟨w.heap.size, 0, none⟩) (Below.heap_alloc wr o _ (show w.heap.size < wr.heap.size by omega))).trans u0
        have q1 := fun o => (World.cell?_of_block (a := ⟨w.heap.size, 1, none⟩) (Below.heap_alloc wr o _ (show w.heap.size < wr.heap.size by omega))).trans u1
        have q2 := fun o => (World.cell?_of_block (a := ⟨w.heap.size, 2, none⟩) (Below.heap_alloc wr o _ (show w.heap.size < wr.heap.size by omega))).trans u2
        have qf := fun o => blk_frozen ((Below.heap_alloc wr o _ (show w.heap.size < wr.heap.size by omega)).trans B3.out) 2
        have D4 := fun o => (Below.heap_alloc wr o _ (show w.heap.size + 1 < wr.heap.size by omega)).trans B4.out
        have D5 := fun o => (Below.heap_alloc wr o _ (show w.heap.size + 1 + 1 < wr.heap.size by omega)).trans B5.out
        have e0 := fun o => blk_cell (D4 o) 0
        have e1 := fun o => blk_cell (D4 o) 1
        have e2 := fun o => blk_cell (D4 o) 2
        have i0 := fun o => blk_cell (D5 o) 0
        have i1 := fun o => blk_cell (D5 o) 1
        have ef0 := fun o => blk_frozen (D4 o) 0
        have ef1 := fun o => blk_frozen (D4 o) 1
        have ef2 := fun o => blk_frozen (D4 o) 2
        have if0 := fun o => blk_frozen (D5 o) 0
        have if1 := fun o => blk_frozen (D5 o) 1
        simp only [List.getElem?_toArray, List.getElem?_cons_zero, List.getElem?_cons_succ] at e0 e1 e2 i0 i1
        have P7 : Hid ((wr.alloc (.cells #[.string key, .int .u64 val] 139)).heap[wr.heap.size]? = some (.cells #[.string key, .int .u64 val] 139 (0, 0))) := Lib.hid (heap_alloc wr _).1
        have j0 := blk_cell P7.out 0
        have j1 := blk_cell P7.out 1
        simp only [List.getElem?_toArray, List.getElem?_cons_zero, List.getElem?_cons_succ] at j0 j1
        clear hkey hval hs1 hs2 hcp hbp hsb D4 D5
        obtain ⟨cm, hcm⟩ : ∃ cm, cr = cm + 1 := ⟨cr - 1, by have := SO.out.1; omega⟩
        subst hcm
        by_cases hc1 : cm = 0
        · subst hc1
          go_wp2_with fail
          go_region
          go_wp2_with fail
          have ne : ∀ (i j k : Nat) (d : Nat), (⟨w.heap.size, i, none⟩ : Addr) ≠ ⟨w.heap.size + (d + 1), j, none⟩ := fun i j k d e => by injection e with e; omega
          obtain ⟨⟨g0, g1, g2⟩, g3, g4⟩ := five_set (w := (wr.alloc (.cells #[.string key, .int .u64 val] 139)).setCell ⟨w.heap.size, 2, none⟩ (.slice (some ⟨bp, off, none⟩) (rr - 1) 0)) (b := w.heap.size + 1) (d := w.heap.size + 1 + 1) (by omega) (.bool true) (.slice ar fr.length capr) (.slice (some ⟨bp, off, none⟩) (rr - 1) 0) (.string key) (.int .u64 val)
            ((World.cell?_setCell_other _ _ _ _ (ne _ _ 0 0)).trans (e0 _)) ((World.cell?_setCell_other _ _ _ _ (ne _ _ 0 0)).trans (e1 _)) ((World.cell?_setCell_other _ _ _ _ (ne _ _ 0 0)).trans (e2 _)) ((World.cell?_setCell_other _ _ _ _ (ne _ _ 0 1)).trans (i0 _)) ((World.cell?_setCell_other _ _ _ _ (ne _ _ 0 1)).trans (i1 _))
          refine bodyPost_ret (v := .tuple #[.agg #[.bool true, .slice ar fr.length capr, .slice (some ⟨bp, off, none⟩) (rr - 1) 0], .agg #[.string key, .int .u64 val], .bool true]) (by simp [results, Tryz.results77, go_sem, g0, g1, g2, g3, g4]) rfl ?_
          obtain ⟨e7, _, f7⟩ := ER.out.alloc (.cells #[.string key, .int .u64 val] 139)
          have M7 : MM xr fr (rr - 1) < MM x fs r := Nat.lt_of_lt_of_le (MM_r (by omega)) MH.out
          have S7 : SlOk tab σr 139 (some ⟨bp, off, none⟩) (rr - 1) 0 := HS2.out trivial
          have R7 : rr - 1 ≤ xr.L := by have := RL.out; omega
          exact st_done e7 (FR.out.trans f7) (f7.keep _ L3.out).1 (f7.keep _ L4.out).1 (f7.keep _ L5.out).1 (SR.out.next f7) NE.out FB.out S7 R7 US.out key val true (fun _ => M7)
            (((((((OnB.refl _ _).set (p := ⟨w.heap.size, 2, none⟩) (.inl (.inl rfl)) _).set (p := ⟨w.heap.size + 1, 0, none⟩) (.inl (.inr (.inl rfl))) _).set (p := ⟨w.heap.size + 1, 1, none⟩) (.inl (.inr (.inl rfl))) _).set (p := ⟨w.heap.size + 1, 2, none⟩) (.inl (.inr (.inl rfl))) _).set (p := ⟨w.heap.size + 1 + 1, 0, none⟩) (.inl (.inr (.inr rfl))) _).set (p := ⟨w.heap.size + 1 + 1, 1, none⟩) (.inl (.inr (.inr rfl))) _).drew
        · obtain ⟨m, hm⟩ : ∃ m, cm = m + 1 := ⟨cm - 1, by omega⟩
          subst hm
          clear hc1
          go_wp2_with fail
          go_region
          go_wp2_with fail
          have ne : ∀ (i j k : Nat) (d : Nat), (⟨w.heap.size, i, none⟩ : Addr) ≠ ⟨w.heap.size + (d + 1), j, none⟩ := fun i j k d e => by injection e with e; omega
          obtain ⟨⟨g0, g1, g2⟩, g3, g4⟩ := five_set (w := (wr.alloc (.cells #[.string key, .int .u64 val] 139)).setCell ⟨w.heap.size, 2, none⟩ (.slice (some ⟨bp, off + 2, none⟩) (rr - 1) (m + 1))) (b := w.heap.size + 1) (d := w.heap.size + 1 + 1) (by omega) (.bool true) (.slice ar fr.length capr) (.slice (some ⟨bp, off + 2, none⟩) (rr - 1) (m + 1)) (.string key) (.int .u64 val)
            ((World.cell?_setCell_other _ _ _ _ (ne _ _ 0 0)).trans (e0 _)) ((World.cell?_setCell_other _ _ _ _ (ne _ _ 0 0)).trans (e1 _)) ((World.cell?_setCell_other _ _ _ _ (ne _ _ 0 0)).trans (e2 _)) ((World.cell?_setCell_other _ _ _ _ (ne _ _ 0 1)).trans (i0 _)) ((World.cell?_setCell_other _ _ _ _ (ne _ _ 0 1)).trans (i1 _))
          refine bodyPost_ret (v := .tuple #[.agg #[.bool true, .slice ar fr.length capr, .slice (some ⟨bp, off + 2, none⟩) (rr - 1) (m + 1)], .agg #[.string key, .int .u64 val], .bool true]) (by simp [results, Tryz.results77, go_sem, g0, g1, g2, g3, g4]) rfl ?_
          obtain ⟨e7, _, f7⟩ := ER.out.alloc (.cells #[.string key, .int .u64 val] 139)
          have M7 : MM xr fr (rr - 1) < MM x fs r := Nat.lt_of_lt_of_le (MM_r (by omega)) MH.out
          have S7 : SlOk tab σr 139 (some ⟨bp, off + 2, none⟩) (rr - 1) (m + 1) := HS1.out
          have R7 : rr - 1 ≤ xr.L := by have := RL.out; omega
          exact st_done e7 (FR.out.trans f7) (f7.keep _ L3.out).1 (f7.keep _ L4.out).1 (f7.keep _ L5.out).1 (SR.out.next f7) NE.out FB.out S7 R7 US.out key val true (fun _ => M7)
            (((((((OnB.refl _ _).set (p := ⟨w.heap.size, 2, none⟩) (.inl (.inl rfl)) _).set (p := ⟨w.heap.size + 1, 0, none⟩) (.inl (.inr (.inl rfl))) _).set (p := ⟨w.heap.size + 1, 1, none⟩) (.inl (.inr (.inl rfl))) _).set (p := ⟨w.heap.size + 1, 2, none⟩) (.inl (.inr (.inl rfl))) _).set (p := ⟨w.heap.size + 1 + 1, 0, none⟩) (.inl (.inr (.inr rfl))) _).set (p := ⟨w.heap.size + 1 + 1, 1, none⟩) (.inl (.inr (.inr rfl))) _).drew
      · obtain rfl : rr = 0 := by omega
        clear hpos
        rcases snoc_cases fr with rfl | ⟨fl, ⟨C, K⟩, rfl⟩
        · go_wp2_with fail
          obtain ⟨⟨g0, g1, g2⟩, g3, g4⟩ := five_set (w := wr) (b := w.heap.size + 1) (d := w.heap.size + 1 + 1) (by omega) (.bool true) (.slice ar 0 capr) (.slice Ar 0 cr) (.string ⟨#[]⟩) (.int .u64 0) v0 v1 v2 p0 p1
          refine bodyPost_ret (v := .tuple #[.agg #[.bool true, .slice ar 0 capr, .slice Ar 0 cr], .agg #[.string ⟨#[]⟩, .int .u64 0], .bool false]) (by simp [results, Tryz.results77, go_sem, g0, g1, g2, g3, g4]) rfl ?_
          exact st_done ER.out FR.out L3.out L4.out L5.out SR.out NE.out FB.out SO.out RL.out US.out _ _ false (fun e => by cases e)
            (((((( OnB.refl _ _).set (p := ⟨w.heap.size + 1, 0, none⟩) (.inl (.inr (.inl rfl))) _).set (p := ⟨w.heap.size + 1, 1, none⟩) (.inl (.inr (.inl rfl))) _).set (p := ⟨w.heap.size + 1, 2, none⟩) (.inl (.inr (.inl rfl))) _).set (p := ⟨w.heap.size + 1 + 1, 0, none⟩) (.inl (.inr (.inr rfl))) _).set (p := ⟨w.heap.size + 1 + 1, 1, none⟩) (.inl (.inr (.inr rfl))) _)
        · have hlen : (fl ++ [(C, K)]).length = fl.length + 1 := by simp
          rcases row_cases SR.out.row with ⟨_, h0, _⟩ | ⟨gs, rfl, hcap⟩
          · rw [hlen] at h0; omega
          have hc := frC_at (fl ++ [(C, K)]) fl.length (C, K) (by simp)
          have k0' := SR.out.row.cells (g := gs) rfl _ _ hc.1
          have k1' := SR.out.row.cells (g := gs) rfl _ _ hc.2
          rw [raddr] at k0' k1'
          obtain ⟨bK0, bK1⟩ := FB.out (C, K) (by simp)
          obtain ⟨bC, bKr⟩ := SR.out.bd (C, K) (by simp)
          simp only at k0' k1' bK0 bK1 bC bKr
          have HC := Lib.hid bC
          have HKR := Lib.hid bKr
          have HLEN := Lib.hid hlen
          have hfl : (fl.length : Int) ≤ 1000000000 := by
            have h1 := US.out.len
            have h2 := HFS.out
            have h3 : 0 ≤ xr.mu := by
              have := mu_nn ER.out.xi
              have := ER.out.z0
              unfold XS.mu
              omega
            rw [hlen] at h1
            omega
          have hn0 : ((fl ++ [(C, K)]).length : Int) - 1 = fl.length := by rw [hlen]; omega
          have HCAP := Lib.hid hcap
          have hlt : (fl.length : Int) < (fl ++ [(C, K)]).length := by rw [hlen]; omega
          clear hc hlen bC bKr hcap
          generalize hN : (fl ++ [(C, K)]).length = nn at *
          have hnn : (nn : Int) = fl.length + 1 := by omega
          obtain rfl : nn = fl.length + 1 := by omega
          clear hnn hlt hn0
          have HN := Lib.hid hN
          clear hN
          have hmu0 : 0 ≤ xr.mu := by
            have := mu_nn ER.out.xi
            have := ER.out.z0
            unfold XS.mu
            omega
          have hLr : (xr.L : Int) + 256 * xr.mu + 320 ≤ 137438950000 := by
            have h1 := US.out.pot
            have h2 := HL.out
            omega
          go_wp2_with fail
          obtain ⟨e5, l9, f5⟩ := ER.out.alloc (.cells #[.int .i64 C, .int .i64 K] 168)
          refine (node_h e5 (by omega) C HC.out).mono ?_
          rintro e w6 ⟨vs, σ6, rfl, hn, e6, f6⟩
          obtain ⟨k, g, mn, bp, An, nb, cn, hh, key, val, A2, np, c2, n1, n2, n3, n4, n5, rfl, a1, a2, a3, a4, a5, a6, a7, a8, a9, b1', b2', b3', b4', b5'⟩ := node_form hn
          have HNV := Lib.hid hn
          have f56 := f5.trans f6
          have s6 := f6.size
          have hb9 := (f6.keep _ l9).2.trans (heap_alloc wr _).1
          have L9 := Lib.hid (f6.keep _ l9).1
          have B9 := Lib.hid hb9
          have E6 := Lib.hid e6
          have F6 := Lib.hid f56
          have HBP := Lib.hid a4
          have hs6 : wr.heap.size < w6.heap.size := by simp at s6; omega
          have hwr : w.heap.size + 1 + 1 < wr.heap.size := L5.out.1
          have m1 := fun o => blk_cell ((Below.heap_alloc w6 o _ hs6).trans B9.out) 1
          have m0 := fun o => blk_cell ((Below.heap_alloc w6 o _ hs6).trans B9.out) 0
          simp only [List.getElem?_toArray, List.getElem?_cons_zero, List.getElem?_cons_succ] at m0 m1
          clear hn e5 l9 f5 e6 f6 f56 hb9 a1 a2 a3 a4 a5 a6 a7 a8 a9 b1' b2' b3' b4' b5' s6 k0' k1'
          go_wp2_with fail
          generalize hON : Obj.cells #[.int .i64 k, .int .i64 g, .int .i64 mn, .int .u64 bp, .slice An nb cn, .int .u64 hh, .string key, .int .u64 val, .slice A2 np c2, .int .i64 n1, .int .i64 n2, .int .i64 n3, .int .i64 n4, .int .i64 n5] 110 = oN
          have cbp : (w6.alloc oN).cell? ⟨w6.heap.size, 3, none⟩ = some (.int .u64 bp) := by
            have := blk_cell (by rw [← hON]; exact (heap_alloc w6 _).1 : (w6.alloc oN).heap[w6.heap.size]? = _) 3
            simpa using this
          have HON := Lib.hid hON
          clear hON
          obtain ⟨W0, hW0⟩ : ∃ W0, W0 = wr := ⟨wr, rfl⟩
          subst hW0
          obtain ⟨G0, hG0⟩ : ∃ G0, G0 = gk := ⟨gk, rfl⟩
          subst hG0
          have hz6 : (w6.alloc oN).heap.size = w6.heap.size + 1 := by simp
          go_loopg [11] (64 - K).toNat (fun kk v11 wi => ∃ i : Int, v11 = .int .i64 i ∧ K ≤ i ∧ i ≤ 64 ∧ kk = (64 - i).toNat ∧ wi = w6.alloc oN)
          case atStart => exact ⟨K, rfl, Int.le_refl _, bK1, rfl, rfl⟩
          case round =>
            obtain ⟨i, rfl, hKi, hi64, hgk, rfl⟩ := hrel
            have HGK := Lib.hid hgk
            clear hgk
            have D3 := Lib.hid ((F6.out.keep _ L3.out).2.trans B3.out)
            have D4 := Lib.hid ((F6.out.keep _ L4.out).2.trans B4.out)
            have D5 := Lib.hid ((F6.out.keep _ L5.out).2.trans B5.out)
            have r1 := fun o => blk_cell ((Below.heap_alloc (w6.alloc oN) o _ (show w.heap.size < _ by simp; omega)).trans ((Below.heap_alloc w6 oN _ (show w.heap.size < _ by omega)).trans D3.out)) 1
            simp only [List.getElem?_toArray, List.getElem?_cons_zero, List.getElem?_cons_succ] at r1
            have S6 := Lib.hid (SR.out.next F6.out)
            have HG := Lib.hid (show ∀ g, (Value.slice (some ⟨gs, 0, none⟩) (fl.length + 1) capr).ownBlock = some g → g = gs from fun g hg => by simpa [Value.ownBlock] using hg.symm)
            have hcap0 : (fl.length : Int) ≤ capr := by have := HCAP.out; omega
            have hcap1 : fl.length ≤ capr := by have := HCAP.out; omega
            by_cases hlt : i < 64
            · have hi0 : 0 ≤ i := by omega
              go_wp2_with fail
              refine (has_any bp i HBP.out.1 HBP.out.2 hi0 hlt _).mono ?_
              rintro e w9 ⟨qh, rfl, rfl⟩
              cases qh with
              | false =>
                go_wp2_with fail
                go_roundg (64 - (i + 1)).toNat
                case measure => rw [HGK.out]; omega
                case rel => exact ⟨i + 1, rfl, by omega, by omega, rfl, rfl⟩
              | true =>
                go_wp2_with (at_builtin; refine stopAt ?_)
                unfold StopAt
                have hlit : ((w6.alloc oN).alloc (.cells #[] 168)).ownsRow (w6.heap.size + 1) 168 2 (.slice (some ⟨w6.heap.size + 1, 0, none⟩) 0 0) 0 [] := by
                  have := World.ownsRow_lit (w6.alloc oN) (base := w6.heap.size + 1) (e := 168) (size := 2) #[] 0 (Nat.le_of_eq hz6.symm) (by unfold maxLen; omega) rfl
                  rw [hz6] at this
                  exact this
                have hrow := S6.out.row
                rw [HN.out] at hrow
                have hgl : gs < w6.heap.size := (S6.out.lo gs rfl).1
                have hsrc := src_take hrow fl.length (w' := (w6.alloc oN).alloc (.cells #[] 168)) (two_old hgl _ _)
                rw [List.take_left] at hsrc
                refine wpList_appv 101 168 Tryz.underlying101 _ 2 16 fr_info rfl (by decide) rfl _ _ rfl (w6.heap.size + 1) _ (.slice (some ⟨w6.heap.size + 1, 0, none⟩) 0 0) 0 [] rfl hlit (some ⟨gs, 0, none⟩) fl.length capr (fl.flatMap frC) rfl (fun h => by cases h) (by rw [frC_len]) hsrc (frC_one _) (by simp) (by unfold maxLen; omega) (by omega) ?_
                intro v1 w7 ho7 hg7
                simp only [Nat.zero_add, List.nil_append] at ho7
                obtain ⟨a1, c1, rfl⟩ := row_form ho7
                have O7 := Lib.hid ho7
                have W7 : Hid (OnB (fun _ => False) w6 w7) := Lib.hid ((((OnB.refl _ w6).alloc oN).alloc _).grown hg7 (fun k hk => .inr (by have e : w6.heap.size + 1 = k := Option.some.inj hk; omega)))
                have x3 := Lib.hid ((W7.out.block w.heap.size (by omega) (fun h => h)).trans D3.out)
                have x4 := Lib.hid ((W7.out.block (w.heap.size + 1) (by omega) (fun h => h)).trans D4.out)
                have x5 := Lib.hid ((W7.out.block (w.heap.size + 1 + 1) (by omega) (fun h => h)).trans D5.out)
                have x31 := blk_cell x3.out 1
                have x3f := blk_frozen x3.out 1
                simp only [List.getElem?_toArray, List.getElem?_cons_zero, List.getElem?_cons_succ] at x31
                have hg7x := hg7
                clear ho7 hg7 hlit hrow hsrc
                have hne9 : W0.heap.size ≠ w.heap.size := by omega
                have hne6 : w6.heap.size ≠ w.heap.size := by omega
                have y9 := Lib.hid ((W7.out.block W0.heap.size hs6 (fun h => h)).trans B9.out)
                have y90 := blk_cell y9.out 0
                simp only [List.getElem?_toArray, List.getElem?_cons_zero, List.getElem?_cons_succ] at y90
                have y90' : ∀ v, (w7.setCell ⟨w.heap.size, 1, none⟩ v).cell? ⟨W0.heap.size, 0, none⟩ = some (.int .i64 C) := fun v => (World.cell?_of_block (a := ⟨W0.heap.size, 0, none⟩) (Below.heap_setCell _ _ _ _ hne9)).trans y90
                have hi1 : -9223372036854775808 ≤ i + 1 ∧ i + 1 ≤ 9223372036854775807 := by omega
                go_wp2_with (at_builtin; refine stopAt ?_)
                unfold StopAt
                have OB8 : Hid (OnB (fun b => b = w.heap.size) w6 (w7.setCell ⟨w.heap.size, 1, none⟩ (.slice a1 fl.length c1))) := Lib.hid (OnB.set (S := fun b => b = w.heap.size) (W7.out.mono (fun _ h => h.elim)) (p := ⟨w.heap.size, 1, none⟩) (.inl rfl) _)
                have O8 : Hid ((w7.setCell ⟨w.heap.size, 1, none⟩ (.slice a1 fl.length c1)).ownsRow (w6.heap.size + 1) 168 2 (.slice a1 fl.length c1) fl.length (fl.flatMap frC)) := Lib.hid (row_keep O7.out (fun g hg => Below.heap_setCell _ _ _ _ (by have := (row_kind O7.out hg).1; show g ≠ w.heap.size; omega)))
                have X3 := Lib.hid (blk_set x3.out (i := 1) (.slice a1 fl.length c1))
                have X4 := Lib.hid ((Below.heap_setCell w7 ⟨w.heap.size, 1, none⟩ (.slice a1 fl.length c1) (w.heap.size + 1) (by show w.heap.size + 1 ≠ w.heap.size; omega)).trans x4.out)
                have X5 := Lib.hid ((Below.heap_setCell w7 ⟨w.heap.size, 1, none⟩ (.slice a1 fl.length c1) (w.heap.size + 1 + 1) (by show w.heap.size + 1 + 1 ≠ w.heap.size; omega)).trans x5.out)
                have XN := Lib.hid ((Below.heap_setCell w7 ⟨w.heap.size, 1, none⟩ (.slice a1 fl.length c1) w6.heap.size hne6).trans (((hg7x.block w6.heap.size (by simp; omega) (fun e => by have e' : w6.heap.size = w6.heap.size + 1 := Option.some.inj e; omega)).trans (Below.heap_alloc (w6.alloc oN) _ _ (by simp))).trans (heap_alloc w6 oN).1))
                have hz8 : (w7.setCell ⟨w.heap.size, 1, none⟩ (.slice a1 fl.length c1)).heap.size = w7.heap.size := by simp [World.setCell]
                generalize w7.setCell ⟨w.heap.size, 1, none⟩ (.slice a1 fl.length c1) = W8 at *
                have hone : ∀ j u, (frC (C, i + 1))[j]? = some u → (W8.alloc (.cells #[.int .i64 C, .int .i64 (i + 1)] 168)).cell? ((⟨w7.heap.size, 0, none⟩ : Addr).add j) = some u := by
                  have := one_cells W8 (C, i + 1)
                  rw [hz8] at this
                  exact this
                have hs8 : w6.heap.size < W8.heap.size := by
                  have := (Array.getElem?_eq_some_iff.1 XN.out).1
                  exact this
                refine wpList_app 101 168 Tryz.underlying101 _ 2 16 fr_info rfl (by decide) rfl _ _ rfl (w6.heap.size + 1) _ (.slice a1 fl.length c1) _ _ rfl (O8.out.alloc _) ⟨w7.heap.size, 0, none⟩ 1 1 (frC (C, i + 1)) rfl rfl hone (one_one (C, i + 1)) (by simp; omega) (by unfold maxLen; omega) (by omega) ?_
                intro a8 c8 w9 ho9 hg9
                have O9 := Lib.hid ho9
                have OB9 : Hid (OnB (fun b => b = w.heap.size) w6 w9) := Lib.hid ((OB8.out.alloc _).grown hg9 (fun k hk => .inr (by have := (row_kind O8.out hk).1; omega)))
                have hs9 := hg9.size
                have TR : ∀ b, b ≤ w6.heap.size → w9.heap[b]? = W8.heap[b]? := fun b hb => (hg9.block b (by simp; omega) (fun e => by have := (row_kind O8.out e.symm).1; omega)).trans (Below.heap_alloc W8 _ b (by omega))
                have Y3 : Hid (w9.heap[w.heap.size]? = some (.cells #[.bool true, .slice a1 fl.length c1, .slice Ar 0 cr] 104 (0, 0))) := Lib.hid ((TR _ (by omega)).trans X3.out)
                have Y4 := Lib.hid ((TR _ (by omega)).trans X4.out)
                have Y5 := Lib.hid ((TR _ (by omega)).trans X5.out)
                have YN : Hid (∀ v, (w9.setCell ⟨w.heap.size, 1, none⟩ v).heap[w6.heap.size]? = some (.cells #[.int .i64 k, .int .i64 g, .int .i64 mn, .int .u64 bp, .slice An nb cn, .int .u64 hh, .string key, .int .u64 val, .slice A2 np c2, .int .i64 n1, .int .i64 n2, .int .i64 n3, .int .i64 n4, .int .i64 n5] 110 (0, 0))) := Lib.hid (fun v => (Below.heap_setCell _ _ _ _ hne6).trans ((TR _ (Nat.le_refl _)).trans (XN.out.trans (congrArg some HON.out.symm))))
                have y31 := blk_cell Y3.out 1
                have y3f := blk_frozen Y3.out 1
                have STA : Hid (StAt bm be σ x w fs cc σ6 xr (.slice a8 (fl.length + 1) c8) (fl ++ [(C, i + 1)]) Ar 0 cr (w9.setCell ⟨w.heap.size, 1, none⟩ (.slice a8 (fl.length + 1) c8))) := Lib.hid (by
                  refine st_set FR.out E6.out F6.out L3.out L4.out L5.out hwr OB9.out Y3.out Y4.out Y5.out (by simp) ?_ ?_ ?_ SO.out ⟨US.out.le, US.out.mu, US.out.gf, US.out.pot, by have := US.out.len; simp at this ⊢; omega⟩
                  · have := O9.out
                    rw [List.flatMap_append]
                    simpa using this
                  · intro y hy
                    rcases List.mem_append.1 hy with hy | hy
                    · exact SR.out.bd y (by simp [hy])
                    · simp only [List.mem_singleton] at hy
                      subst hy
                      exact ⟨HC.out, by rw [i64_min]; exact hi1.1, by rw [i64_max]; exact hi1.2⟩
                  · intro y hy
                    rcases List.mem_append.1 hy with hy | hy
                    · exact FB.out y (by simp [hy])
                    · simp only [List.mem_singleton] at hy
                      subst hy
                      exact ⟨by show 0 ≤ i + 1; omega, by show i + 1 ≤ 64; omega⟩)
                have d0 := fun v => blk_cell (YN.out v) 0
                have d1 := fun v => blk_cell (YN.out v) 1
                have d2 := fun v => blk_cell (YN.out v) 2
                have d3 := fun v => blk_cell (YN.out v) 3
                have d4 := fun v => blk_cell (YN.out v) 4
                have d5 := fun v => blk_cell (YN.out v) 5
                have d6 := fun v => blk_cell (YN.out v) 6
                have d7 := fun v => blk_cell (YN.out v) 7
                have d8 := fun v => blk_cell (YN.out v) 8
                have d9 := fun v => blk_cell (YN.out v) 9
                have d10 := fun v => blk_cell (YN.out v) 10
                have d11 := fun v => blk_cell (YN.out v) 11
                have d12 := fun v => blk_cell (YN.out v) 12
                have d13 := fun v => blk_cell (YN.out v) 13
                simp only [List.getElem?_toArray, List.getElem?_cons_zero, List.getElem?_cons_succ] at d0 d1 d2 d3 d4 d5 d6 d7 d8 d9 d10 d11 d12 d13 y31
                have HI := Lib.hid (show InR .i64 i from ⟨by rw [i64_min]; omega, by rw [i64_max]; omega⟩)
                have MT := Lib.hid (show MM xr (fl ++ [(C, i + 1)]) 0 < MM xr (fl ++ [(C, K)]) 0 from MM_top bK1 (by omega))
                clear ho9 hg9 TR hs9 hone hg7x
                go_wp2_with fail
                refine (lookup_h STA.out.ew (by omega) HNV.out i HI.out).mono ?_
                rintro e w11 ⟨bq, okq, σ7, rfl, hbq, e11, f11⟩
                have ST11 := Lib.hid (STA.out.call e11 f11)
                have HBQ := Lib.hid hbq
                clear e11 f11 hbq
                go_wp2_with fail
                refine (node_h ST11.out.ew (by omega) bq HBQ.out).mono ?_
                rintro e w12 ⟨vs2, σ8, rfl, hn2, e12, f12⟩
                have ST12 := Lib.hid (ST11.out.call e12 f12)
                obtain ⟨k', g', mn', bp', An', nb', cn', hh', key', val', A2', np', c2', n1', n2', n3', n4', n5', rfl, -, -, -, -, -, -, a7', a8', -⟩ := node_form hn2
                clear e12 f12 hn2
                have D3 := fun o => (Below.heap_alloc w12 o _ ST12.out.l3.1).trans ST12.out.b3
                have D4 := fun o => (Below.heap_alloc w12 o _ ST12.out.l4.1).trans ST12.out.b4
                have D5 := fun o => (Below.heap_alloc w12 o _ ST12.out.l5.1).trans ST12.out.b5
                have u30 := fun o => blk_cell (D3 o) 0
                have u31' := fun o => blk_cell (D3 o) 1
                have u32' := fun o => blk_cell (D3 o) 2
                have u40' := fun o => blk_cell (D4 o) 0
                have u41' := fun o => blk_cell (D4 o) 1
                have u42' := fun o => blk_cell (D4 o) 2
                have u50' := fun o => blk_cell (D5 o) 0
                have u51' := fun o => blk_cell (D5 o) 1
                have f40 := fun o => blk_frozen (D4 o) 0
                have f41 := fun o => blk_frozen (D4 o) 1
                have f42 := fun o => blk_frozen (D4 o) 2
                have f50 := fun o => blk_frozen (D5 o) 0
                have f51 := fun o => blk_frozen (D5 o) 1
                simp only [List.getElem?_toArray, List.getElem?_cons_zero, List.getElem?_cons_succ] at u30 u31' u32' u40' u41' u42' u50' u51'
                clear D3 D4 D5
                have AK := Lib.hid a7'
                have AV := Lib.hid a8'
                clear a7' a8'
                by_cases hk4 : k' = 4
                · subst hk4
                  go_wp2_with fail
                  go_region
                  go_wp2_with fail
                  generalize hO2 : Obj.cells #[.int .i64 4, .int .i64 g', .int .i64 mn', .int .u64 bp', .slice An' nb' cn', .int .u64 hh', .string key', .int .u64 val', .slice A2' np' c2', .int .i64 n1', .int .i64 n2', .int .i64 n3', .int .i64 n4', .int .i64 n5'] 110 = o2
                  clear hO2
                  obtain ⟨e13, _, f13⟩ := ST12.out.ew.alloc o2
                  have ST13 := ST12.out.call e13 f13
                  obtain ⟨⟨g0, g1, g2⟩, g3, g4⟩ := five_set (w := w12.alloc o2) (b := w.heap.size + 1) (d := w.heap.size + 1 + 1) (by omega) (.bool true) (.slice a8 (fl.length + 1) c8) (.slice Ar 0 cr) (.string key') (.int .u64 val') (u40' _) (u41' _) (u42' _) (u50' _) (u51' _)
                  refine bodyPost_ret (v := .tuple #[.agg #[.bool true, .slice a8 (fl.length + 1) c8, .slice Ar 0 cr], .agg #[.string key', .int .u64 val'], .bool true]) (by simp [results, Tryz.results77, go_sem, g0, g1, g2, g3, g4]) rfl ?_
                  exact st_done ST13.ew ST13.hf ST13.l3 ST13.l4 ST13.l5 ST13.stk ST13.ne ST13.fb ST13.so ST13.rl ST13.us key' val' true (fun _ => Nat.lt_of_lt_of_le MT.out MH.out)
                    ((((((OnB.refl _ _).set (p := ⟨w.heap.size + 1, 0, none⟩) (.inl (.inr (.inl rfl))) _).set (p := ⟨w.heap.size + 1, 1, none⟩) (.inl (.inr (.inl rfl))) _).set (p := ⟨w.heap.size + 1, 2, none⟩) (.inl (.inr (.inl rfl))) _).set (p := ⟨w.heap.size + 1 + 1, 0, none⟩) (.inl (.inr (.inr rfl))) _).set (p := ⟨w.heap.size + 1 + 1, 1, none⟩) (.inl (.inr (.inr rfl))) _).drew
                · go_wp2_with fail
                  generalize hO2 : Obj.cells #[.int .i64 k', .int .i64 g', .int .i64 mn', .int .u64 bp', .slice An' nb' cn', .int .u64 hh', .string key', .int .u64 val', .slice A2' np' c2', .int .i64 n1', .int .i64 n2', .int .i64 n3', .int .i64 n4', .int .i64 n5'] 110 = o2
                  clear hO2
                  obtain ⟨e13, _, f13⟩ := ST12.out.ew.alloc o2
                  have ST13 := Lib.hid (ST12.out.call e13 f13)
                  have hl13 : ((fl ++ [(C, i + 1)]).length : Int) ≤ 1000000000 := by
                    have h1 := ST13.out.us.len
                    have h2 := HFS.out
                    omega
                  clear e13 f13
                  have hvn : (Value.slice a8 (fl.length + 1) c8) = .slice a8 (fl.length + 1) c8 := rfl
                  refine (enter_h ST13.out.ew (by omega) true (.slice a8 (fl.length + 1) c8) _ ST13.out.stk (by omega) Ar 0 cr ST13.out.so ST13.out.rl bq HBQ.out).mono ?_
                  rintro e w14 ⟨σ9, x9, v9, fs9, A9, r9, c9, rfl, e14, f14, u14, s14, hfs9, so14, rl14⟩
                  obtain ⟨a9, cap9, rfl⟩ := row_form s14.row
                  have ST14 := Lib.hid (st_enter ST13.out HZ1.out e14 f14 u14 s14 hfs9 so14 rl14)
                  have E14 := Lib.hid e14
                  have M14 : Hid (MM x9 fs9 r9 < MM xr (fl ++ [(C, K)]) 0) := Lib.hid (by
                    have hm := u14.mu
                    have h1 := HZ1.out
                    have h3 : 0 ≤ x9.mu := by
                      have a := mu_nn e14.xi
                      have b := e14.z0
                      unfold XS.mu
                      omega
                    refine MM_mu h3 (by omega) (fun y hy => ?_) ?_ ?_
                    · exact (ST14.out.fb y hy).1
                    · have h4 := ST14.out.us.len
                      have h5 := HFS.out
                      omega
                    · have h6 := u14.up
                      omega)
                  have w30 := blk_cell ((f14.keep _ ST13.out.l3).2.trans ST13.out.b3) 0
                  have w31 := blk_cell ((f14.keep _ ST13.out.l3).2.trans ST13.out.b3) 1
                  have w32 := blk_cell ((f14.keep _ ST13.out.l3).2.trans ST13.out.b3) 2
                  have wf0 := blk_frozen ((f14.keep _ ST13.out.l3).2.trans ST13.out.b3) 0
                  have wf1 := blk_frozen ((f14.keep _ ST13.out.l3).2.trans ST13.out.b3) 1
                  have wf2 := blk_frozen ((f14.keep _ ST13.out.l3).2.trans ST13.out.b3) 2
                  simp only [List.getElem?_toArray, List.getElem?_cons_zero, List.getElem?_cons_succ] at w30 w31 w32
                  clear e14 f14 u14 s14 hfs9 so14 rl14 hl13 hvn
                  go_wp2_with fail
                  go_roundg (MM x9 fs9 r9)
                  case measure => rw [KK.out]; exact M14.out
                  case rel => exact ST14.out.rel (Nat.le_trans (Nat.le_of_lt M14.out) MH.out)
            · obtain rfl : i = 64 := by omega
              go_wp2_with (at_builtin; refine stopAt ?_)
              unfold StopAt
              have hlit : ((w6.alloc oN).alloc (.cells #[] 168)).ownsRow (w6.heap.size + 1) 168 2 (.slice (some ⟨w6.heap.size + 1, 0, none⟩) 0 0) 0 [] := by
                have := World.ownsRow_lit (w6.alloc oN) (base := w6.heap.size + 1) (e := 168) (size := 2) #[] 0 (Nat.le_of_eq hz6.symm) (by unfold maxLen; omega) rfl
                rw [hz6] at this
                exact this
              have hrow := S6.out.row
              rw [HN.out] at hrow
              have hgl : gs < w6.heap.size := (S6.out.lo gs rfl).1
              have hsrc := src_take hrow fl.length (w' := (w6.alloc oN).alloc (.cells #[] 168)) (two_old hgl _ _)
              rw [List.take_left] at hsrc
              refine wpList_appv 101 168 Tryz.underlying101 _ 2 16 fr_info rfl (by decide) rfl _ _ rfl (w6.heap.size + 1) _ (.slice (some ⟨w6.heap.size + 1, 0, none⟩) 0 0) 0 [] rfl hlit (some ⟨gs, 0, none⟩) fl.length capr (fl.flatMap frC) rfl (fun h => by cases h) (by rw [frC_len]) hsrc (frC_one _) (by simp) (by unfold maxLen; omega) (by omega) ?_
              intro v1 w7 ho7 hg7
              simp only [Nat.zero_add, List.nil_append] at ho7
              obtain ⟨a1, c1, rfl⟩ := row_form ho7
              have O7 := Lib.hid ho7
              have W7 : Hid (OnB (fun _ => False) w6 w7) := Lib.hid ((((OnB.refl _ w6).alloc oN).alloc _).grown hg7 (fun k hk => .inr (by have e : w6.heap.size + 1 = k := Option.some.inj hk; omega)))
              have x3 := Lib.hid ((W7.out.block w.heap.size (by omega) (fun h => h)).trans D3.out)
              have x4 := Lib.hid ((W7.out.block (w.heap.size + 1) (by omega) (fun h => h)).trans D4.out)
              have x5 := Lib.hid ((W7.out.block (w.heap.size + 1 + 1) (by omega) (fun h => h)).trans D5.out)
              have x31 := blk_cell x3.out 1
              have x3f := blk_frozen x3.out 1
              simp only [List.getElem?_toArray, List.getElem?_cons_zero, List.getElem?_cons_succ] at x31
              clear ho7 hg7 hlit hrow hsrc
              go_wp2_with fail
              go_roundg (MM xr fl 0)
              case measure => rw [KK.out]; exact MM_pop bK1
              case rel =>
                exact st_pop FR.out E6.out F6.out L3.out L4.out L5.out hwr W7.out x3.out x4.out x5.out O7.out (fun y hy => SR.out.bd y (by simp [hy])) (fun y hy => FB.out y (by simp [hy])) SO.out ⟨US.out.le, US.out.mu, US.out.gf, US.out.pot, by have := US.out.len; simp at this; omega⟩ (Nat.le_trans (Nat.le_of_lt (MM_pop bK1)) MH.out)
end Tv
end Go.Proofs.YtpabdmcbahmjnaaGreat
