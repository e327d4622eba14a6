/- Part of a proof: SBox SBoxB STape SGenA SGenB STapeB. -/
import Derived.Test.YtpabdmcbahmjnaaGreatMSD
import Derived.Laws.OwnMore
import Derived.IntWalk
import Derived.Deep.RegionWith
namespace Go.Proofs.YtpabdmcbahmjnaaGreat.Sc
open Go Go.RowKit
set_option linter.unusedSimpArgs false
set_option linter.unusedVariables false
def bxO (st : PS) (vt vp : Value) : Obj := .cells #[.int .u64 st.scr.mask, vt, vp] 30
structure BoxAt (B : Nat) (w0 w : World) (P : Nat) (st : PS) (vt vp : Value) (us : List Value) : Prop where
 base : B ≤ P
 par : w.heap[P]? = some (bxO st vt vp)
 thr : w.ownsRow B 66 1 vt us.length us
 hus : us.length = st.scr.threads.length
 ops : ∀ (i : Nat) (u : Value) (t : List OpD), us[i]? = some u → st.scr.threads[i]? = some t → w.ownsRow B 68 5 u t.length (t.flatMap opC)
 dist : ∀ (i j : Nat) (u v : Value) (b : Nat), us[i]? = some u → us[j]? = some v → u.ownBlock = some b → v.ownBlock = some b → i = j
 pks : w.ownsRow B 3 1 vp st.scr.picks.length (st.scr.picks.map (.int .i64))
 below : Below B w0 w
 size : B ≤ w.heap.size
theorem BoxAt.lt {B : Nat} {w0 w : World} {P : Nat} {st : PS} {vt vp : Value} {us : List Value} (h : BoxAt B w0 w P st vt vp us) : P < w.heap.size := (Array.getElem?_eq_some_iff.1 h.par).1
theorem BoxAt.above {B : Nat} {w0 w w' : World} {P : Nat} {st : PS} {vt vp : Value} {us : List Value} (h : BoxAt B w0 w P st vt vp us) (hb : Below w.heap.size w w') : BoxAt B w0 w' P st vt vp us :=
 ⟨h.base, (hb.block P h.lt).trans h.par, row_keep h.thr (fun g hg => hb.block g (row_lt h.thr hg)), h.hus, fun i u t hu ht => row_keep (h.ops i u t hu ht) (fun g hg => hb.block g (row_lt (h.ops i u t hu ht) hg)), h.dist,
  row_keep h.pks (fun g hg => hb.block g (row_lt h.pks hg)), h.below.trans (hb.mono h.size), Nat.le_trans h.size hb.size⟩
theorem BoxAt.cell {B : Nat} {w0 w : World} {P : Nat} {st : PS} {vt vp : Value} {us : List Value} (h : BoxAt B w0 w P st vt vp us) : ∀ j : Nat, w.cell? ⟨P, j, none⟩ = (#[Value.int .u64 st.scr.mask, vt, vp])[j]? := fun j => blk_cell h.par j
theorem BoxAt.pick {B : Nat} {w0 w w' : World} {P : Nat} {st : PS} {vt vp v' : Value} {us : List Value} (h : BoxAt B w0 w P st vt vp us) (o : Obj) (hg : (w.alloc o).grownBy w' vp.ownBlock) (p : Int)
  (hown : w'.ownsRow B 3 1 v' (st.scr.picks.length + 1) (st.scr.picks.map (.int .i64) ++ [.int .i64 p])) :
  BoxAt B w0 (w'.setCell ⟨P, 2, none⟩ v') P { st with scr := { st.scr with picks := st.scr.picks ++ [p] } } vt v' us := by
 have hP' : w'.heap[P]? = some (bxO st vt vp) := (grown_block hg h.lt (row_ne h.pks h.par (by decide))).trans h.par
 have hb : Below B w w' := grown_below hg h.size (fun k hk => (row_kind h.pks hk).1)
 have tr : ∀ {e : TypeId} {size n : Nat} {v : Value} {xs : List Value}, w.ownsRow B e size v n xs → e ≠ 3 → e ≠ 30 → (w'.setCell ⟨P, 2, none⟩ v').ownsRow B e size v n xs := fun {e size n v xs} hr he hp => by
  have h1 : w'.ownsRow B e size v n xs := row_step hg hr (fun g hgg => row_row hr h.pks he hgg)
  exact ownsRow_setCell_other h1 (row_ne h1 hP' (Ne.symm hp)) _
 refine ⟨h.base, heap_set (j := 2) hP' v', tr h.thr (by decide) (by decide), h.hus, fun i u t hu ht => tr (h.ops i u t hu ht) (by decide) (by decide), h.dist, ?_, (h.below.trans hb).setCell (p := ⟨P, 2, none⟩) h.base _, ?_⟩
 ·have := ownsRow_setCell_other hown (a := ⟨P, 2, none⟩) (row_ne hown hP' (by decide)) v'
  simpa using this
 ·have := grown_size hg
  have := h.size
  simp [World.setCell]
  omega
theorem BoxAt.scr {B : Nat} {w0 w : World} {P : Nat} {st : PS} {vt vp : Value} {us : List Value} (h : BoxAt B w0 w P st vt vp us) (hs : Small 1048576 st) : ∃ A c D d, vt = .slice A st.scr.threads.length c ∧ vp = .slice D st.scr.picks.length d ∧ ScrAt w A D st.scr := by
 have hus := h.hus
 obtain ⟨D, d, hD⟩ := row_form h.pks
 have pk : PicksAt w D st.scr.picks := fun h0 => by
  obtain ⟨g, cap, hg⟩ := row_some h.pks h0
  rw [hg] at hD
  simp only [Value.slice.injEq, true_and] at hD
  obtain ⟨rfl, rfl⟩ := hD
  refine ⟨g, 0, rfl, row_lt h.pks (by rw [hg]; rfl), fun i p hi => ?_⟩
  have := h.pks.cells (g := g) (by rw [hg]; rfl) i (.int .i64 p) (by simp [hi])
  rwa [addr_at, ← Nat.zero_add i] at this
 obtain ⟨A, c, hA⟩ := row_form h.thr
 have th : ThrAt w A st.scr.threads := fun h0 => by
  obtain ⟨g, cap, hg⟩ := row_some h.thr (by omega)
  rw [hg] at hA
  simp only [Value.slice.injEq, true_and] at hA
  obtain ⟨rfl, rfl⟩ := hA
  refine ⟨g, 0, rfl, row_lt h.thr (by rw [hg]; rfl), fun i t hi => ?_⟩
  have hlt : i < us.length := by rw [hus]; exact (List.getElem?_eq_some_iff.1 hi).1
  have hu : us[i]? = some us[i] := List.getElem?_eq_getElem hlt
  obtain ⟨a, cc, hac, ho⟩ := row_ops (h.ops i _ t hu hi)
  have := h.thr.cells (g := g) (by rw [hg]; rfl) i _ hu
  rw [addr_at, hac, ← Nat.zero_add i] at this
  exact ⟨a, cc, this, ho⟩
 exact ⟨A, c, D, d, by rw [hA, hus], hD, th, pk, by have := hs.1.1; omega, by have := hs.2; omega, fun t ht => by have := hs.1.2 t ht; omega⟩
theorem BoxAt.over {B : Nat} {w0 w w' : World} {P : Nat} {st : PS} {vt vp : Value} {us : List Value} (h : BoxAt B w0 w P st vt vp us) (hk : ∀ k, B ≤ k → k < w.heap.size → w'.heap[k]? = w.heap[k]?) (hz : w.heap.size ≤ w'.heap.size) : BoxAt B w' w' P st vt vp us :=
 ⟨h.base, (hk P h.base h.lt).trans h.par, row_keep h.thr (fun g hg => hk g (row_kind h.thr hg).1 (row_lt h.thr hg)), h.hus,
  fun i u t hu ht => row_keep (h.ops i u t hu ht) (fun g hg => hk g (row_kind (h.ops i u t hu ht) hg).1 (row_lt (h.ops i u t hu ht) hg)), h.dist, row_keep h.pks (fun g hg => hk g (row_kind h.pks hg).1 (row_lt h.pks hg)), Below.refl _ _, Nat.le_trans h.size hz⟩
theorem BoxAt.addT {B : Nat} {w0 w w' : World} {P : Nat} {st : PS} {vt vp v' : Value} {us : List Value} (h : BoxAt B w0 w P st vt vp us) (hg : w.grownBy w' vt.ownBlock) (y : Value) (t0 : List OpD) (hy : w.ownsRow B 68 5 y t0.length (t0.flatMap opC))
  (hd : ∀ (i : Nat) (v : Value) (b : Nat), us[i]? = some v → v.ownBlock = some b → y.ownBlock ≠ some b) (hown : w'.ownsRow B 66 1 v' (us.length + 1) (us ++ [y])) :
  BoxAt B w0 (w'.setCell ⟨P, 1, none⟩ v') P { st with scr := { st.scr with threads := st.scr.threads ++ [t0] } } v' vp (us ++ [y]) := by
 have hbk : ∀ k, k < w.heap.size → vt.ownBlock ≠ some k → w'.heap[k]? = w.heap[k]? := fun k hk hr => hg.block k hk (fun e => hr e.symm)
 have hP' : w'.heap[P]? = some (bxO st vt vp) := (hbk P h.lt (row_ne h.thr h.par (by decide))).trans h.par
 have hb : Below B w w' := ⟨hg.os, hg.tape, hg.output, hg.size, fun k hk => hg.block k (Nat.lt_of_lt_of_le hk h.size) (fun e => by have := (row_kind h.thr e.symm).1; omega)⟩
 have tr : ∀ {e : TypeId} {size n : Nat} {v : Value} {xs : List Value}, w.ownsRow B e size v n xs → e ≠ 66 → e ≠ 30 → (w'.setCell ⟨P, 1, none⟩ v').ownsRow B e size v n xs := fun {e size n v xs} hr he hp => by
  have h1 : w'.ownsRow B e size v n xs := row_keep hr (fun g hgg => hbk g (row_lt hr hgg) (row_row hr h.thr he hgg))
  exact ownsRow_setCell_other h1 (row_ne h1 hP' (Ne.symm hp)) _
 refine ⟨h.base, heap_set (j := 1) hP' v', ?_, by simp [h.hus], ?_, ?_, tr h.pks (by decide) (by decide), (h.below.trans hb).setCell (p := ⟨P, 1, none⟩) h.base _, ?_⟩
 ·have := ownsRow_setCell_other hown (a := ⟨P, 1, none⟩) (row_ne hown hP' (by decide)) v'
  simpa using this
 ·intro i u t hu ht
  rw [List.getElem?_append] at hu
  simp only [List.getElem?_append] at ht
  split at hu
  ·next hi =>
   rw [if_pos (by rw [← h.hus]; exact hi)] at ht
   exact tr (h.ops i u t hu ht) (by decide) (by decide)
  ·next hi =>
   rw [if_neg (by rw [← h.hus]; exact hi)] at ht
   have hi0 : i - us.length = 0 := by
    have := (List.getElem?_eq_some_iff.1 hu).1
    simp at this
    omega
   rw [hi0] at hu
   rw [← h.hus, hi0] at ht
   simp only [List.getElem?_cons_zero, Option.some.injEq] at hu ht
   subst hu ht
   exact tr hy (by decide) (by decide)
 ·intro i j u v b hu hv hub hvb
  rw [List.getElem?_append] at hu hv
  split at hu
  ·split at hv
   ·exact h.dist i j u v b hu hv hub hvb
   ·next hj =>
    have hj0 : j - us.length = 0 := by
     have := (List.getElem?_eq_some_iff.1 hv).1
     simp at this
     omega
    rw [hj0] at hv
    simp only [List.getElem?_cons_zero, Option.some.injEq] at hv
    subst hv
    exact absurd hvb (hd i u b hu hub)
  ·next hi =>
   have hi0 : i - us.length = 0 := by
    have := (List.getElem?_eq_some_iff.1 hu).1
    simp at this
    omega
   rw [hi0] at hu
   simp only [List.getElem?_cons_zero, Option.some.injEq] at hu
   subst hu
   split at hv
   ·exact absurd hub (hd j v b hv hvb)
   ·next hj =>
    have := (List.getElem?_eq_some_iff.1 hv).1
    simp at this
    omega
 ·have := hg.size
  have := h.size
  simp [World.setCell]
  omega
end Go.Proofs.YtpabdmcbahmjnaaGreat.Sc
namespace Go.Proofs.YtpabdmcbahmjnaaGreat.Sc
open Go Go.RowKit Go.MapKept
set_option linter.unusedSimpArgs false
set_option linter.unusedVariables false
structure Only (S : Nat → Prop) (w w' : World) : Prop where
 os : w'.os = w.os
 tape : w'.tape = w.tape
 output : w'.output = w.output
 size : w.heap.size ≤ w'.heap.size
 block : ∀ k, k < w.heap.size → ¬ S k → w'.heap[k]? = w.heap[k]?
theorem Only.refl (S : Nat → Prop) (w : World) : Only S w w := ⟨rfl, rfl, rfl, Nat.le_refl _, fun _ _ _ => rfl⟩
theorem Only.trans {S T : Nat → Prop} {a b c : World} (h : Only S a b) (k : Only T b c) (hs : ∀ i, T i → S i ∨ a.heap.size ≤ i) : Only S a c :=
 ⟨k.os.trans h.os, k.tape.trans h.tape, k.output.trans h.output, Nat.le_trans h.size k.size, fun i hi hn =>
  (k.block i (Nat.lt_of_lt_of_le hi h.size) (fun ht => (hs i ht).elim hn (fun hh => absurd hi (by omega)))).trans (h.block i hi hn)⟩
theorem Only.drew {S : Nat → Prop} {a b : World} (h : Only S a b) : Only S a b.drew := ⟨h.os, h.tape, h.output, h.size, h.block⟩
theorem Only.drewN {S : Nat → Prop} {a b : World} (h : Only S a b) (n : Nat) : Only S a (b.drewN n) := ⟨h.os, h.tape, h.output, h.size, h.block⟩
theorem Only.alloc {S : Nat → Prop} {a b : World} (h : Only S a b) (o : Obj) : Only S a (b.alloc o) :=
 ⟨h.os, h.tape, h.output, by show a.heap.size ≤ (b.heap.push o).size; rw [Array.size_push]; have := h.size; omega, fun i hi hn =>
  (Below.heap_alloc b o i (Nat.lt_of_lt_of_le hi h.size)).trans (h.block i hi hn)⟩
theorem Only.setCell {S : Nat → Prop} {a b : World} (h : Only S a b) {p : Addr} (hp : S p.block ∨ a.heap.size ≤ p.block) (u : Value) : Only S a (b.setCell p u) :=
 ⟨h.os, h.tape, h.output, by show a.heap.size ≤ (b.heap.modify _ _).size; rw [Array.size_modify]; exact h.size, fun i hi hn =>
  (Below.heap_setCell b p u i (fun e => by subst e; rcases hp with hp | hp; exact hn hp; omega)).trans (h.block i hi hn)⟩
theorem Only.below {S : Nat → Prop} {a b : World} (h : Only S a b) {B : Nat} (hB : B ≤ a.heap.size) (hs : ∀ i, S i → B ≤ i) : Below B a b :=
 ⟨h.os, h.tape, h.output, h.size, fun i hi => h.block i (by omega) fun hh => by have := hs i hh; omega⟩
theorem Only.setAt {S : Nat → Prop} {a c : World} (h : Only S a c) {b j : Nat} (hp : a.heap.size ≤ b) (u : Value) : Only S a (c.setCell ⟨b, j, none⟩ u) := h.setCell (Or.inr hp) u
theorem Only.setOwn {S : Nat → Prop} {a c : World} (h : Only S a c) {b j : Nat} (hp : S b) (u : Value) : Only S a (c.setCell ⟨b, j, none⟩ u) := h.setCell (Or.inl hp) u
def TapeIs (w : World) (B bt : Nat) : Prop :=
 ∃ (A : Option Addr) (n c i : Nat), w.heap[bt]? = some (.cells #[.slice A n c, .int .i64 i] 87 (0, 0)) ∧ B ≤ bt ∧ i ≤ n ∧ n ≤ 9223372036854775807 ∧
  (0 < n → ∃ b off, A = some ⟨b, off, none⟩ ∧ b < B ∧ ∀ k, k < n → ∃ z : Int, w.cell? ⟨b, off + k, none⟩ = some (.int .i64 z) ∧ -9223372036854775808 ≤ z ∧ z ≤ 9223372036854775807)
theorem TapeIs.lt {w : World} {B bt : Nat} (h : TapeIs w B bt) : bt < w.heap.size := by
 obtain ⟨A, n, c, i, hb, _⟩ := h
 exact (Array.getElem?_eq_some_iff.1 hb).1
theorem TapeIs.keep {w w' : World} {B bt : Nat} (h : TapeIs w B bt) (h1 : w'.heap[bt]? = w.heap[bt]?) (h2 : ∀ k, k < B → w'.heap[k]? = w.heap[k]?) : TapeIs w' B bt := by
 obtain ⟨A, n, c, i, hb, hB, hi, hn, hr⟩ := h
 refine ⟨A, n, c, i, h1.trans hb, hB, hi, hn, fun h0 => ?_⟩
 obtain ⟨b, off, rfl, hlt, hc⟩ := hr h0
 exact ⟨b, off, rfl, hlt, fun k hk => by obtain ⟨z, hz, hz2⟩ := hc k hk; exact ⟨z, (World.cell?_of_block (h2 b hlt)).trans hz, hz2⟩⟩
theorem TapeIs.only {w w' : World} {B bt : Nat} {S : Nat → Prop} (h : TapeIs w B bt) (ho : Only S w w') (hs : ¬ S bt) (hB : ∀ k, k < B → ¬ S k) : TapeIs w' B bt := by
 have hl := h.lt
 have hb : B ≤ bt := by obtain ⟨_, _, _, _, _, hB, _⟩ := h; exact hB
 exact h.keep (ho.block bt hl hs) fun k hk => ho.block k (by omega) (hB k hk)
theorem wrap_pos (v : Int) : 0 ≤ IntKind.u64.wrap v := by rw [IntKind.wrap_u64]; omega
def modI (v m : Int) : Int := IntKind.u64.wrap v % m
theorem modI_bd (v m : Int) (h1 : 1 ≤ m) : 0 ≤ modI v m ∧ modI v m < m :=
 ⟨Int.emod_nonneg _ (by omega), Int.emod_lt_of_pos _ (by omega)⟩
theorem mod_any (v m : Int) (w : World) (h1 : 1 ≤ m) (h2 : m ≤ 1152921504606846976) :
  Calls Tryz.prog 10 #[.int .i64 v, .int .i64 m] w fun e w' => e = .returned (.int .i64 (modI v m)) ∧ w = w' := by
 have hp := wrap_pos v
 have hb := modI_bd v m h1
 have hz : (m == 0) = false := by simp; omega
 have X := Lib.hid (show modI v m = IntKind.u64.wrap v % m from rfl)
 generalize modI v m = y at *
 generalize hx : IntKind.u64.wrap v = x at *
 have hl : x % m < m := by rw [← X.out]; exact hb.2
 have hg : 0 ≤ x % m := by rw [← X.out]; exact hb.1
 go_enter Tryz.func10, Tryz.ntmps10
 go_wp2
 go_ret
 exact ⟨ret_int X.out.symm, rfl⟩
theorem mod_same (v m : Int) (w : World) (h1 : 1 ≤ m) (h2 : m ≤ 1152921504606846976) :
  Calls Tryz.prog 10 #[.int .i64 v, .int .i64 m] w fun e w' => e = .returned (.int .i64 (modI v m)) ∧ w' = w :=
 (mod_any v m w h1 h2).mono fun _ _ ⟨he, hw⟩ => ⟨he, hw.symm⟩
theorem tnew_any (w : World) (A : Option Addr) (n c : Nat) : Calls Tryz.prog 23 #[.slice A n c] w fun e w' => e = .returned (.pointer (some ⟨w.heap.size, 0, none⟩)) ∧ w' = w.alloc (.cells #[.slice A n c, .int .i64 0] 87) := by
 go_enter Tryz.func23, Tryz.ntmps23
 go_wp2
 go_ret
 exact ⟨rfl, rfl⟩
theorem TapeIs.made {w : World} {B : Nat} {A : Option Addr} {n c : Nat} (hB : B ≤ w.heap.size) (hn : n ≤ 9223372036854775807)
  (hr : 0 < n → ∃ b off, A = some ⟨b, off, none⟩ ∧ b < B ∧ ∀ k, k < n → ∃ z : Int, w.cell? ⟨b, off + k, none⟩ = some (.int .i64 z) ∧ -9223372036854775808 ≤ z ∧ z ≤ 9223372036854775807) :
  TapeIs (w.alloc (.cells #[.slice A n c, .int .i64 0] 87)) B w.heap.size := by
 refine ⟨A, n, c, 0, (heap_alloc w _).1, hB, Nat.zero_le _, hn, fun h0 => ?_⟩
 obtain ⟨b, off, rfl, hb, hc⟩ := hr h0
 exact ⟨b, off, rfl, hb, fun k hk => by obtain ⟨z, hz, hz2⟩ := hc k hk; exact ⟨z, (World.cell?_of_block ((heap_alloc w _).2 b (by omega))).trans hz, hz2⟩⟩
theorem TapeIs.step {w : World} {B bt : Nat} {b off n c i : Nat} (hb : w.heap[bt]? = some (.cells #[.slice (some ⟨b, off, none⟩) n c, .int .i64 i] 87 (0, 0))) (hB : B ≤ bt) (hi : i < n) (hn : n ≤ 9223372036854775807) (hbB : b < B)
  (hc : ∀ k, k < n → ∃ z : Int, w.cell? ⟨b, off + k, none⟩ = some (.int .i64 z) ∧ -9223372036854775808 ≤ z ∧ z ≤ 9223372036854775807) (p q : Nat) :
  TapeIs (((w.drewN p).setCell ⟨bt, 1, none⟩ (.int .i64 ((i : Int) + 1))).drewN q) B bt := by
 refine ⟨some ⟨b, off, none⟩, n, c, i + 1, ?_, hB, by omega, hn, fun _ => ⟨b, off, rfl, hbB, fun k hk => ?_⟩⟩
 ·have hb' : (w.drewN p).heap[bt]? = _ := hb
  show ((w.drewN p).setCell ⟨bt, 1, none⟩ (.int .i64 ((i : Int) + 1))).heap[bt]? = _
  simp [World.setCell, Array.getElem?_modify, hb]
 ·obtain ⟨z, hz, hz2⟩ := hc k hk
  refine ⟨z, ?_, hz2⟩
  have : ((w.drewN p).setCell ⟨bt, 1, none⟩ (.int .i64 ((i : Int) + 1))).heap[b]? = (w.drewN p).heap[b]? := Below.heap_setCell _ _ _ b (by show b ≠ bt; omega)
  exact (World.cell?_of_block this).trans hz
def InRange (m : Int) (e : Ending) : Prop := ∃ r : Int, 0 ≤ r ∧ r < m ∧ e = .returned (.int .i64 r)
theorem tnext_any (w : World) (B bt : Nat) (m : Int) (h : TapeIs w B bt) (h1 : 1 ≤ m) (h2 : m ≤ 1152921504606846976) :
  Calls Tryz.prog 25 #[.pointer (some ⟨bt, 0, none⟩), .int .i64 m] w fun e w' => InRange m e ∧ TapeIs w' B bt ∧ Only (· = bt) w w' := by
 have hlt := h.lt
 have H := Lib.hid h
 obtain ⟨A, n, c, i, hb, hB, hi, hn, hr⟩ := h
 have c0 : w.cell? ⟨bt, 0, none⟩ = some (.slice A n c) := by simp [World.cell?, hb]
 have c1 : w.cell? ⟨bt, 1, none⟩ = some (.int .i64 i) := by simp [World.cell?, hb]
 have f1 : w.frozen? ⟨bt, 1, none⟩ = false := by simp [World.frozen?, hb]
 by_cases hin : i < n
 ·obtain ⟨b, off, rfl, hbB, hc⟩ := hr (by omega)
  obtain ⟨z, hz, z0, z1⟩ := hc i hin
  have HB := Lib.hid hb
  have HR := Lib.hid hc
  have hne : b ≠ bt := by omega
  have e1 : (i : Int) + 1 - 1 = i := by omega
  have e2 : IntKind.i64.wrap ((i : Int) + 1 - 1) = i := by rw [e1]; exact IntWalk.i64_in _ (by omega)
  have hne2 : bt ≠ b := by omega
  have hi0 : (0 : Int) ≤ i := by omega
  have hi1 : (i : Int) < n := by omega
  clear hb hc hr
  go_enter Tryz.func25, Tryz.ntmps25
  go_wp2_with fail
  go_quiet (fail)
  go_wp2_with fail
  go_quiet ((go_at_call 10; exact Calls.quiet_of_same (mod_same _ _ _ h1 h2)))
  go_wp2_with fail
  go_ret
  have hm := modI_bd z m h1
  exact ⟨⟨_, hm.1, hm.2, rfl⟩, TapeIs.step HB.out hB hin hn hbB HR.out _ _, Only.drewN (Only.setOwn (S := (· = bt)) ((Only.refl _ _).drewN _) rfl _) _⟩
 ·clear hr hb
  go_enter Tryz.func25, Tryz.ntmps25
  go_wp2_with fail
  go_quiet (fail)
  go_wp2_with fail
  go_ret
  exact ⟨⟨0, by omega, by omega, rfl⟩, H.out, (Only.refl _ _).drewN _⟩
def keys8 : List ByteArray := [⟨#[97]⟩, ⟨#[98]⟩, ⟨#[99]⟩, ⟨#[100]⟩, ⟨#[97, 98]⟩, ⟨#[]⟩, ⟨#[98, 48]⟩, ⟨#[107, 101, 121]⟩]
def SomeKey (e : Ending) : Prop := ∃ k ∈ keys8, e = .returned (.string k)
theorem tkey_any (w : World) (B bt : Nat) (h : TapeIs w B bt) :
  Calls Tryz.prog 41 #[.pointer (some ⟨bt, 0, none⟩)] w fun e w' => SomeKey e ∧ TapeIs w' B bt ∧ Only (· = bt) w w' := by
 have hlt := h.lt
 have ht := h.only (S := fun _ => False) ((Only.refl _ w).alloc (.cells #[.string ⟨#[97]⟩, .string ⟨#[98]⟩, .string ⟨#[99]⟩, .string ⟨#[100]⟩, .string ⟨#[97, 98]⟩, .string ⟨#[]⟩, .string ⟨#[98, 48]⟩, .string ⟨#[107, 101, 121]⟩] 9)) (fun hh => hh) (fun _ _ hh => hh)
 have hn := tnext_any _ B bt 8 ht (by omega) (by omega)
 have HN := Lib.hid hn
 clear hn ht h
 go_enter Tryz.func41, Tryz.ntmps41
 go_wp2_with fail
 refine HN.out.mono ?_
 rintro e w1 ⟨⟨r, r0, r1, rfl⟩, ht1, ho1⟩
 have hb := ho1.block w.heap.size (by simp) (by omega)
 have hb2 := (heap_alloc w (.cells #[.string ⟨#[97]⟩, .string ⟨#[98]⟩, .string ⟨#[99]⟩, .string ⟨#[100]⟩, .string ⟨#[97, 98]⟩, .string ⟨#[]⟩, .string ⟨#[98, 48]⟩, .string ⟨#[107, 101, 121]⟩] 9)).1
 have hb3 := hb.trans hb2
 clear hb hb2 HN
 have hc : ∀ j : Nat, w1.cell? ⟨w.heap.size, j, none⟩ = (#[Value.string ⟨#[97]⟩, .string ⟨#[98]⟩, .string ⟨#[99]⟩, .string ⟨#[100]⟩, .string ⟨#[97, 98]⟩, .string ⟨#[]⟩, .string ⟨#[98, 48]⟩, .string ⟨#[107, 101, 121]⟩] : Array Value)[j]? := by
  intro j; simp [World.cell?, hb3]
 have O1 := Lib.hid (Only.trans ((Only.refl (· = bt) w).alloc _) ho1 (fun i hi => Or.inl hi))
 have T1 := Lib.hid ht1
 clear ht1 ho1 hb3
 obtain ⟨R, rfl⟩ := Int.eq_ofNat_of_zero_le r0
 have hR : R < 8 := by omega
 clear r0 r1
 have hcase : R = 0 ∨ R = 1 ∨ R = 2 ∨ R = 3 ∨ R = 4 ∨ R = 5 ∨ R = 6 ∨ R = 7 := by omega
 have h0 := hc 0
 have h1 := hc 1
 have h2 := hc 2
 have h3 := hc 3
 have h4 := hc 4
 have h5 := hc 5
 have h6 := hc 6
 have h7 := hc 7
 simp at h0 h1 h2 h3 h4 h5 h6 h7
 clear hc hR
 rcases hcase with rfl | rfl | rfl | rfl | rfl | rfl | rfl | rfl
 all_goals
  go_wp2_with fail
  go_ret
  exact ⟨⟨_, by simp [keys8], rfl⟩, T1.out, O1.out⟩
def OwnB (P : Nat) (vt vp : Value) (us : List Value) (k : Nat) : Prop := k = P ∨ vt.ownBlock = some k ∨ vp.ownBlock = some k ∨ ∃ (i : Nat) (u : Value), us[i]? = some u ∧ u.ownBlock = some k
theorem BoxAt.keep {B : Nat} {w0 w w' : World} {P : Nat} {st : PS} {vt vp : Value} {us : List Value} (h : BoxAt B w0 w P st vt vp us) (hk : ∀ k, OwnB P vt vp us k → w'.heap[k]? = w.heap[k]?) (hb : Below B w w') : BoxAt B w0 w' P st vt vp us :=
 ⟨h.base, (hk P (Or.inl rfl)).trans h.par, row_keep h.thr (fun g hg => hk g (Or.inr (Or.inl hg))), h.hus, fun i u t hu ht => row_keep (h.ops i u t hu ht) (fun g hg => hk g (Or.inr (Or.inr (Or.inr ⟨i, u, hu, hg⟩)))), h.dist,
  row_keep h.pks (fun g hg => hk g (Or.inr (Or.inr (Or.inl hg)))), h.below.trans hb, Nat.le_trans h.size hb.size⟩
theorem BoxAt.kind {B : Nat} {w0 w : World} {P : Nat} {st : PS} {vt vp : Value} {us : List Value} (h : BoxAt B w0 w P st vt vp us) {k : Nat} (hk : OwnB P vt vp us k) : B ≤ k ∧ k < w.heap.size ∧ ∃ cs t, w.heap[k]? = some (.cells cs t (0, 0)) ∧ (t = 30 ∨ t = 66 ∨ t = 3 ∨ t = 68) := by
 rcases hk with rfl | hk | hk | ⟨i, u, hu, hk⟩
 ·exact ⟨h.base, h.lt, _, _, h.par, Or.inl rfl⟩
 ·obtain ⟨h1, cur, h2⟩ := row_kind h.thr hk
  exact ⟨h1, row_lt h.thr hk, cur, _, h2, Or.inr (Or.inl rfl)⟩
 ·obtain ⟨h1, cur, h2⟩ := row_kind h.pks hk
  exact ⟨h1, row_lt h.pks hk, cur, _, h2, Or.inr (Or.inr (Or.inl rfl))⟩
 ·have hi : i < st.scr.threads.length := by rw [← h.hus]; exact (List.getElem?_eq_some_iff.1 hu).1
  have hr := h.ops i u _ hu (List.getElem?_eq_getElem hi)
  obtain ⟨h1, cur, h2⟩ := row_kind hr hk
  exact ⟨h1, row_lt hr hk, cur, _, h2, Or.inr (Or.inr (Or.inr rfl))⟩
theorem BoxAt.tape {B : Nat} {w0 w w' : World} {P : Nat} {st : PS} {vt vp : Value} {us : List Value} (h : BoxAt B w0 w P st vt vp us) {bt C : Nat} (ht : TapeIs w C bt) (hB : B ≤ bt) (ho : Only (· = bt) w w') : BoxAt B w0 w' P st vt vp us := by
 refine h.keep (fun k hk => ?_) (ho.below h.size (fun i hi => by rw [hi]; exact hB))
 obtain ⟨h1, h2, cs, t, h3, h4⟩ := h.kind hk
 refine ho.block k h2 (fun e => ?_)
 obtain ⟨A, n, c, i, hb, _⟩ := ht
 rw [e] at h3
 rw [hb] at h3
 simp only [Option.some.injEq, Obj.cells.injEq] at h3
 rcases h4 with h4 | h4 | h4 | h4 <;> (rw [h4] at h3; exact absurd h3.2.1 (by decide))
theorem row_tape {B : Nat} {w w' : World} {v : Value} {e : TypeId} {size n : Nat} {xs : List Value} (h : w.ownsRow B e size v n xs) {bt C : Nat} (ht : TapeIs w C bt) (he : e ≠ 87) (ho : Only (· = bt) w w') : w'.ownsRow B e size v n xs := by
 refine row_keep h (fun g hg => ho.block g (row_lt h hg) (fun eq => ?_))
 obtain ⟨A, n, c, i, hb, _⟩ := ht
 exact row_ne h hb (Ne.symm he) (by rw [← eq]; exact hg)
structure GenAt (B : Nat) (w0 w : World) (P : Nat) (st : PS) (vt vp : Value) (us : List Value) (v9 : Value) (t : List OpD) (v7 : Value) (hs : List Int) (bt : Nat) : Prop where
 box : BoxAt B w0 w P st vt vp us
 row : w.ownsRow B 68 5 v9 t.length (t.flatMap opC)
 apart : ∀ (i : Nat) (u : Value) (b : Nat), us[i]? = some u → u.ownBlock = some b → v9.ownBlock ≠ some b
 hand : w.ownsRow B 3 1 v7 hs.length (hs.map (.int .i64))
 hbd : ∀ z ∈ hs, 0 ≤ z ∧ z ≤ 128
 nop : ∀ b, vp.ownBlock = some b → v7.ownBlock ≠ some b
 tape : TapeIs w B bt
theorem GenAt.call {B : Nat} {w0 w w' : World} {P : Nat} {st : PS} {vt vp : Value} {us : List Value} {v9 : Value} {t : List OpD} {v7 : Value} {hs : List Int} {bt : Nat} (h : GenAt B w0 w P st vt vp us v9 t v7 hs bt) (ho : Only (· = bt) w w') (ht : TapeIs w' B bt) : GenAt B w0 w' P st vt vp us v9 t v7 hs bt := by
 have hB : B ≤ bt := by obtain ⟨A, n, c, i, hb, hB, _⟩ := h.tape; exact hB
 exact ⟨h.box.tape h.tape hB ho, row_tape h.row h.tape (by decide) ho, h.apart, row_tape h.hand h.tape (by decide) ho, h.hbd, h.nop, ht⟩
theorem GenAt.above {B : Nat} {w0 w w' : World} {P : Nat} {st : PS} {vt vp : Value} {us : List Value} {v9 : Value} {t : List OpD} {v7 : Value} {hs : List Int} {bt : Nat} (h : GenAt B w0 w P st vt vp us v9 t v7 hs bt) (hb : Below w.heap.size w w') : GenAt B w0 w' P st vt vp us v9 t v7 hs bt :=
 ⟨h.box.above hb, row_keep h.row (fun g hg => hb.block g (row_lt h.row hg)), h.apart, row_keep h.hand (fun g hg => hb.block g (row_lt h.hand hg)), h.hbd, h.nop, h.tape.keep (hb.block _ h.tape.lt) (fun k hk => hb.block k (Nat.lt_of_lt_of_le hk h.box.size))⟩
theorem tape_row {w w' : World} {B bt : Nat} (h : TapeIs w B bt) {B' size n : Nat} {e : TypeId} {v : Value} {xs : List Value} (hr : w.ownsRow B' e size v n xs) (he : e ≠ 87) (hB : B ≤ B') (hz : B ≤ w.heap.size) (hg : w.grownBy w' v.ownBlock) : TapeIs w' B bt := by
 refine h.keep (hg.block bt h.lt (fun e' => ?_)) (fun k hk => hg.block k (by omega) (fun e' => ?_))
 ·obtain ⟨A, n, c, i, hb, _⟩ := h
  exact row_ne hr hb (Ne.symm he) e'.symm
 ·have := (row_kind hr e'.symm).1
  omega
theorem GenAt.op {B : Nat} {w0 w w' : World} {P : Nat} {st : PS} {vt vp : Value} {us : List Value} {v9 v9' : Value} {t : List OpD} {v7 : Value} {hs : List Int} {bt : Nat} (h : GenAt B w0 w P st vt vp us v9 t v7 hs bt) (o : OpD) (hg : w.grownBy w' v9.ownBlock)
  (hown : w'.ownsRow B 68 5 v9' (t.length + 1) (t.flatMap opC ++ opC o)) (hnew : ∀ b, v9'.ownBlock = some b → v9.ownBlock = some b ∨ w.heap.size ≤ b) : GenAt B w0 w' P st vt vp us v9' (t ++ [o]) v7 hs bt := by
 have hb : Below B w w' := ⟨hg.os, hg.tape, hg.output, hg.size, fun k hk => hg.block k (Nat.lt_of_lt_of_le hk h.box.size) (fun e => by have := (row_kind h.row e.symm).1; omega)⟩
 refine ⟨h.box.keep (fun k hk => ?_) hb, ?_, ?_, row_keep h.hand (fun g hgg => hg.block g (row_lt h.hand hgg) (fun e => row_row h.hand h.row (by decide) hgg e.symm)), h.hbd, h.nop, tape_row h.tape h.row (by decide) (Nat.le_refl _) h.box.size hg⟩
 ·obtain ⟨h1, h2, cs, ty, h3, h4⟩ := h.box.kind hk
  refine hg.block k h2 (fun e => ?_)
  rcases hk with rfl | hk | hk | ⟨i, u, hu, hk⟩
  ·exact row_ne h.row h.box.par (by decide) e.symm
  ·exact row_row h.box.thr h.row (by decide) hk e.symm
  ·exact row_row h.box.pks h.row (by decide) hk e.symm
  ·exact h.apart i u k hu hk e.symm
 ·have e : (t ++ [o]).flatMap opC = t.flatMap opC ++ opC o := by simp
  rw [e, List.length_append]
  exact hown
 ·intro i u b hu hub hb'
  rcases hnew b hb' with h1 | h1
  ·exact h.apart i u b hu hub h1
  ·have := (h.box.kind (Or.inr (Or.inr (Or.inr ⟨i, u, hu, hub⟩)))).2.1
   omega
theorem GenAt.handle {B : Nat} {w0 w w' : World} {P : Nat} {st : PS} {vt vp : Value} {us : List Value} {v9 : Value} {t : List OpD} {v7 v7' : Value} {hs : List Int} {bt : Nat} (h : GenAt B w0 w P st vt vp us v9 t v7 hs bt) (z : Int) (hz : 0 ≤ z ∧ z ≤ 128) (hg : w.grownBy w' v7.ownBlock)
  (hown : w'.ownsRow B 3 1 v7' (hs.length + 1) (hs.map (.int .i64) ++ [.int .i64 z])) (hvp : vp.ownBlock = none) : GenAt B w0 w' P st vt vp us v9 t v7' (hs ++ [z]) bt := by
 have hb : Below B w w' := ⟨hg.os, hg.tape, hg.output, hg.size, fun k hk => hg.block k (Nat.lt_of_lt_of_le hk h.box.size) (fun e => by have := (row_kind h.hand e.symm).1; omega)⟩
 refine ⟨h.box.keep (fun k hk => ?_) hb, row_keep h.row (fun g hgg => hg.block g (row_lt h.row hgg) (fun e => row_row h.row h.hand (by decide) hgg e.symm)), h.apart, by simpa using hown, ?_, fun b hb => by rw [hvp] at hb; simp at hb, tape_row h.tape h.hand (by decide) (Nat.le_refl _) h.box.size hg⟩
 ·obtain ⟨h1, h2, cs, ty, h3, h4⟩ := h.box.kind hk
  refine hg.block k h2 (fun e => ?_)
  rcases hk with rfl | hk | hk | ⟨i, u, hu, hk⟩
  ·exact row_ne h.hand h.box.par (by decide) e.symm
  ·exact row_row h.box.thr h.hand (by decide) hk e.symm
  ·rw [hvp] at hk; simp at hk
  ·have hi : i < st.scr.threads.length := by rw [← h.box.hus]; exact (List.getElem?_eq_some_iff.1 hu).1
   exact row_row (h.box.ops i u _ hu (List.getElem?_eq_getElem hi)) h.hand (by decide) hk e.symm
 ·intro x hx
  simp only [List.mem_append, List.mem_singleton] at hx
  rcases hx with hx | rfl
  ·exact h.hbd x hx
  ·exact hz
theorem TapeIs.setCell {w : World} {B bt : Nat} (h : TapeIs w B bt) {P j : Nat} (hP : B ≤ P) (hne : bt ≠ P) (v : Value) : TapeIs (w.setCell ⟨P, j, none⟩ v) B bt :=
 h.keep (Below.heap_setCell _ _ _ _ hne) (fun k hk => Below.heap_setCell _ _ _ _ (by simp only; omega))
theorem tape_ne {w : World} {B bt : Nat} (h : TapeIs w B bt) {P : Nat} {cs : Array Value} {t : TypeId} {f : Nat × Nat} (hP : w.heap[P]? = some (.cells cs t f)) (ht : t ≠ 87) : bt ≠ P := by
 rintro rfl
 obtain ⟨A, n, c, i, hb, _⟩ := h
 rw [hb] at hP
 simp only [Option.some.injEq, Obj.cells.injEq] at hP
 exact ht hP.2.1.symm
theorem GenAt.thread {B : Nat} {w0 w w' : World} {P : Nat} {st : PS} {vt vp v' : Value} {us : List Value} {v9 : Value} {t : List OpD} {v7 : Value} {hs : List Int} {bt : Nat} (h : GenAt B w0 w P st vt vp us v9 t v7 hs bt) (o : Obj) (hg : (w.alloc o).grownBy w' vt.ownBlock)
  (hown : w'.ownsRow B 66 1 v' (us.length + 1) (us ++ [v9])) :
  GenAt B w0 (w'.setCell ⟨P, 1, none⟩ v') P { st with scr := { st.scr with threads := st.scr.threads ++ [t] } } v' vp (us ++ [v9]) (.slice none 0 0) [] v7 hs bt := by
 have hb : Below w.heap.size w (w.alloc o) := (Below.refl _ _).alloc (Nat.le_refl _) _
 have ha := h.above hb
 have hP' : w'.heap[P]? = some (bxO st vt vp) := (hg.block P ha.box.lt (fun e => row_ne ha.box.thr ha.box.par (by decide) e.symm)).trans ha.box.par
 have t1 : TapeIs w' B bt := tape_row ha.tape ha.box.thr (by decide) (Nat.le_refl _) ha.box.size hg
 have h7 : w'.ownsRow B 3 1 v7 hs.length (hs.map (.int .i64)) := row_keep ha.hand (fun g hgg => hg.block g (row_lt ha.hand hgg) (fun e => row_row ha.hand ha.box.thr (by decide) hgg e.symm))
 exact ⟨ha.box.addT hg v9 t ha.row h.apart hown, World.ownsRow_nil _ _ _ _, fun i u b _ _ hb => by simp [Value.ownBlock] at hb, ownsRow_setCell_other h7 (row_ne h7 hP' (by decide)) _, h.hbd, h.nop, t1.setCell h.box.base (tape_ne t1 hP' (by decide)) _⟩
theorem step_int {ops : Array Oper} {o : Oper} {a : Act} {K : Act → World → Prop} {Q : Exit → Act → World → Prop} {E : Prop} (hgd : o.guard = none) (s x : Operand) (ho : o.op = .call { callee := .builtin .append, args := #[s, x], argTypes := #[22, 22] })
  (B : Nat) (W : World) (u : Value) (n : Nat) (xs : List Value) (hown : W.ownsRow B 3 1 u n xs) (hs : a.eval s = u) (ad : Addr) (m : Nat) (hx : a.eval x = .slice (some ad) m m) (ys : List Value) (hm : ys.length = m) (hc : ∀ j v, ys[j]? = some v → W.cell? (ad.add j) = some v) (h1 : ∀ v ∈ ys, v.oneCell' = true) (hB : B ≤ W.heap.size) (hn : n + m ≤ 1048576)
  (hK : ∀ a' c' w', w'.ownsRow B 3 1 (.slice a' (n + m) c') (n + m) (xs ++ ys) → W.grownBy w' u.ownBlock → K (a.put o.dst (.slice a' (n + m) c')) w') : if Region.wanted o (yielded ops a.tmps) = true then Oper.wp Tryz.prog o a W K Q else E := by
 have hw : Region.wanted o (yielded ops a.tmps) = true := by simp [Region.wanted, hgd]
 rw [if_pos hw]
 obtain ⟨i0, hi, hz0, hz1, hz2⟩ := info_parts int_info
 obtain ⟨v', w', hr, ho', hg, _⟩ := run_append_own (P := Tryz.prog) W B 22 o.type 3 i0 _ 1 8 Tryz.underlying22 hi hz0 hz1 hz2 rfl (by decide) u n xs hown ad m m ys (by omega) hc h1 (by unfold maxLen; omega) (by omega) hB
 obtain ⟨a', c', rfl⟩ := row_form ho'
 unfold Oper.wp execOp
 simp only [ho, resolve, invoke, builtin, Sem.run_bind, Sem.run_pure, Result.andThen_ok, List.map_toArray, List.map_cons, List.map_nil, hs, hx, hr]
 exact hK a' c' w' ho' hg
def MaskPost (e : Ending) : Prop := ∃ m : Int, 0 ≤ m ∧ m ≤ 18446744073709551615 ∧ e = .returned (.int .u64 m)
def masks10 : Array Value := #[.int .u64 18446744073709551615, .int .u64 0, .int .u64 1, .int .u64 64, .int .u64 63, .int .u64 4095, .int .u64 9223372036854775808, .int .u64 4032, .int .u64 3458764513820540928, .int .u64 18446744073709551615]
theorem masks_at (R : Nat) (h : R < 10) : ∃ m : Int, masks10[R]? = some (.int .u64 m) ∧ 0 ≤ m ∧ m ≤ 18446744073709551615 := by
 match R, h with
 | 0, _ => exact ⟨_, rfl, by decide, by decide⟩
 | 1, _ => exact ⟨_, rfl, by decide, by decide⟩
 | 2, _ => exact ⟨_, rfl, by decide, by decide⟩
 | 3, _ => exact ⟨_, rfl, by decide, by decide⟩
 | 4, _ => exact ⟨_, rfl, by decide, by decide⟩
 | 5, _ => exact ⟨_, rfl, by decide, by decide⟩
 | 6, _ => exact ⟨_, rfl, by decide, by decide⟩
 | 7, _ => exact ⟨_, rfl, by decide, by decide⟩
 | 8, _ => exact ⟨_, rfl, by decide, by decide⟩
 | 9, _ => exact ⟨_, rfl, by decide, by decide⟩
set_option maxHeartbeats 1000000 in
theorem tmask_any (w : World) (B bt : Nat) (h : TapeIs w B bt) :
  Calls Tryz.prog 24 #[.pointer (some ⟨bt, 0, none⟩)] w fun e w' => MaskPost e ∧ TapeIs w' B bt ∧ Only (· = bt) w w' := by
 have hlt := h.lt
 have ht := h.only (S := fun _ => False) ((Only.refl _ w).alloc (.cells masks10 27)) (fun hh => hh) (fun _ _ hh => hh)
 have HN := Lib.hid (tnext_any _ B bt 10 ht (by omega) (by omega))
 clear ht h
 go_enter Tryz.func24, Tryz.ntmps24
 go_wp2_with fail
 refine HN.out.mono ?_
 rintro e w1 ⟨⟨r, r0, r1, rfl⟩, ht1, ho1⟩
 have hb3 := (ho1.block w.heap.size (by simp) (by omega)).trans (heap_alloc w (.cells masks10 27)).1
 obtain ⟨R, rfl⟩ := Int.eq_ofNat_of_zero_le r0
 obtain ⟨m, hm, m0, m1⟩ := masks_at R (by omega)
 have hc : w1.cell? ⟨w.heap.size, R, none⟩ = some (.int .u64 m) := (blk_cell hb3 R).trans hm
 have O1 := Lib.hid (Only.trans ((Only.refl (· = bt) w).alloc _) ho1 (fun i hi => Or.inl hi))
 have T1 := Lib.hid ht1
 clear ht1 ho1 hb3 HN hm
 go_wp2_with fail
 go_ret
 exact ⟨⟨m, m0, m1, rfl⟩, T1.out, O1.out⟩
def BoolPost (e : Ending) : Prop := ∃ b, e = .returned (.bool b)
set_option maxHeartbeats 1000000 in
theorem tleft_any (w : World) (B bt : Nat) (h : TapeIs w B bt) :
  Calls Tryz.prog 27 #[.pointer (some ⟨bt, 0, none⟩)] w fun e w' => BoolPost e ∧ FewDraws w w' := by
 obtain ⟨A, n, c, i, hb, hB, hi, hn, hr⟩ := h
 have c0 : w.cell? ⟨bt, 0, none⟩ = some (.slice A n c) := blk_cell hb 0
 have c1 : w.cell? ⟨bt, 1, none⟩ = some (.int .i64 i) := blk_cell hb 1
 clear hr hb
 go_enter Tryz.func27, Tryz.ntmps27
 go_wp2_with fail
 go_quiet (fail)
 go_wp2_with fail
 go_ret
 exact ⟨⟨_, rfl⟩, (FewDraws.refl _).drewN _⟩
def kinds20 : Array Value := #[.int .i64 1, .int .i64 1, .int .i64 2, .int .i64 3, .int .i64 4, .int .i64 5, .int .i64 5, .int .i64 6, .int .i64 7, .int .i64 7, .int .i64 8, .int .i64 9, .int .i64 10, .int .i64 11, .int .i64 12, .int .i64 13, .int .i64 1, .int .i64 7, .int .i64 9, .int .i64 5]
theorem kinds_at (R : Nat) (h : R < 20) : ∃ m : Int, kinds20[R]? = some (.int .i64 m) ∧ 0 ≤ m ∧ m ≤ 20 := by
 match R, h with
 | 0, _ => exact ⟨1, rfl, by decide, by decide⟩
 | 1, _ => exact ⟨1, rfl, by decide, by decide⟩
 | 2, _ => exact ⟨2, rfl, by decide, by decide⟩
 | 3, _ => exact ⟨3, rfl, by decide, by decide⟩
 | 4, _ => exact ⟨4, rfl, by decide, by decide⟩
 | 5, _ => exact ⟨5, rfl, by decide, by decide⟩
 | 6, _ => exact ⟨5, rfl, by decide, by decide⟩
 | 7, _ => exact ⟨6, rfl, by decide, by decide⟩
 | 8, _ => exact ⟨7, rfl, by decide, by decide⟩
 | 9, _ => exact ⟨7, rfl, by decide, by decide⟩
 | 10, _ => exact ⟨8, rfl, by decide, by decide⟩
 | 11, _ => exact ⟨9, rfl, by decide, by decide⟩
 | 12, _ => exact ⟨10, rfl, by decide, by decide⟩
 | 13, _ => exact ⟨11, rfl, by decide, by decide⟩
 | 14, _ => exact ⟨12, rfl, by decide, by decide⟩
 | 15, _ => exact ⟨13, rfl, by decide, by decide⟩
 | 16, _ => exact ⟨1, rfl, by decide, by decide⟩
 | 17, _ => exact ⟨7, rfl, by decide, by decide⟩
 | 18, _ => exact ⟨9, rfl, by decide, by decide⟩
 | 19, _ => exact ⟨5, rfl, by decide, by decide⟩
 | k + 20, h => exact absurd h (by omega)
def OpFit (o : OpD) : Prop := OpOk o ∧ o.key.size ≤ 140737488351232 ∧ 0 ≤ o.handle ∧ o.handle ≤ 128
def OpPost (e : Ending) : Prop := ∃ o : OpD, OpFit o ∧ e = .returned (opV o)
theorem key8_size {k : ByteArray} (h : k ∈ keys8) : k.size ≤ 3 := by
 simp only [keys8, List.mem_cons, List.not_mem_nil, or_false] at h
 rcases h with rfl | rfl | rfl | rfl | rfl | rfl | rfl | rfl <;> decide
def NumsAt (w : World) (g n : Nat) : Prop := g < w.heap.size ∧ ∀ k, k < n → ∃ z : Int, w.cell? ⟨g, k, none⟩ = some (.int .i64 z) ∧ 0 ≤ z ∧ z ≤ 128
theorem NumsAt.only {w w' : World} {g n : Nat} {S : Nat → Prop} (h : NumsAt w g n) (ho : Only S w w') (hs : ¬ S g) : NumsAt w' g n :=
 ⟨Nat.lt_of_lt_of_le h.1 ho.size, fun k hk => by
  obtain ⟨z, hz, hz2⟩ := h.2 k hk
  exact ⟨z, (World.cell?_of_block (ho.block g h.1 hs)).trans hz, hz2⟩⟩
set_option maxRecDepth 100000 in
set_option maxHeartbeats 20000000 in
theorem top_any (w : World) (B bt g n cap : Nat) (h : TapeIs w B bt) (hg : g ≠ bt) (hn0 : 1 ≤ n) (hn1 : n ≤ 1048576) (hh : NumsAt w g n) :
  Calls Tryz.prog 26 #[.pointer (some ⟨bt, 0, none⟩), .slice (some ⟨g, 0, none⟩) n cap] w fun e w' => OpPost e ∧ TapeIs w' B bt ∧ Only (· = bt) w w' := by
 have hlt := h.lt
 have HO0 := Lib.hid (((Only.refl (fun k => k = bt) w).alloc (.cells #[.int .i64 0, .int .i64 0, .string ⟨#[]⟩, .int .u64 0, .int .u64 0] 68)).alloc (.cells kinds20 3))
 have ht := h.only (S := fun _ => False) (((Only.refl _ w).alloc (.cells #[.int .i64 0, .int .i64 0, .string ⟨#[]⟩, .int .u64 0, .int .u64 0] 68)).alloc (.cells kinds20 3)) (fun hh => hh) (fun _ _ hh => hh)
 have HN := Lib.hid (tnext_any _ B bt 20 ht (by omega) (by omega))
 have HH := Lib.hid hh
 have hn2 : (1 : Int) ≤ (n : Int) := by omega
 have hn3 : (n : Int) ≤ 1048576 := by omega
 clear ht h hh
 go_enter Tryz.func26, Tryz.ntmps26
 go_wp2_with fail
 refine HN.out.mono ?_
 rintro e w1 ⟨⟨r, r0, r1, rfl⟩, ht1, ho1⟩
 have hb0 := (heap_alloc (w.alloc (.cells #[.int .i64 0, .int .i64 0, .string ⟨#[]⟩, .int .u64 0, .int .u64 0] 68)) (.cells kinds20 3)).1
 rw [show (w.alloc (.cells #[.int .i64 0, .int .i64 0, .string ⟨#[]⟩, .int .u64 0, .int .u64 0] 68)).heap.size = w.heap.size + 1 by simp] at hb0
 have hb3 := (ho1.block (w.heap.size + 1) (by simp) (by omega)).trans hb0
 have hq0 := (heap_alloc w (.cells #[.int .i64 0, .int .i64 0, .string ⟨#[]⟩, .int .u64 0, .int .u64 0] 68)).1
 have hq1 := (ho1.block w.heap.size (by simp; omega) (by omega)).trans ((Below.heap_alloc _ _ _ (by simp)).trans hq0)
 have Q1 := Lib.hid hq1
 clear hb0 hq0 hq1
 obtain ⟨R, rfl⟩ := Int.eq_ofNat_of_zero_le r0
 obtain ⟨m, hm, m0, m1⟩ := kinds_at R (by omega)
 have hc : w1.cell? ⟨w.heap.size + 1, R, none⟩ = some (.int .i64 m) := (blk_cell hb3 R).trans hm
 have O1 := Lib.hid (Only.trans HO0.out ho1 (fun i hi => Or.inl hi))
 have T1 := Lib.hid ht1
 have N1 := Lib.hid (HH.out.only O1.out (fun e => hg e))
 have hbx := (O1.out.size)
 clear ht1 ho1 hb3 HN hm
 have hz1 : w.heap.size < w1.heap.size := (Array.getElem?_eq_some_iff.1 Q1.out).1
 go_wp2_with fail
 clear hc hbx r0 r1
 go_region_with (first | ((have hx := T4); clear hx; go_at_call 25; (refine (tnext_any _ B bt 4 ?ht (by omega) (by omega)).mono ?_); (case ht => exact T4.out); rintro e w5 ⟨⟨x4, x40, x41, rfl⟩, ht5, ho5⟩; (have hz5 := Nat.lt_of_lt_of_le hz4 ho5.size); (have Q5 := Lib.hid ((ho5.block w.heap.size hz4 (by omega)).trans Q4.out)); (have T5 := Lib.hid ht5); (have O5 := Lib.hid (Only.trans O4.out ho5 (fun i hi => Or.inl hi))); (have cz5 := (World.cell?_of_block (a := ⟨g, R2, none⟩) (ho5.block g (Nat.lt_of_lt_of_le HH.out.1 O4.out.size) hg)).trans cz4); (have y0 : w5.cell? ⟨w.heap.size, 0, none⟩ = some (.int .i64 0) := blk_cell Q5.out 0); (have y1 : w5.cell? ⟨w.heap.size, 1, none⟩ = some (.int .i64 0) := blk_cell Q5.out 1); (have y2 : w5.cell? ⟨w.heap.size, 2, none⟩ = some (.string ⟨#[]⟩) := blk_cell Q5.out 2); (have y3 : w5.cell? ⟨w.heap.size, 3, none⟩ = some (.int .u64 0) := blk_cell Q5.out 3); (have y4 : w5.cell? ⟨w.heap.size, 4, none⟩ = some (.int .u64 0) := blk_cell Q5.out 4); (have f0 : w5.frozen? ⟨w.heap.size, 0, none⟩ = false := blk_frozen Q5.out 0); (have f1 : w5.frozen? ⟨w.heap.size, 1, none⟩ = false := blk_frozen Q5.out 1); (have f2 : w5.frozen? ⟨w.heap.size, 2, none⟩ = false := blk_frozen Q5.out 2); (have f3 : w5.frozen? ⟨w.heap.size, 3, none⟩ = false := blk_frozen Q5.out 3); (have f4 : w5.frozen? ⟨w.heap.size, 4, none⟩ = false := blk_frozen Q5.out 4); clear ht5 ho5) | ((have hx := T3); clear hx; go_at_call 25; (refine (tnext_any _ B bt 4 ?ht (by omega) (by omega)).mono ?_); (case ht => exact T3.out); rintro e w4 ⟨⟨x3, x30, x31, rfl⟩, ht4, ho4⟩; (have hz4 := Nat.lt_of_lt_of_le hz3 ho4.size); (have Q4 := Lib.hid ((ho4.block w.heap.size hz3 (by omega)).trans Q3.out)); (have T4 := Lib.hid ht4); (have O4 := Lib.hid (Only.trans O3.out ho4 (fun i hi => Or.inl hi))); (have cz4 := (World.cell?_of_block (a := ⟨g, R2, none⟩) (ho4.block g (Nat.lt_of_lt_of_le HH.out.1 O3.out.size) hg)).trans cz3); clear ht4 ho4) | ((have hx := T2); clear hx; go_at_call 41; (refine (tkey_any _ B bt ?ht).mono ?_); (case ht => exact T2.out); rintro e w3 ⟨⟨kk, hkk, rfl⟩, ht3, ho3⟩; (have hz3 := Nat.lt_of_lt_of_le hz2 ho3.size); (have Q3 := Lib.hid ((ho3.block w.heap.size hz2 (by omega)).trans Q2.out)); (have T3 := Lib.hid ht3); (have O3 := Lib.hid (Only.trans O2.out ho3 (fun i hi => Or.inl hi))); (have cz3 := (World.cell?_of_block (a := ⟨g, R2, none⟩) (ho3.block g (Nat.lt_of_lt_of_le HH.out.1 O2.out.size) hg)).trans cz2); clear ht3 ho3) | (go_at_call 25; (refine (tnext_any _ B bt _ ?ht (by omega) (by omega)).mono ?_); (case ht => exact T1.out); rintro e w2 ⟨⟨x1, x10, x11, rfl⟩, ht2, ho2⟩; (have hz2 := Nat.lt_of_lt_of_le hz1 ho2.size); (have Q2 := Lib.hid ((ho2.block w.heap.size hz1 (by omega)).trans Q1.out)); (have T2 := Lib.hid ht2); (have O2 := Lib.hid (Only.trans O1.out.drew ho2 (fun i hi => Or.inl hi))); (obtain ⟨R2, rfl⟩ := Int.eq_ofNat_of_zero_le x10); (obtain ⟨zz, cz1, zz0, zz1⟩ := N1.out.2 R2 (by omega)); (have cz2 := (World.cell?_of_block (a := ⟨g, R2, none⟩) (ho2.block g (Nat.lt_of_lt_of_le HH.out.1 O1.out.size) hg)).trans cz1); clear ht2 ho2))
 all_goals
  have e3 : IntKind.u64.wrap x3 = x3 := by rw [IntKind.wrap_u64]; omega
  have e4 : IntKind.u64.wrap x4 = x4 := by rw [IntKind.wrap_u64]; omega
  have E3 := Lib.hid e3
  have E4 := Lib.hid e4
  clear e3 e4
  go_wp2_with fail
  have e3 := E3.out
  have e4 := E4.out
  refine bodyPost_ret (v := opV ⟨m, zz, kk, x3, x4⟩) (by simp [results, Tryz.results26, go_sem, y0, y1, y2, y3, y4, opV, e3, e4]) rfl ⟨⟨_, ⟨⟨by simp only; omega, by simp only; omega, by simp only; omega, by simp only; omega, x30, by simp only; omega, x40, by simp only; omega⟩, by (have hk3 := key8_size hkk); simp only; omega, zz0, zz1⟩, rfl⟩, ?_, ?_⟩
  ·have hBz : B ≤ w.heap.size := by
    obtain ⟨A, n, c, i, hb, hB, _⟩ := T5.out
    omega
   have hne : bt ≠ w.heap.size := by omega
   exact ((((T5.out.setCell hBz hne _).setCell hBz hne _).setCell hBz hne _).setCell hBz hne _).setCell hBz hne _
  ·exact ((((O5.out.setAt (Nat.le_refl _) _).setAt (Nat.le_refl _) _).setAt (Nat.le_refl _) _).setAt (Nat.le_refl _) _).setAt (Nat.le_refl _) _
end Go.Proofs.YtpabdmcbahmjnaaGreat.Sc
