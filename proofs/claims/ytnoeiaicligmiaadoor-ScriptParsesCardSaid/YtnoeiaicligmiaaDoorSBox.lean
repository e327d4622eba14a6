/- A script in a box (a variable of type api.Script): the laws of the parser's rows, turned by mkbox.py. -/
import Derived.Test.YtnoeiaicligmiaaDoorSAw
namespace Go.Proofs.YtnoeiaicligmiaaDoor
set_option linter.unusedVariables false
set_option linter.unusedSimpArgs false
open Go Go.RowKit
def bxO (st : PS) (vt vp : Value) : Obj := .cells #[.int .u64 st.scr.mask, vt, vp] 32
structure BoxAt (B : Nat) (w0 w : World) (P : Nat) (st : PS) (vt vp : Value) (us : List Value) : Prop where
  base : B ≤ P
  par : w.heap[P]? = some (bxO st vt vp)
  thr : w.ownsRow B 49 1 vt us.length us
  hus : us.length = st.scr.threads.length
  ops : ∀ (i : Nat) (u : Value) (t : List OpD), us[i]? = some u → st.scr.threads[i]? = some t → w.ownsRow B 39 5 u t.length (t.flatMap opC)
  dist : ∀ (i j : Nat) (u v : Value) (b : Nat), us[i]? = some u → us[j]? = some v → u.ownBlock = some b → v.ownBlock = some b → i = j
  pks : w.ownsRow B 3 1 vp st.scr.picks.length (st.scr.picks.map (.int .i64))
  below : Below B w0 w
  size : B ≤ w.heap.size
def Box (B : Nat) (w0 w : World) (P : Nat) (st : PS) : Prop := ∃ vt vp us, BoxAt B w0 w P st vt vp us
theorem BoxAt.lt {B : Nat} {w0 w : World} {P : Nat} {st : PS} {vt vp : Value} {us : List Value} (h : BoxAt B w0 w P st vt vp us) : P < w.heap.size := (Array.getElem?_eq_some_iff.1 h.par).1
theorem BoxAt.above {B : Nat} {w0 w w' : World} {P : Nat} {st : PS} {vt vp : Value} {us : List Value} (h : BoxAt B w0 w P st vt vp us) (hb : Below w.heap.size w w') : BoxAt B w0 w' P st vt vp us :=
  ⟨h.base, (hb.block P h.lt).trans h.par, row_keep h.thr (fun g hg => hb.block g (row_lt h.thr hg)), h.hus, fun i u t hu ht => row_keep (h.ops i u t hu ht) (fun g hg => hb.block g (row_lt (h.ops i u t hu ht) hg)), h.dist,
    row_keep h.pks (fun g hg => hb.block g (row_lt h.pks hg)), h.below.trans (hb.mono h.size), Nat.le_trans h.size hb.size⟩
theorem BoxAt.cell {B : Nat} {w0 w : World} {P : Nat} {st : PS} {vt vp : Value} {us : List Value} (h : BoxAt B w0 w P st vt vp us) : ∀ j : Nat, w.cell? ⟨P, j, none⟩ = (#[Value.int .u64 st.scr.mask, vt, vp])[j]? := fun j => blk_cell h.par j
theorem BoxAt.put {B : Nat} {w0 w w' : World} {P : Nat} {st st' : PS} {vt vp : Value} {us : List Value} (h : BoxAt B w0 w P st vt vp us) (ht : st'.scr.threads = st.scr.threads) (hp : st'.scr.picks = st.scr.picks) (hP : w'.heap[P]? = some (bxO st' vt vp)) (ho : ∀ k, k ≠ P → w'.heap[k]? = w.heap[k]?) (hb : Below B w w') : BoxAt B w0 w' P st' vt vp us := by
  have ne : ∀ {e : TypeId} {size n : Nat} {v : Value} {xs : List Value}, w.ownsRow B e size v n xs → e ≠ 32 → w'.ownsRow B e size v n xs := fun hr he => row_keep hr (fun g hg => ho g (fun hgP => row_ne hr h.par (Ne.symm he) (hgP ▸ hg)))
  exact ⟨h.base, hP, ne h.thr (by decide), by rw [ht]; exact h.hus, fun i u t hu hi => ne (h.ops i u t hu (by rw [← ht]; exact hi)) (by decide), h.dist, by rw [hp]; exact ne h.pks (by decide), h.below.trans hb, Nat.le_trans h.size hb.size⟩
theorem BoxAt.pick {B : Nat} {w0 w w' : World} {P : Nat} {st : PS} {vt vp v' : Value} {us : List Value} (h : BoxAt B w0 w P st vt vp us) (o : Obj) (hg : (w.alloc o).grownBy w' vp.ownBlock) (p : Int)
    (hown : w'.ownsRow B 3 1 v' (st.scr.picks.length + 1) (st.scr.picks.map (.int .i64) ++ [.int .i64 p])) :
    BoxAt B w0 (w'.setCell ⟨P, 2, none⟩ v') P { st with scr := { st.scr with picks := st.scr.picks ++ [p] } } vt v' us := by
  have hP' : w'.heap[P]? = some (bxO st vt vp) := (grown_block hg h.lt (row_ne h.pks h.par (by decide))).trans h.par
  have hb : Below B w w' := grown_below hg h.size (fun k hk => (row_kind h.pks hk).1)
  have tr : ∀ {e : TypeId} {size n : Nat} {v : Value} {xs : List Value}, w.ownsRow B e size v n xs → e ≠ 3 → e ≠ 32 → (w'.setCell ⟨P, 2, none⟩ v').ownsRow B e size v n xs := fun {e size n v xs} hr he hp => by
    have h1 : w'.ownsRow B e size v n xs := row_step hg hr (fun g hgg => row_row hr h.pks he hgg)
    exact ownsRow_setCell_other h1 (row_ne h1 hP' (Ne.symm hp)) _
  refine ⟨h.base, heap_set (j := 2) hP' v', tr h.thr (by decide) (by decide), h.hus, fun i u t hu ht => tr (h.ops i u t hu ht) (by decide) (by decide), h.dist, ?_, (h.below.trans hb).setCell (p := ⟨P, 2, none⟩) h.base _, ?_⟩
  · have := ownsRow_setCell_other hown (a := ⟨P, 2, none⟩) (row_ne hown hP' (by decide)) v'
    simpa using this
  · have := grown_size hg
    have := h.size
    simp [World.setCell]
    omega
theorem BoxAt.thread {B : Nat} {w0 w w' : World} {P : Nat} {st : PS} {vt vp v' : Value} {us : List Value} (h : BoxAt B w0 w P st vt vp us) (o : Obj) (hg : (w.alloc o).grownBy w' vt.ownBlock)
    (hown : w'.ownsRow B 49 1 v' (us.length + 1) (us ++ [.slice none 0 0])) :
    BoxAt B w0 (w'.setCell ⟨P, 1, none⟩ v') P { st with scr := { st.scr with threads := st.scr.threads ++ [[]] } } v' vp (us ++ [.slice none 0 0]) := by
  have hP' : w'.heap[P]? = some (bxO st vt vp) := (grown_block hg h.lt (row_ne h.thr h.par (by decide))).trans h.par
  have hb : Below B w w' := grown_below hg h.size (fun k hk => (row_kind h.thr hk).1)
  have tr : ∀ {e : TypeId} {size n : Nat} {v : Value} {xs : List Value}, w.ownsRow B e size v n xs → e ≠ 49 → e ≠ 32 → (w'.setCell ⟨P, 1, none⟩ v').ownsRow B e size v n xs := fun {e size n v xs} hr he hp => by
    have h1 : w'.ownsRow B e size v n xs := row_step hg hr (fun g hgg => row_row hr h.thr he hgg)
    exact ownsRow_setCell_other h1 (row_ne h1 hP' (Ne.symm hp)) _
  refine ⟨h.base, heap_set (j := 1) hP' v', ?_, by simp [h.hus], ?_, ?_, tr h.pks (by decide) (by decide), (h.below.trans hb).setCell (p := ⟨P, 1, none⟩) h.base _, ?_⟩
  · have := ownsRow_setCell_other hown (a := ⟨P, 1, none⟩) (row_ne hown hP' (by decide)) v'
    simpa using this
  · intro i u t hu ht
    rw [List.getElem?_append] at hu
    simp only [List.getElem?_append] at ht
    split at hu
    · next hi =>
      rw [if_pos (by rw [← h.hus]; exact hi)] at ht
      exact tr (h.ops i u t hu ht) (by decide) (by decide)
    · next hi =>
      rw [if_neg (by rw [← h.hus]; exact hi)] at ht
      have hi0 : i - us.length = 0 := by
        have := (List.getElem?_eq_some_iff.1 hu).1
        simp at this
        omega
      rw [hi0] at hu
      rw [← h.hus, hi0] at ht
      simp only [List.getElem?_cons_zero, Option.some.injEq] at hu ht
      subst hu ht
      exact World.ownsRow_nil _ _ _ _
  · intro i j u v b hu hv hub hvb
    rw [List.getElem?_append] at hu hv
    split at hu
    · split at hv
      · exact h.dist i j u v b hu hv hub hvb
      · next hj =>
        have hj0 : j - us.length = 0 := by
          have := (List.getElem?_eq_some_iff.1 hv).1
          simp at this
          omega
        rw [hj0] at hv
        simp only [List.getElem?_cons_zero, Option.some.injEq] at hv
        subst hv
        simp [Value.ownBlock] at hvb
    · next hi =>
      have hi0 : i - us.length = 0 := by
        have := (List.getElem?_eq_some_iff.1 hu).1
        simp at this
        omega
      rw [hi0] at hu
      simp only [List.getElem?_cons_zero, Option.some.injEq] at hu
      subst hu
      simp [Value.ownBlock] at hub
  · have := grown_size hg
    have := h.size
    simp [World.setCell]
    omega
theorem BoxAt.op {B : Nat} {w0 w w' : World} {P : Nat} {st : PS} {vp u u' : Value} {us : List Value} {g cap : Nat} {ts : List (List OpD)} {t : List OpD} (h : BoxAt B w0 w P st (.slice (some ⟨g, 0, none⟩) us.length cap) vp us) (hts : st.scr.threads = ts ++ [t]) (hu : us[ts.length]? = some u) (hg : w.grownBy w' u.ownBlock) (o : OpD)
    (hown : w'.ownsRow B 39 5 u' (t.length + 1) (t.flatMap opC ++ opC o)) (hnew : ∀ b, u'.ownBlock = some b → u.ownBlock = some b ∨ w.heap.size ≤ b) :
    BoxAt B w0 (w'.setCell ⟨g, ts.length, none⟩ u') P { st with scr := { st.scr with threads := addOp st.scr.threads o } } (.slice (some ⟨g, 0, none⟩) us.length cap) vp (us.set ts.length u') := by
  have hlen : us.length = ts.length + 1 := by rw [h.hus, hts]; simp
  have hu0 : w.ownsRow B 39 5 u t.length (t.flatMap opC) := h.ops _ _ _ hu (by rw [hts]; simp)
  have hthr := h.thr
  obtain ⟨hBg, cur, hgc⟩ := row_kind h.thr (g := g) rfl
  have hbk : ∀ k, k < w.heap.size → u.ownBlock ≠ some k → w'.heap[k]? = w.heap[k]? := fun k hk hr => hg.block k hk (fun e => hr e.symm)
  have hgne : u.ownBlock ≠ some g := row_ne hu0 hgc (by decide)
  have hPne : u.ownBlock ≠ some P := row_ne hu0 h.par (by decide)
  have hg' : w'.heap[g]? = some (.cells cur 49 (0, 0)) := (hbk g (row_lt h.thr rfl) hgne).trans hgc
  have hP' : w'.heap[P]? = some (bxO st (.slice (some ⟨g, 0, none⟩) us.length cap) vp) := (hbk P h.lt hPne).trans h.par
  have hgP : P ≠ g := by
    intro e
    have := h.par
    rw [e, hgc] at this
    simp [bxO] at this
  have hb : Below B w w' := ⟨hg.os, hg.tape, hg.output, hg.size, fun k hk => hg.block k (Nat.lt_of_lt_of_le hk h.size) (fun e => by have := (row_kind hu0 e.symm).1; omega)⟩
  have keep : ∀ {e : TypeId} {size n : Nat} {v : Value} {xs : List Value}, w.ownsRow B e size v n xs → (∀ b, v.ownBlock = some b → u.ownBlock ≠ some b) → v.ownBlock ≠ some g → (w'.setCell ⟨g, ts.length, none⟩ u').ownsRow B e size v n xs := fun {e size n v xs} hr h1 h2 =>
    ownsRow_setCell_other (row_keep hr (fun k hk => hbk k (row_lt hr hk) (h1 k hk))) h2 _
  refine ⟨h.base, ?_, ?_, ?_, ?_, ?_, ?_, (h.below.trans hb).setCell (p := ⟨g, ts.length, none⟩) hBg _, ?_⟩
  · rw [Below.heap_setCell _ _ _ _ hgP]; exact hP'
  · have h1 : w'.ownsRow B 49 1 (.slice (some ⟨g, 0, none⟩) us.length cap) us.length us := row_keep h.thr (fun k hk => hbk k (row_lt h.thr hk) (by simp only [Value.ownBlock, Option.some.injEq] at hk; subst hk; exact hgne))
    have h2 := row_set h1 ts.length (by omega) u'
    simpa using h2
  · rw [hts, addOp_last]
    simp [hlen]
  · intro i v s hv hs
    simp only [hts, addOp_last] at hs
    by_cases hi : i = ts.length
    · subst hi
      rw [List.getElem?_set_self (by omega)] at hv
      simp only [Option.some.injEq] at hv
      simp at hs
      subst hv hs
      have : (t ++ [o]).flatMap opC = t.flatMap opC ++ opC o := by simp
      rw [this, List.length_append]
      exact ownsRow_setCell_other hown (row_ne hown hg' (by decide)) _
    · rw [List.getElem?_set_ne (Ne.symm hi)] at hv
      have hs2 : st.scr.threads[i]? = some s := by
        rw [hts]
        rw [List.getElem?_append] at hs ⊢
        split at hs
        · next hlt => rw [if_pos hlt]; exact hs
        · next hge =>
          have := (List.getElem?_eq_some_iff.1 hs).1
          simp at this
          omega
      have hr := h.ops i v s hv hs2
      refine keep hr (fun b hb hub => hi (h.dist i ts.length v u b hv hu hb hub)) (row_ne hr hgc (by decide))
  · intro i j a b x ha hb' hax hbx
    have out : ∀ (k : Nat) (c : Value), k ≠ ts.length → us[k]? = some c → c.ownBlock = some x → u'.ownBlock ≠ some x := fun k c hk hc hcx hx => by
      have hkl : k < st.scr.threads.length := by rw [← h.hus]; exact (List.getElem?_eq_some_iff.1 hc).1
      have hr := h.ops k c _ hc (List.getElem?_eq_getElem hkl)
      rcases hnew x hx with h1 | h1
      · exact hk (h.dist k ts.length c u x hc hu hcx h1)
      · have := row_lt hr hcx
        omega
    by_cases hi : i = ts.length
    · by_cases hj : j = ts.length
      · omega
      · exfalso
        subst hi
        rw [List.getElem?_set_self (by omega)] at ha
        rw [List.getElem?_set_ne (Ne.symm hj)] at hb'
        simp only [Option.some.injEq] at ha
        subst ha
        exact out j b hj hb' hbx hax
    · rw [List.getElem?_set_ne (Ne.symm hi)] at ha
      by_cases hj : j = ts.length
      · exfalso
        subst hj
        rw [List.getElem?_set_self (by omega)] at hb'
        simp only [Option.some.injEq] at hb'
        subst hb'
        exact out i a hi ha hax hbx
      · rw [List.getElem?_set_ne (Ne.symm hj)] at hb'
        exact h.dist i j a b x ha hb' hax hbx
  · exact keep h.pks (fun b hb' => row_row h.pks hu0 (by decide) hb') (row_ne h.pks hgc (by decide))
  · have h1 := hg.size
    have h2 := h.size
    simp [World.setCell]
    omega
theorem BoxAt.repick {B : Nat} {w0 w : World} {P : Nat} {st : PS} {vt vp v' : Value} {us : List Value} (h : BoxAt B w0 w P st vt vp us) (ps : List Int) (hown : w.ownsRow B 3 1 v' ps.length (ps.map (.int .i64))) :
    BoxAt B w0 (w.setCell ⟨P, 2, none⟩ v') P { st with scr := { st.scr with picks := ps } } vt v' us := by
  have tr : ∀ {e : TypeId} {size n : Nat} {v : Value} {xs : List Value}, w.ownsRow B e size v n xs → e ≠ 32 → (w.setCell ⟨P, 2, none⟩ v').ownsRow B e size v n xs := fun {e size n v xs} hr hp => ownsRow_setCell_other hr (row_ne hr h.par (Ne.symm hp)) _
  refine ⟨h.base, heap_set (j := 2) h.par v', tr h.thr (by decide), h.hus, fun i u t hu ht => tr (h.ops i u t hu ht) (by decide), h.dist, tr hown (by decide), h.below.setCell (p := ⟨P, 2, none⟩) h.base _, ?_⟩
  have := h.size
  simp [World.setCell]
  omega
theorem BoxAt.scr {B : Nat} {w0 w : World} {P : Nat} {st : PS} {vt vp : Value} {us : List Value} (h : BoxAt B w0 w P st vt vp us) (hs : Small 1048576 st) : ∃ A c D d, vt = .slice A st.scr.threads.length c ∧ vp = .slice D st.scr.picks.length d ∧ ScrAt w A D st.scr := by
  have hus := h.hus
  obtain ⟨D, d, hD⟩ := row_form h.pks
  have pk : PicksAt w D st.scr.picks := fun h0 => by
    obtain ⟨g, cap, hg⟩ := row_some h.pks h0
    rw [hg] at hD
    simp only [Value.slice.injEq, true_and] at hD
    obtain ⟨rfl, rfl⟩ := hD
    refine ⟨g, 0, rfl, row_lt h.pks (by rw [hg]; rfl), fun i p hi => ?_⟩
    have := h.pks.cells (g := g) (by rw [hg]; rfl) i (.int .i64 p) (by simp [hi])
    rwa [addr_at, ← Nat.zero_add i] at this
  obtain ⟨A, c, hA⟩ := row_form h.thr
  have th : ThrAt w A st.scr.threads := fun h0 => by
    obtain ⟨g, cap, hg⟩ := row_some h.thr (by omega)
    rw [hg] at hA
    simp only [Value.slice.injEq, true_and] at hA
    obtain ⟨rfl, rfl⟩ := hA
    refine ⟨g, 0, rfl, row_lt h.thr (by rw [hg]; rfl), fun i t hi => ?_⟩
    have hlt : i < us.length := by rw [hus]; exact (List.getElem?_eq_some_iff.1 hi).1
    have hu : us[i]? = some us[i] := List.getElem?_eq_getElem hlt
    obtain ⟨a, cc, hac, ho⟩ := row_ops (h.ops i _ t hu hi)
    have := h.thr.cells (g := g) (by rw [hg]; rfl) i _ hu
    rw [addr_at, hac, ← Nat.zero_add i] at this
    exact ⟨a, cc, this, ho⟩
  exact ⟨A, c, D, d, by rw [hA, hus], hD, th, pk, by have := hs.1.1; omega, by have := hs.2; omega, fun t ht => by have := hs.1.2 t ht; omega⟩
theorem BoxAt.over {B : Nat} {w0 w w' : World} {P : Nat} {st : PS} {vt vp : Value} {us : List Value} (h : BoxAt B w0 w P st vt vp us) (hk : ∀ k, B ≤ k → k < w.heap.size → w'.heap[k]? = w.heap[k]?) (hz : w.heap.size ≤ w'.heap.size) : BoxAt B w' w' P st vt vp us :=
  ⟨h.base, (hk P h.base h.lt).trans h.par, row_keep h.thr (fun g hg => hk g (row_kind h.thr hg).1 (row_lt h.thr hg)), h.hus,
    fun i u t hu ht => row_keep (h.ops i u t hu ht) (fun g hg => hk g (row_kind (h.ops i u t hu ht) hg).1 (row_lt (h.ops i u t hu ht) hg)), h.dist, row_keep h.pks (fun g hg => hk g (row_kind h.pks hg).1 (row_lt h.pks hg)), Below.refl _ _, Nat.le_trans h.size hz⟩
theorem BoxAt.scr2 {B : Nat} {w0 w : World} {P : Nat} {st : PS} {A D : Option Addr} {n c p d : Nat} {us : List Value} (h : BoxAt B w0 w P st (.slice A n c) (.slice D p d) us) (hs : Small 1048576 st) : ScrAt w A D st.scr := by
  obtain ⟨A', c', D', d', e1, e2, h3⟩ := h.scr hs
  simp only [Value.slice.injEq] at e1 e2
  obtain ⟨rfl, _, _⟩ := e1
  obtain ⟨rfl, _, _⟩ := e2
  exact h3
theorem bthr_at {B : Nat} {w0 w : World} {P : Nat} {st : PS} {vp : Value} {us : List Value} {g gc : Nat} (h : BoxAt B w0 w P st (.slice (some ⟨g, 0, none⟩) us.length gc) vp us) {j : Nat} {u : Value} (hu : us[j]? = some u) : w.cell? ⟨g, j, none⟩ = some u := by
  have := h.thr.cells (g := g) rfl j u hu
  rwa [addr_at] at this
theorem bthr_frozen {B : Nat} {w0 w : World} {P : Nat} {st : PS} {vp : Value} {us : List Value} {g gc : Nat} (h : BoxAt B w0 w P st (.slice (some ⟨g, 0, none⟩) us.length gc) vp us) (j : Nat) : w.frozen? ⟨g, j, none⟩ = false := by
  obtain ⟨_, cur, hc⟩ := row_kind h.thr (g := g) rfl
  exact blk_frozen hc j
theorem bthr_other {B : Nat} {w0 w : World} {P : Nat} {st : PS} {vp u : Value} {us xs : List Value} {g gc n : Nat} (h : BoxAt B w0 w P st (.slice (some ⟨g, 0, none⟩) us.length gc) vp us) (hu : w.ownsRow B 39 5 u n xs) : u.ownBlock ≠ some g := by
  obtain ⟨_, cur, hc⟩ := row_kind h.thr (g := g) rfl
  exact row_ne hu hc (by decide)
end Go.Proofs.YtnoeiaicligmiaaDoor
