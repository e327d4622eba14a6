/- Laws of a script in a box: it is copied into another box, an operation is appended to any thread, picks are appended. -/
import Derived.Test.YtnoeiaicligmiaaDoorSGenA
namespace Go.Proofs.YtnoeiaicligmiaaDoor
set_option linter.unusedVariables false
set_option linter.unusedSimpArgs false
open Go Go.RowKit Go.MapKept
/-- the script is stored into a new box -/
theorem BoxAt.move {B : Nat} {w0 w : World} {P : Nat} {st : PS} {vt vp : Value} {us : List Value} (h : BoxAt B w0 w P st vt vp us) : BoxAt B w0 (w.alloc (bxO st vt vp)) w.heap.size st vt vp us := by
  have ha := h.above (w' := w.alloc (bxO st vt vp)) ((Below.refl _ _).alloc (Nat.le_refl _) _)
  exact ⟨h.size, (heap_alloc w _).1, ha.thr, ha.hus, ha.ops, ha.dist, ha.pks, ha.below, ha.size⟩
/-- an operation is appended to thread k -/
theorem BoxAt.opAt {B : Nat} {w0 w w' : World} {P : Nat} {st : PS} {vp u u' : Value} {us : List Value} {g cap k : Nat} {t : List OpD} (h : BoxAt B w0 w P st (.slice (some ⟨g, 0, none⟩) us.length cap) vp us) (hts : st.scr.threads[k]? = some t) (hu : us[k]? = some u) (hg : w.grownBy w' u.ownBlock) (o : OpD)
    (hown : w'.ownsRow B 39 5 u' (t.length + 1) (t.flatMap opC ++ opC o)) (hnew : ∀ b, u'.ownBlock = some b → u.ownBlock = some b ∨ w.heap.size ≤ b) :
    BoxAt B w0 (w'.setCell ⟨g, k, none⟩ u') P { st with scr := { st.scr with threads := st.scr.threads.set k (t ++ [o]) } } (.slice (some ⟨g, 0, none⟩) us.length cap) vp (us.set k u') := by
  have hkl : k < us.length := (List.getElem?_eq_some_iff.1 hu).1
  have hkt : k < st.scr.threads.length := (List.getElem?_eq_some_iff.1 hts).1
  have hu0 : w.ownsRow B 39 5 u t.length (t.flatMap opC) := h.ops _ _ _ hu hts
  have hthr := h.thr
  obtain ⟨hBg, cur, hgc⟩ := row_kind h.thr (g := g) rfl
  have hbk : ∀ k, k < w.heap.size → u.ownBlock ≠ some k → w'.heap[k]? = w.heap[k]? := fun k hk hr => hg.block k hk (fun e => hr e.symm)
  have hgne : u.ownBlock ≠ some g := row_ne hu0 hgc (by decide)
  have hPne : u.ownBlock ≠ some P := row_ne hu0 h.par (by decide)
  have hg' : w'.heap[g]? = some (.cells cur 49 (0, 0)) := (hbk g (row_lt h.thr rfl) hgne).trans hgc
  have hP' : w'.heap[P]? = some (bxO st (.slice (some ⟨g, 0, none⟩) us.length cap) vp) := (hbk P h.lt hPne).trans h.par
  have hgP : P ≠ g := by
    intro e
    have := h.par
    rw [e, hgc] at this
    simp [bxO] at this
  have hb : Below B w w' := ⟨hg.os, hg.tape, hg.output, hg.size, fun k hk => hg.block k (Nat.lt_of_lt_of_le hk h.size) (fun e => by have := (row_kind hu0 e.symm).1; omega)⟩
  have keep : ∀ {e : TypeId} {size n : Nat} {v : Value} {xs : List Value}, w.ownsRow B e size v n xs → (∀ b, v.ownBlock = some b → u.ownBlock ≠ some b) → v.ownBlock ≠ some g → (w'.setCell ⟨g, k, none⟩ u').ownsRow B e size v n xs := fun {e size n v xs} hr h1 h2 =>
    ownsRow_setCell_other (row_keep hr (fun k hk => hbk k (row_lt hr hk) (h1 k hk))) h2 _
  refine ⟨h.base, ?_, ?_, ?_, ?_, ?_, ?_, (h.below.trans hb).setCell (p := ⟨g, k, none⟩) hBg _, ?_⟩
  · rw [Below.heap_setCell _ _ _ _ hgP]; exact hP'
  · have h1 : w'.ownsRow B 49 1 (.slice (some ⟨g, 0, none⟩) us.length cap) us.length us := row_keep h.thr (fun k hk => hbk k (row_lt h.thr hk) (by simp only [Value.ownBlock, Option.some.injEq] at hk; subst hk; exact hgne))
    have h2 := row_set h1 k hkl u'
    simpa using h2
  · simp [h.hus]
  · intro i v s hv hs
    simp only at hs
    by_cases hi : i = k
    · subst hi
      rw [List.getElem?_set_self hkl] at hv
      rw [List.getElem?_set_self hkt] at hs
      simp only [Option.some.injEq] at hv hs
      subst hv hs
      have : (t ++ [o]).flatMap opC = t.flatMap opC ++ opC o := by simp
      rw [this, List.length_append]
      exact ownsRow_setCell_other hown (row_ne hown hg' (by decide)) _
    · rw [List.getElem?_set_ne (Ne.symm hi)] at hv
      rw [List.getElem?_set_ne (Ne.symm hi)] at hs
      have hr := h.ops i v s hv hs
      refine keep hr (fun b hb hub => hi (h.dist i k v u b hv hu hb hub)) (row_ne hr hgc (by decide))
  · intro i j a b x ha hb' hax hbx
    have out : ∀ (q : Nat) (c : Value), q ≠ k → us[q]? = some c → c.ownBlock = some x → u'.ownBlock ≠ some x := fun q c hk hc hcx hx => by
      have hkl : q < st.scr.threads.length := by rw [← h.hus]; exact (List.getElem?_eq_some_iff.1 hc).1
      have hr := h.ops q c _ hc (List.getElem?_eq_getElem hkl)
      rcases hnew x hx with h1 | h1
      · exact hk (h.dist q k c u x hc hu hcx h1)
      · have := row_lt hr hcx
        omega
    by_cases hi : i = k
    · by_cases hj : j = k
      · omega
      · exfalso
        subst hi
        rw [List.getElem?_set_self hkl] at ha
        rw [List.getElem?_set_ne (Ne.symm hj)] at hb'
        simp only [Option.some.injEq] at ha
        subst ha
        exact out j b hj hb' hbx hax
    · rw [List.getElem?_set_ne (Ne.symm hi)] at ha
      by_cases hj : j = k
      · exfalso
        subst hj
        rw [List.getElem?_set_self hkl] at hb'
        simp only [Option.some.injEq] at hb'
        subst hb'
        exact out i a hi ha hax hbx
      · rw [List.getElem?_set_ne (Ne.symm hj)] at hb'
        exact h.dist i j a b x ha hb' hax hbx
  · exact keep h.pks (fun b hb' => row_row h.pks hu0 (by decide) hb') (row_ne h.pks hgc (by decide))
  · have h1 := hg.size
    have h2 := h.size
    simp [World.setCell]
    omega
/-- picks are appended -/
theorem BoxAt.picks {B : Nat} {w0 w w' : World} {P : Nat} {st : PS} {vt vp v' : Value} {us : List Value} (h : BoxAt B w0 w P st vt vp us) (hg : w.grownBy w' vp.ownBlock) (qs : List Int)
    (hown : w'.ownsRow B 3 1 v' (st.scr.picks.length + qs.length) (st.scr.picks.map (.int .i64) ++ qs.map (.int .i64))) :
    BoxAt B w0 (w'.setCell ⟨P, 2, none⟩ v') P { st with scr := { st.scr with picks := st.scr.picks ++ qs } } vt v' us := by
  have hbk : ∀ k, k < w.heap.size → vp.ownBlock ≠ some k → w'.heap[k]? = w.heap[k]? := fun k hk hr => hg.block k hk (fun e => hr e.symm)
  have hP' : w'.heap[P]? = some (bxO st vt vp) := (hbk P h.lt (row_ne h.pks h.par (by decide))).trans h.par
  have hb : Below B w w' := ⟨hg.os, hg.tape, hg.output, hg.size, fun k hk => hg.block k (Nat.lt_of_lt_of_le hk h.size) (fun e => by have := (row_kind h.pks e.symm).1; omega)⟩
  have tr : ∀ {e : TypeId} {size n : Nat} {v : Value} {xs : List Value}, w.ownsRow B e size v n xs → e ≠ 3 → e ≠ 32 → (w'.setCell ⟨P, 2, none⟩ v').ownsRow B e size v n xs := fun {e size n v xs} hr he hp => by
    have h1 : w'.ownsRow B e size v n xs := row_keep hr (fun g hgg => hbk g (row_lt hr hgg) (row_row hr h.pks he hgg))
    exact ownsRow_setCell_other h1 (row_ne h1 hP' (Ne.symm hp)) _
  refine ⟨h.base, heap_set (j := 2) hP' v', tr h.thr (by decide) (by decide), h.hus, fun i u t hu ht => tr (h.ops i u t hu ht) (by decide) (by decide), h.dist, ?_, (h.below.trans hb).setCell (p := ⟨P, 2, none⟩) h.base _, ?_⟩
  · have := ownsRow_setCell_other hown (a := ⟨P, 2, none⟩) (row_ne hown hP' (by decide)) v'
    simpa using this
  · have := hg.size
    have := h.size
    simp [World.setCell]
    omega
end Go.Proofs.YtnoeiaicligmiaaDoor
