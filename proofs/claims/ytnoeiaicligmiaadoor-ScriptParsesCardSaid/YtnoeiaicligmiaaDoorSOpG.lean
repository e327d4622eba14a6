/- An operation appended to the last thread's row, and the row's value laid into the row of threads. -/
import Derived.Test.YtnoeiaicligmiaaDoorSGrow
import Derived.Deep.DeepAppendRoom
namespace Go.Proofs.YtnoeiaicligmiaaDoor
set_option linter.unusedVariables false
set_option linter.unusedSimpArgs false
open Go Go.RowKit
theorem op_info : (Tryd.prog.info? 39).map (fun i => (i.zero, i.size, i.bytes)) = some (some (.agg #[.int .i64 0, .int .i64 0, .string ⟨#[]⟩, .int .u64 0, .int .u64 0]), 5, 48) := by kernel_rfl
theorem run_append_op (ty : TypeId) (B : Nat) (w : World) (u : Value) (n : Nat) (xs : List Value) (hown : w.ownsRow B 39 5 u n xs) (ad : Addr) (ys : List Value) (hy : ys.length = 5) (hc : ∀ j x, ys[j]? = some x → w.cell? (ad.add j) = some x) (h1 : ∀ x ∈ ys, x.oneCell' = true) (hB : B ≤ w.heap.size) (hn : n ≤ 1048576) :
    ∃ v' w', (Builtin.append_ #[49, 49] ty #[u, .slice (some ad) 1 1]).run Tryd.prog w = .ok v' w' ∧ w'.ownsRow B 39 5 v' (n + 1) (xs ++ ys) ∧ w.grownBy w' u.ownBlock ∧ (∀ b, v'.ownBlock = some b → u.ownBlock = some b ∨ w.heap.size ≤ b) := by
  obtain ⟨i0, hi, hz0, hz1, hz2⟩ := info_parts op_info
  obtain ⟨v', w', hr, ho, hg, _⟩ := run_append_own (P := Tryd.prog) w B 49 ty 39 i0 _ 5 48 Tryd.underlying49 hi hz0 hz1 hz2 rfl (by decide) u n xs hown ad 1 1 ys (by omega) hc h1 (by unfold maxLen; omega) (by omega) hB
  refine ⟨v', w', hr, ho, hg, ?_⟩
  rcases hown.2 with ⟨rfl, rfl⟩ | ⟨g, cap, cur, rfl, hBg, hgc, hnc, hcm, hcs, htk⟩
  · have hx : xs = [] := List.eq_nil_of_length_eq_zero (by simpa using hown.1)
    subst hx
    obtain ⟨v2, w2, hr2, ho2, _, _⟩ := run_append_own (P := Tryd.prog) w w.heap.size 49 ty 39 i0 _ 5 48 Tryd.underlying49 hi hz0 hz1 hz2 rfl (by decide) (.slice none 0 0) 0 [] (World.ownsRow_nil w _ _ _) ad 1 1 ys (by omega) hc h1 (by unfold maxLen; omega) (by omega) (Nat.le_refl _)
    rw [hr] at hr2
    simp only [Result.ok.injEq] at hr2
    obtain ⟨rfl, rfl⟩ := hr2
    exact fun b hb => Or.inr (row_kind ho2 hb).1
  · by_cases hroom : n + 1 ≤ cap
    · obtain ⟨w2, hr2, _, _⟩ := run_append_own_spare (P := Tryd.prog) w B 49 ty 39 i0 5 Tryd.underlying49 hi hz1 g n cap xs hown ad 1 1 ys (by omega) hc h1 hroom
      rw [hr] at hr2
      simp only [Result.ok.injEq] at hr2
      obtain ⟨rfl, rfl⟩ := hr2
      intro b hb
      exact Or.inl hb
    · obtain ⟨v2, w2, hr2, ho2, _⟩ := run_append_arg_grows (P := Tryd.prog) w 49 ty 39 i0 _ 5 48 Tryd.underlying49 hi hz0 hz1 hz2 rfl (by decide) ⟨g, 0, none⟩ n cap xs hown.1 (hown.cells (g := g) rfl) ad 1 1 ys (by omega) hc (by omega) (by unfold maxLen; omega) (by omega)
      rw [hr] at hr2
      simp only [Result.ok.injEq] at hr2
      obtain ⟨rfl, rfl⟩ := hr2
      exact fun b hb => Or.inr (row_kind ho2 hb).1
theorem row_set {w : World} {B n cap g : Nat} {e : TypeId} {xs : List Value} (h : w.ownsRow B e 1 (.slice (some ⟨g, 0, none⟩) n cap) n xs) (j : Nat) (hj : j < n) (u : Value) : (w.setCell ⟨g, j, none⟩ u).ownsRow B e 1 (.slice (some ⟨g, 0, none⟩) n cap) n (xs.set j u) := by
  refine ⟨by simpa using h.1, ?_⟩
  rcases h.2 with ⟨h0, _⟩ | ⟨g', cap', cur, hv, hb, hg, h1, h2, h3, h4⟩
  · simp at h0
  · simp only [Value.slice.injEq, Option.some.injEq, Addr.mk.injEq, and_true, true_and] at hv
    obtain ⟨rfl, rfl⟩ := hv
    refine Or.inr ⟨g, cap, _, rfl, hb, heap_set hg u, h1, h2, by simpa using h3, ?_⟩
    rw [← h4]
    simp [List.take_set]
/-- an operation is appended to the last thread -/
theorem ParAt.op {B : Nat} {w0 w w' : World} {P : Nat} {st : PS} {vp u u' : Value} {us : List Value} {g cap : Nat} {ts : List (List OpD)} {t : List OpD} (h : ParAt B w0 w P st (.slice (some ⟨g, 0, none⟩) us.length cap) vp us) (hts : st.scr.threads = ts ++ [t]) (hu : us[ts.length]? = some u) (hg : w.grownBy w' u.ownBlock) (o : OpD)
    (hown : w'.ownsRow B 39 5 u' (t.length + 1) (t.flatMap opC ++ opC o)) (hnew : ∀ b, u'.ownBlock = some b → u.ownBlock = some b ∨ w.heap.size ≤ b) :
    ParAt B w0 (w'.setCell ⟨g, ts.length, none⟩ u') P { st with scr := { st.scr with threads := addOp st.scr.threads o } } (.slice (some ⟨g, 0, none⟩) us.length cap) vp (us.set ts.length u') := by
  have hlen : us.length = ts.length + 1 := by rw [h.hus, hts]; simp
  have hu0 : w.ownsRow B 39 5 u t.length (t.flatMap opC) := h.ops _ _ _ hu (by rw [hts]; simp)
  have hthr := h.thr
  obtain ⟨hBg, cur, hgc⟩ := row_kind h.thr (g := g) rfl
  have hbk : ∀ k, k < w.heap.size → u.ownBlock ≠ some k → w'.heap[k]? = w.heap[k]? := fun k hk hr => hg.block k hk (fun e => hr e.symm)
  have hgne : u.ownBlock ≠ some g := row_ne hu0 hgc (by decide)
  have hPne : u.ownBlock ≠ some P := row_ne hu0 h.par (by decide)
  have hg' : w'.heap[g]? = some (.cells cur 49 (0, 0)) := (hbk g (row_lt h.thr rfl) hgne).trans hgc
  have hP' : w'.heap[P]? = some (parO st (.slice (some ⟨g, 0, none⟩) us.length cap) vp) := (hbk P h.lt hPne).trans h.par
  have hgP : P ≠ g := by
    intro e
    have := h.par
    rw [e, hgc] at this
    simp [parO] at this
  have hb : Below B w w' := ⟨hg.os, hg.tape, hg.output, hg.size, fun k hk => hg.block k (Nat.lt_of_lt_of_le hk h.size) (fun e => by have := (row_kind hu0 e.symm).1; omega)⟩
  have keep : ∀ {e : TypeId} {size n : Nat} {v : Value} {xs : List Value}, w.ownsRow B e size v n xs → (∀ b, v.ownBlock = some b → u.ownBlock ≠ some b) → v.ownBlock ≠ some g → (w'.setCell ⟨g, ts.length, none⟩ u').ownsRow B e size v n xs := fun {e size n v xs} hr h1 h2 =>
    ownsRow_setCell_other (row_keep hr (fun k hk => hbk k (row_lt hr hk) (h1 k hk))) h2 _
  refine ⟨h.base, ?_, ?_, ?_, ?_, ?_, ?_, (h.below.trans hb).setCell (p := ⟨g, ts.length, none⟩) hBg _, ?_⟩
  · rw [Below.heap_setCell _ _ _ _ hgP]; exact hP'
  · have h1 : w'.ownsRow B 49 1 (.slice (some ⟨g, 0, none⟩) us.length cap) us.length us := row_keep h.thr (fun k hk => hbk k (row_lt h.thr hk) (by simp only [Value.ownBlock, Option.some.injEq] at hk; subst hk; exact hgne))
    have h2 := row_set h1 ts.length (by omega) u'
    simpa using h2
  · rw [hts, addOp_last]
    simp [hlen]
  · intro i v s hv hs
    simp only [hts, addOp_last] at hs
    by_cases hi : i = ts.length
    · subst hi
      rw [List.getElem?_set_self (by omega)] at hv
      simp only [Option.some.injEq] at hv
      simp at hs
      subst hv hs
      have : (t ++ [o]).flatMap opC = t.flatMap opC ++ opC o := by simp
      rw [this, List.length_append]
      exact ownsRow_setCell_other hown (row_ne hown hg' (by decide)) _
    · rw [List.getElem?_set_ne (Ne.symm hi)] at hv
      have hs2 : st.scr.threads[i]? = some s := by
        rw [hts]
        rw [List.getElem?_append] at hs ⊢
        split at hs
        · next hlt => rw [if_pos hlt]; exact hs
        · next hge =>
          have := (List.getElem?_eq_some_iff.1 hs).1
          simp at this
          omega
      have hr := h.ops i v s hv hs2
      refine keep hr (fun b hb hub => hi (h.dist i ts.length v u b hv hu hb hub)) (row_ne hr hgc (by decide))
  · intro i j a b x ha hb' hax hbx
    have out : ∀ (k : Nat) (c : Value), k ≠ ts.length → us[k]? = some c → c.ownBlock = some x → u'.ownBlock ≠ some x := fun k c hk hc hcx hx => by
      have hkl : k < st.scr.threads.length := by rw [← h.hus]; exact (List.getElem?_eq_some_iff.1 hc).1
      have hr := h.ops k c _ hc (List.getElem?_eq_getElem hkl)
      rcases hnew x hx with h1 | h1
      · exact hk (h.dist k ts.length c u x hc hu hcx h1)
      · have := row_lt hr hcx
        omega
    by_cases hi : i = ts.length
    · by_cases hj : j = ts.length
      · omega
      · exfalso
        subst hi
        rw [List.getElem?_set_self (by omega)] at ha
        rw [List.getElem?_set_ne (Ne.symm hj)] at hb'
        simp only [Option.some.injEq] at ha
        subst ha
        exact out j b hj hb' hbx hax
    · rw [List.getElem?_set_ne (Ne.symm hi)] at ha
      by_cases hj : j = ts.length
      · exfalso
        subst hj
        rw [List.getElem?_set_self (by omega)] at hb'
        simp only [Option.some.injEq] at hb'
        subst hb'
        exact out i a hi ha hax hbx
      · rw [List.getElem?_set_ne (Ne.symm hj)] at hb'
        exact h.dist i j a b x ha hb' hax hbx
  · exact keep h.pks (fun b hb' => row_row h.pks hu0 (by decide) hb') (row_ne h.pks hgc (by decide))
  · have h1 := hg.size
    have h2 := h.size
    simp [World.setCell]
    omega
end Go.Proofs.YtnoeiaicligmiaaDoor
