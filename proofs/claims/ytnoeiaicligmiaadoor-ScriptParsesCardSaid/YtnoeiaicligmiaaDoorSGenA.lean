/- A script in a box is kept where other blocks change; a row that grows beside it. -/
import Derived.Test.YtnoeiaicligmiaaDoorSTape
namespace Go.Proofs.YtnoeiaicligmiaaDoor
set_option linter.unusedVariables false
set_option linter.unusedSimpArgs false
open Go Go.RowKit Go.MapKept
/-- the blocks of a script in a box -/
def OwnB (P : Nat) (vt vp : Value) (us : List Value) (k : Nat) : Prop := k = P ∨ vt.ownBlock = some k ∨ vp.ownBlock = some k ∨ ∃ (i : Nat) (u : Value), us[i]? = some u ∧ u.ownBlock = some k
theorem BoxAt.keep {B : Nat} {w0 w w' : World} {P : Nat} {st : PS} {vt vp : Value} {us : List Value} (h : BoxAt B w0 w P st vt vp us) (hk : ∀ k, OwnB P vt vp us k → w'.heap[k]? = w.heap[k]?) (hb : Below B w w') : BoxAt B w0 w' P st vt vp us :=
  ⟨h.base, (hk P (Or.inl rfl)).trans h.par, row_keep h.thr (fun g hg => hk g (Or.inr (Or.inl hg))), h.hus, fun i u t hu ht => row_keep (h.ops i u t hu ht) (fun g hg => hk g (Or.inr (Or.inr (Or.inr ⟨i, u, hu, hg⟩)))), h.dist,
    row_keep h.pks (fun g hg => hk g (Or.inr (Or.inr (Or.inl hg)))), h.below.trans hb, Nat.le_trans h.size hb.size⟩
/-- every block of a script in a box is old, at least B, and of one of four kinds -/
theorem BoxAt.kind {B : Nat} {w0 w : World} {P : Nat} {st : PS} {vt vp : Value} {us : List Value} (h : BoxAt B w0 w P st vt vp us) {k : Nat} (hk : OwnB P vt vp us k) : B ≤ k ∧ k < w.heap.size ∧ ∃ cs t, w.heap[k]? = some (.cells cs t (0, 0)) ∧ (t = 32 ∨ t = 49 ∨ t = 3 ∨ t = 39) := by
  rcases hk with rfl | hk | hk | ⟨i, u, hu, hk⟩
  · exact ⟨h.base, h.lt, _, _, h.par, Or.inl rfl⟩
  · obtain ⟨h1, cur, h2⟩ := row_kind h.thr hk
    exact ⟨h1, row_lt h.thr hk, cur, _, h2, Or.inr (Or.inl rfl)⟩
  · obtain ⟨h1, cur, h2⟩ := row_kind h.pks hk
    exact ⟨h1, row_lt h.pks hk, cur, _, h2, Or.inr (Or.inr (Or.inl rfl))⟩
  · have hi : i < st.scr.threads.length := by rw [← h.hus]; exact (List.getElem?_eq_some_iff.1 hu).1
    have hr := h.ops i u _ hu (List.getElem?_eq_getElem hi)
    obtain ⟨h1, cur, h2⟩ := row_kind hr hk
    exact ⟨h1, row_lt hr hk, cur, _, h2, Or.inr (Or.inr (Or.inr rfl))⟩
/-- a call that changes the tape alone -/
theorem BoxAt.tape {B : Nat} {w0 w w' : World} {P : Nat} {st : PS} {vt vp : Value} {us : List Value} (h : BoxAt B w0 w P st vt vp us) {bt C : Nat} (ht : TapeIs w C bt) (hB : B ≤ bt) (ho : Only (· = bt) w w') : BoxAt B w0 w' P st vt vp us := by
  refine h.keep (fun k hk => ?_) (ho.below h.size (fun i hi => by rw [hi]; exact hB))
  obtain ⟨h1, h2, cs, t, h3, h4⟩ := h.kind hk
  refine ho.block k h2 (fun e => ?_)
  obtain ⟨A, n, c, i, hb, _⟩ := ht
  rw [e] at h3
  rw [hb] at h3
  simp only [Option.some.injEq, Obj.cells.injEq] at h3
  rcases h4 with h4 | h4 | h4 | h4 <;> (rw [h4] at h3; exact absurd h3.2.1 (by decide))
theorem row_tape {B : Nat} {w w' : World} {v : Value} {e : TypeId} {size n : Nat} {xs : List Value} (h : w.ownsRow B e size v n xs) {bt C : Nat} (ht : TapeIs w C bt) (he : e ≠ 73) (ho : Only (· = bt) w w') : w'.ownsRow B e size v n xs := by
  refine row_keep h (fun g hg => ho.block g (row_lt h hg) (fun eq => ?_))
  obtain ⟨A, n, c, i, hb, _⟩ := ht
  exact row_ne h hb (Ne.symm he) (by rw [← eq]; exact hg)
/-- what a thread under construction, the handles and the box are -/
structure GenAt (B : Nat) (w0 w : World) (P : Nat) (st : PS) (vt vp : Value) (us : List Value) (v9 : Value) (t : List OpD) (v7 : Value) (hs : List Int) (bt : Nat) : Prop where
  box : BoxAt B w0 w P st vt vp us
  row : w.ownsRow B 39 5 v9 t.length (t.flatMap opC)
  apart : ∀ (i : Nat) (u : Value) (b : Nat), us[i]? = some u → u.ownBlock = some b → v9.ownBlock ≠ some b
  hand : w.ownsRow B 3 1 v7 hs.length (hs.map (.int .i64))
  hbd : ∀ z ∈ hs, -9223372036854775808 ≤ z ∧ z ≤ 9223372036854775807
  nop : ∀ b, vp.ownBlock = some b → v7.ownBlock ≠ some b
  tape : TapeIs w B bt
theorem GenAt.call {B : Nat} {w0 w w' : World} {P : Nat} {st : PS} {vt vp : Value} {us : List Value} {v9 : Value} {t : List OpD} {v7 : Value} {hs : List Int} {bt : Nat} (h : GenAt B w0 w P st vt vp us v9 t v7 hs bt) (ho : Only (· = bt) w w') (ht : TapeIs w' B bt) : GenAt B w0 w' P st vt vp us v9 t v7 hs bt := by
  have hB : B ≤ bt := by obtain ⟨A, n, c, i, hb, hB, _⟩ := h.tape; exact hB
  exact ⟨h.box.tape h.tape hB ho, row_tape h.row h.tape (by decide) ho, h.apart, row_tape h.hand h.tape (by decide) ho, h.hbd, h.nop, ht⟩
/-- memory is made, and a row of its own kind grows -/
theorem GenAt.above {B : Nat} {w0 w w' : World} {P : Nat} {st : PS} {vt vp : Value} {us : List Value} {v9 : Value} {t : List OpD} {v7 : Value} {hs : List Int} {bt : Nat} (h : GenAt B w0 w P st vt vp us v9 t v7 hs bt) (hb : Below w.heap.size w w') : GenAt B w0 w' P st vt vp us v9 t v7 hs bt :=
  ⟨h.box.above hb, row_keep h.row (fun g hg => hb.block g (row_lt h.row hg)), h.apart, row_keep h.hand (fun g hg => hb.block g (row_lt h.hand hg)), h.hbd, h.nop, h.tape.keep (hb.block _ h.tape.lt) (fun k hk => hb.block k (Nat.lt_of_lt_of_le hk h.box.size))⟩
theorem tape_row {w w' : World} {B bt : Nat} (h : TapeIs w B bt) {B' size n : Nat} {e : TypeId} {v : Value} {xs : List Value} (hr : w.ownsRow B' e size v n xs) (he : e ≠ 73) (hB : B ≤ B') (hz : B ≤ w.heap.size) (hg : w.grownBy w' v.ownBlock) : TapeIs w' B bt := by
  refine h.keep (hg.block bt h.lt (fun e' => ?_)) (fun k hk => hg.block k (by omega) (fun e' => ?_))
  · obtain ⟨A, n, c, i, hb, _⟩ := h
    exact row_ne hr hb (Ne.symm he) e'.symm
  · have := (row_kind hr e'.symm).1
    omega
/-- an operation is appended to the thread under construction -/
theorem GenAt.op {B : Nat} {w0 w w' : World} {P : Nat} {st : PS} {vt vp : Value} {us : List Value} {v9 v9' : Value} {t : List OpD} {v7 : Value} {hs : List Int} {bt : Nat} (h : GenAt B w0 w P st vt vp us v9 t v7 hs bt) (o : OpD) (hg : w.grownBy w' v9.ownBlock)
    (hown : w'.ownsRow B 39 5 v9' (t.length + 1) (t.flatMap opC ++ opC o)) (hnew : ∀ b, v9'.ownBlock = some b → v9.ownBlock = some b ∨ w.heap.size ≤ b) : GenAt B w0 w' P st vt vp us v9' (t ++ [o]) v7 hs bt := by
  have hb : Below B w w' := ⟨hg.os, hg.tape, hg.output, hg.size, fun k hk => hg.block k (Nat.lt_of_lt_of_le hk h.box.size) (fun e => by have := (row_kind h.row e.symm).1; omega)⟩
  refine ⟨h.box.keep (fun k hk => ?_) hb, ?_, ?_, row_keep h.hand (fun g hgg => hg.block g (row_lt h.hand hgg) (fun e => row_row h.hand h.row (by decide) hgg e.symm)), h.hbd, h.nop, tape_row h.tape h.row (by decide) (Nat.le_refl _) h.box.size hg⟩
  · obtain ⟨h1, h2, cs, ty, h3, h4⟩ := h.box.kind hk
    refine hg.block k h2 (fun e => ?_)
    rcases hk with rfl | hk | hk | ⟨i, u, hu, hk⟩
    · exact row_ne h.row h.box.par (by decide) e.symm
    · exact row_row h.box.thr h.row (by decide) hk e.symm
    · exact row_row h.box.pks h.row (by decide) hk e.symm
    · exact h.apart i u k hu hk e.symm
  · have e : (t ++ [o]).flatMap opC = t.flatMap opC ++ opC o := by simp
    rw [e, List.length_append]
    exact hown
  · intro i u b hu hub hb'
    rcases hnew b hb' with h1 | h1
    · exact h.apart i u b hu hub h1
    · have := (h.box.kind (Or.inr (Or.inr (Or.inr ⟨i, u, hu, hub⟩)))).2.1
      omega
/-- a handle is appended -/
theorem GenAt.handle {B : Nat} {w0 w w' : World} {P : Nat} {st : PS} {vt vp : Value} {us : List Value} {v9 : Value} {t : List OpD} {v7 v7' : Value} {hs : List Int} {bt : Nat} (h : GenAt B w0 w P st vt vp us v9 t v7 hs bt) (z : Int) (hz : -9223372036854775808 ≤ z ∧ z ≤ 9223372036854775807) (hg : w.grownBy w' v7.ownBlock)
    (hown : w'.ownsRow B 3 1 v7' (hs.length + 1) (hs.map (.int .i64) ++ [.int .i64 z])) (hvp : vp.ownBlock = none) : GenAt B w0 w' P st vt vp us v9 t v7' (hs ++ [z]) bt := by
  have hb : Below B w w' := ⟨hg.os, hg.tape, hg.output, hg.size, fun k hk => hg.block k (Nat.lt_of_lt_of_le hk h.box.size) (fun e => by have := (row_kind h.hand e.symm).1; omega)⟩
  refine ⟨h.box.keep (fun k hk => ?_) hb, row_keep h.row (fun g hgg => hg.block g (row_lt h.row hgg) (fun e => row_row h.row h.hand (by decide) hgg e.symm)), h.apart, by simpa using hown, ?_, fun b hb => by rw [hvp] at hb; simp at hb, tape_row h.tape h.hand (by decide) (Nat.le_refl _) h.box.size hg⟩
  · obtain ⟨h1, h2, cs, ty, h3, h4⟩ := h.box.kind hk
    refine hg.block k h2 (fun e => ?_)
    rcases hk with rfl | hk | hk | ⟨i, u, hu, hk⟩
    · exact row_ne h.hand h.box.par (by decide) e.symm
    · exact row_row h.box.thr h.hand (by decide) hk e.symm
    · rw [hvp] at hk; simp at hk
    · have hi : i < st.scr.threads.length := by rw [← h.box.hus]; exact (List.getElem?_eq_some_iff.1 hu).1
      exact row_row (h.box.ops i u _ hu (List.getElem?_eq_getElem hi)) h.hand (by decide) hk e.symm
  · intro x hx
    simp only [List.mem_append, List.mem_singleton] at hx
    rcases hx with hx | rfl
    · exact h.hbd x hx
    · exact hz
end Go.Proofs.YtnoeiaicligmiaaDoor
