/- The parser in memory. -/
import Derived.Test.YtnoeiaicligmiaaDoorSKeyW
import Derived.OneCell
namespace Go.Proofs.YtnoeiaicligmiaaDoor
set_option linter.unusedVariables false
set_option linter.unusedSimpArgs false
open Go Go.RowKit
theorem row_keep {w w' : World} {B size n : Nat} {e : TypeId} {v : Value} {xs : List Value} (h : w.ownsRow B e size v n xs) (hk : ∀ g, v.ownBlock = some g → w'.heap[g]? = w.heap[g]?) : w'.ownsRow B e size v n xs := by
  refine ⟨h.1, ?_⟩
  rcases h.2 with h0 | ⟨g, cap, cur, hv, hb, hg, r⟩
  · exact Or.inl h0
  · refine Or.inr ⟨g, cap, cur, hv, hb, ?_, r⟩
    rw [hk g (by rw [hv]; rfl)]; exact hg
theorem row_kind {w : World} {B size n : Nat} {e : TypeId} {v : Value} {xs : List Value} (h : w.ownsRow B e size v n xs) {g : Nat} (hg : v.ownBlock = some g) : B ≤ g ∧ ∃ cur, w.heap[g]? = some (.cells cur e (0, 0)) := by
  rcases h.2 with ⟨h0, _⟩ | ⟨k, cap, cur, hv, hb, hk, _⟩
  · rw [h0] at hg; simp [Value.ownBlock] at hg
  · rw [hv] at hg
    simp only [Value.ownBlock, Option.some.injEq] at hg
    subst hg
    exact ⟨hb, cur, hk⟩
theorem row_lt {w : World} {B size n : Nat} {e : TypeId} {v : Value} {xs : List Value} (h : w.ownsRow B e size v n xs) {g : Nat} (hg : v.ownBlock = some g) : g < w.heap.size := by
  obtain ⟨_, cur, hc⟩ := row_kind h hg
  exact (Array.getElem?_eq_some_iff.1 hc).1
/-- a row is in another block than a block of another kind -/
theorem row_ne {w : World} {B size n : Nat} {e : TypeId} {v : Value} {xs : List Value} (h : w.ownsRow B e size v n xs) {k : Nat} {cs : Array Value} {t : TypeId} {f : Nat × Nat} (hk : w.heap[k]? = some (.cells cs t f)) (ht : t ≠ e) : v.ownBlock ≠ some k := by
  intro hg
  obtain ⟨_, cur, hc⟩ := row_kind h hg
  rw [hk] at hc
  simp only [Option.some.injEq, Obj.cells.injEq] at hc
  exact ht hc.2.1
theorem row_row {w : World} {B size n B' size' n' : Nat} {e e' : TypeId} {v v' : Value} {xs xs' : List Value} (h : w.ownsRow B e size v n xs) (h' : w.ownsRow B' e' size' v' n' xs') (he : e ≠ e') {g : Nat} (hg : v.ownBlock = some g) : v'.ownBlock ≠ some g := by
  obtain ⟨_, cur, hc⟩ := row_kind h hg
  exact row_ne h' hc he
def opC (o : OpD) : List Value := [.int .i64 o.kind, .int .i64 o.handle, .string o.key, .int .u64 o.value, .int .u64 o.expect]
def parO (st : PS) (vt vp : Value) : Obj := .cells #[.int .u64 st.scr.mask, vt, vp, .bool st.masked, .bool st.done] 66
structure ParAt (B : Nat) (w0 w : World) (P : Nat) (st : PS) (vt vp : Value) (us : List Value) : Prop where
  base : B ≤ P
  par : w.heap[P]? = some (parO st vt vp)
  thr : w.ownsRow B 49 1 vt us.length us
  hus : us.length = st.scr.threads.length
  ops : ∀ (i : Nat) (u : Value) (t : List OpD), us[i]? = some u → st.scr.threads[i]? = some t → w.ownsRow B 39 5 u t.length (t.flatMap opC)
  dist : ∀ (i j : Nat) (u v : Value) (b : Nat), us[i]? = some u → us[j]? = some v → u.ownBlock = some b → v.ownBlock = some b → i = j
  pks : w.ownsRow B 3 1 vp st.scr.picks.length (st.scr.picks.map (.int .i64))
  below : Below B w0 w
  size : B ≤ w.heap.size
def Par (B : Nat) (w0 w : World) (P : Nat) (st : PS) : Prop := ∃ vt vp us, ParAt B w0 w P st vt vp us
theorem ParAt.lt {B : Nat} {w0 w : World} {P : Nat} {st : PS} {vt vp : Value} {us : List Value} (h : ParAt B w0 w P st vt vp us) : P < w.heap.size := (Array.getElem?_eq_some_iff.1 h.par).1
/-- calls that only make memory -/
theorem ParAt.above {B : Nat} {w0 w w' : World} {P : Nat} {st : PS} {vt vp : Value} {us : List Value} (h : ParAt B w0 w P st vt vp us) (hb : Below w.heap.size w w') : ParAt B w0 w' P st vt vp us :=
  ⟨h.base, (hb.block P h.lt).trans h.par, row_keep h.thr (fun g hg => hb.block g (row_lt h.thr hg)), h.hus, fun i u t hu ht => row_keep (h.ops i u t hu ht) (fun g hg => hb.block g (row_lt (h.ops i u t hu ht) hg)), h.dist,
    row_keep h.pks (fun g hg => hb.block g (row_lt h.pks hg)), h.below.trans (hb.mono h.size), Nat.le_trans h.size hb.size⟩
theorem ParAt.cell {B : Nat} {w0 w : World} {P : Nat} {st : PS} {vt vp : Value} {us : List Value} (h : ParAt B w0 w P st vt vp us) : ∀ j : Nat, w.cell? ⟨P, j, none⟩ = (#[Value.int .u64 st.scr.mask, vt, vp, .bool st.masked, .bool st.done])[j]? := fun j => blk_cell h.par j
theorem heap_set {w : World} {k j : Nat} {cs : Array Value} {t : TypeId} {f : Nat × Nat} (h : w.heap[k]? = some (.cells cs t f)) (u : Value) : (w.setCell ⟨k, j, none⟩ u).heap[k]? = some (.cells (cs.setIfInBounds j u) t f) := by
  rw [setCell_eq_setRow w k j cs t f u h]
  exact setRow_heap w k _ _ t _ h
/-- the parser's own cells are written -/
theorem ParAt.put {B : Nat} {w0 w w' : World} {P : Nat} {st st' : PS} {vt vp : Value} {us : List Value} (h : ParAt B w0 w P st vt vp us) (ht : st'.scr.threads = st.scr.threads) (hp : st'.scr.picks = st.scr.picks) (hP : w'.heap[P]? = some (parO st' vt vp)) (ho : ∀ k, k ≠ P → w'.heap[k]? = w.heap[k]?) (hb : Below B w w') : ParAt B w0 w' P st' vt vp us := by
  have ne : ∀ {e : TypeId} {size n : Nat} {v : Value} {xs : List Value}, w.ownsRow B e size v n xs → e ≠ 66 → w'.ownsRow B e size v n xs := fun hr he => row_keep hr (fun g hg => ho g (fun hgP => row_ne hr h.par (Ne.symm he) (hgP ▸ hg)))
  exact ⟨h.base, hP, ne h.thr (by decide), by rw [ht]; exact h.hus, fun i u t hu hi => ne (h.ops i u t hu (by rw [← ht]; exact hi)) (by decide), h.dist, by rw [hp]; exact ne h.pks (by decide), h.below.trans hb, Nat.le_trans h.size hb.size⟩
end Go.Proofs.YtnoeiaicligmiaaDoor
