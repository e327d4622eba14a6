/- One value appended to a row that the parser owns; what that leaves of the parser. -/
import Derived.Test.YtnoeiaicligmiaaDoorSMask
namespace Go.Proofs.YtnoeiaicligmiaaDoor
set_option linter.unusedVariables false
set_option linter.unusedSimpArgs false
open Go Go.RowKit
theorem int_info : (Tryd.prog.info? 3).map (fun i => (i.zero, i.size, i.bytes)) = some (some (.int .i64 0), 1, 8) := by kernel_rfl
theorem ops_info : (Tryd.prog.info? 49).map (fun i => (i.zero, i.size, i.bytes)) = some (some (.slice none 0 0), 1, 24) := by kernel_rfl
theorem row_form {w : World} {B size n : Nat} {e : TypeId} {v : Value} {xs : List Value} (h : w.ownsRow B e size v n xs) : ∃ a cap, v = .slice a n cap := by
  rcases h.2 with ⟨rfl, h0⟩ | ⟨g, cap, cur, rfl, _⟩
  · exact ⟨none, 0, by rw [h0]⟩
  · exact ⟨_, cap, rfl⟩
theorem wpList_one_new {ops : Array Oper} {rest : List Oper} {o : Oper} {a : Act} {Q : Exit → Act → World → Prop} (T e : TypeId) (hT : Tryd.prog.underlying T = some (.slice e)) (z : Value) (by8 : Nat) (hinfo : (Tryd.prog.info? e).map (fun i => (i.zero, i.size, i.bytes)) = some (some z, 1, by8)) (hz : z.cells.size = 1)
    (hgd : o.guard = none) (s x : Operand) (ho : o.op = .call { callee := .builtin .append, args := #[s, x], argTypes := #[T, T] })
    (B : Nat) (w : World) (v : Value) (n : Nat) (xs : List Value) (hs : a.eval s = v) (hown : w.ownsRow B e 1 v n xs) (y : Value) (hy : y.oneCell' = true) (hx : a.eval x = .slice (some ⟨w.heap.size, 0, none⟩) 1 1) (hB : B ≤ w.heap.size) (hm : n + 1 ≤ maxLen) (hlen : (n + 1) * by8 ≤ 140737488355328)
    (h : ∀ a' cap' w', w'.ownsRow B e 1 (.slice a' (n + 1) cap') (n + 1) (xs ++ [y]) → (w.alloc (.cells #[y] e)).grownBy w' v.ownBlock → wpList Tryd.prog ops Q rest (a.put o.dst (.slice a' (n + 1) cap')) w') : wpList Tryd.prog ops Q (o :: rest) a (w.alloc (.cells #[y] e)) := by
  obtain ⟨i0, hi, hz0, hz1, hz2⟩ := info_parts hinfo
  refine wpList_append_own _ hgd s x T ho B e i0 z 1 by8 hT hi hz0 hz1 hz2 hz (by decide) v n xs hs (hown.alloc _) ⟨w.heap.size, 0, none⟩ 1 1 [y] hx rfl ?_ ?_ hm hlen (by simp; omega) ?_
  · intro j u hj
    rw [addr_at, blk_cell (MapKept.heap_alloc w _).1]
    simpa using hj
  · intro u hu
    simp only [List.mem_singleton] at hu
    subst hu
    exact hy
  · intro v' w' ho' hg _
    obtain ⟨a', cap', rfl⟩ := row_form ho'
    exact h a' cap' w' ho' hg
theorem grown_block {w w' : World} {o : Obj} {row : Option Nat} (hg : (w.alloc o).grownBy w' row) {k : Nat} (hk : k < w.heap.size) (hr : row ≠ some k) : w'.heap[k]? = w.heap[k]? := by
  rw [hg.block k (by simp; omega) (fun e => hr e.symm), Below.heap_alloc _ _ _ hk]
theorem grown_size {w w' : World} {o : Obj} {row : Option Nat} (hg : (w.alloc o).grownBy w' row) : w.heap.size ≤ w'.heap.size := by
  have := hg.size
  simp at this
  omega
theorem grown_below {w w' : World} {o : Obj} {row : Option Nat} {B : Nat} (hg : (w.alloc o).grownBy w' row) (hB : B ≤ w.heap.size) (hr : ∀ k, row = some k → B ≤ k) : Below B w w' :=
  ((Below.refl _ _).alloc hB o).grown hg (by simp; omega) hr
theorem row_step {w w' : World} {o : Obj} {row : Option Nat} (hg : (w.alloc o).grownBy w' row) {B size n : Nat} {e : TypeId} {v : Value} {xs : List Value} (h : w.ownsRow B e size v n xs) (hr : ∀ g, v.ownBlock = some g → row ≠ some g) : w'.ownsRow B e size v n xs :=
  row_keep h (fun g hg' => grown_block hg (row_lt h hg') (hr g hg'))
/-- a pick is appended -/
theorem ParAt.pick {B : Nat} {w0 w w' : World} {P : Nat} {st : PS} {vt vp v' : Value} {us : List Value} (h : ParAt B w0 w P st vt vp us) (o : Obj) (hg : (w.alloc o).grownBy w' vp.ownBlock) (p : Int)
    (hown : w'.ownsRow B 3 1 v' (st.scr.picks.length + 1) (st.scr.picks.map (.int .i64) ++ [.int .i64 p])) :
    ParAt B w0 (w'.setCell ⟨P, 2, none⟩ v') P { st with scr := { st.scr with picks := st.scr.picks ++ [p] } } vt v' us := by
  have hP' : w'.heap[P]? = some (parO st vt vp) := (grown_block hg h.lt (row_ne h.pks h.par (by decide))).trans h.par
  have hb : Below B w w' := grown_below hg h.size (fun k hk => (row_kind h.pks hk).1)
  have tr : ∀ {e : TypeId} {size n : Nat} {v : Value} {xs : List Value}, w.ownsRow B e size v n xs → e ≠ 3 → e ≠ 66 → (w'.setCell ⟨P, 2, none⟩ v').ownsRow B e size v n xs := fun {e size n v xs} hr he hp => by
    have h1 : w'.ownsRow B e size v n xs := row_step hg hr (fun g hgg => row_row hr h.pks he hgg)
    exact ownsRow_setCell_other h1 (row_ne h1 hP' (Ne.symm hp)) _
  refine ⟨h.base, heap_set (j := 2) hP' v', tr h.thr (by decide) (by decide), h.hus, fun i u t hu ht => tr (h.ops i u t hu ht) (by decide) (by decide), h.dist, ?_, (h.below.trans hb).setCell (p := ⟨P, 2, none⟩) h.base _, ?_⟩
  · have := ownsRow_setCell_other hown (a := ⟨P, 2, none⟩) (row_ne hown hP' (by decide)) v'
    simpa using this
  · have := grown_size hg
    have := h.size
    simp [World.setCell]
    omega
/-- a thread is appended -/
theorem ParAt.thread {B : Nat} {w0 w w' : World} {P : Nat} {st : PS} {vt vp v' : Value} {us : List Value} (h : ParAt B w0 w P st vt vp us) (o : Obj) (hg : (w.alloc o).grownBy w' vt.ownBlock)
    (hown : w'.ownsRow B 49 1 v' (us.length + 1) (us ++ [.slice none 0 0])) :
    ParAt B w0 (w'.setCell ⟨P, 1, none⟩ v') P { st with scr := { st.scr with threads := st.scr.threads ++ [[]] } } v' vp (us ++ [.slice none 0 0]) := by
  have hP' : w'.heap[P]? = some (parO st vt vp) := (grown_block hg h.lt (row_ne h.thr h.par (by decide))).trans h.par
  have hb : Below B w w' := grown_below hg h.size (fun k hk => (row_kind h.thr hk).1)
  have tr : ∀ {e : TypeId} {size n : Nat} {v : Value} {xs : List Value}, w.ownsRow B e size v n xs → e ≠ 49 → e ≠ 66 → (w'.setCell ⟨P, 1, none⟩ v').ownsRow B e size v n xs := fun {e size n v xs} hr he hp => by
    have h1 : w'.ownsRow B e size v n xs := row_step hg hr (fun g hgg => row_row hr h.thr he hgg)
    exact ownsRow_setCell_other h1 (row_ne h1 hP' (Ne.symm hp)) _
  refine ⟨h.base, heap_set (j := 1) hP' v', ?_, by simp [h.hus], ?_, ?_, tr h.pks (by decide) (by decide), (h.below.trans hb).setCell (p := ⟨P, 1, none⟩) h.base _, ?_⟩
  · have := ownsRow_setCell_other hown (a := ⟨P, 1, none⟩) (row_ne hown hP' (by decide)) v'
    simpa using this
  · intro i u t hu ht
    rw [List.getElem?_append] at hu
    simp only [List.getElem?_append] at ht
    split at hu
    · next hi =>
      rw [if_pos (by rw [← h.hus]; exact hi)] at ht
      exact tr (h.ops i u t hu ht) (by decide) (by decide)
    · next hi =>
      rw [if_neg (by rw [← h.hus]; exact hi)] at ht
      have hi0 : i - us.length = 0 := by
        have := (List.getElem?_eq_some_iff.1 hu).1
        simp at this
        omega
      rw [hi0] at hu
      rw [← h.hus, hi0] at ht
      simp only [List.getElem?_cons_zero, Option.some.injEq] at hu ht
      subst hu ht
      exact World.ownsRow_nil _ _ _ _
  · intro i j u v b hu hv hub hvb
    rw [List.getElem?_append] at hu hv
    split at hu
    · split at hv
      · exact h.dist i j u v b hu hv hub hvb
      · next hj =>
        have hj0 : j - us.length = 0 := by
          have := (List.getElem?_eq_some_iff.1 hv).1
          simp at this
          omega
        rw [hj0] at hv
        simp only [List.getElem?_cons_zero, Option.some.injEq] at hv
        subst hv
        simp [Value.ownBlock] at hvb
    · next hi =>
      have hi0 : i - us.length = 0 := by
        have := (List.getElem?_eq_some_iff.1 hu).1
        simp at this
        omega
      rw [hi0] at hu
      simp only [List.getElem?_cons_zero, Option.some.injEq] at hu
      subst hu
      simp [Value.ownBlock] at hub
  · have := grown_size hg
    have := h.size
    simp [World.setCell]
    omega
end Go.Proofs.YtnoeiaicligmiaaDoor
