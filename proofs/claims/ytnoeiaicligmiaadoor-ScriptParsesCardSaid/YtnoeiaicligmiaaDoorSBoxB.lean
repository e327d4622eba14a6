/- A thread with operations is appended to a script in a box; a new row of zero operations. -/
import Derived.Test.YtnoeiaicligmiaaDoorSBox
import Derived.Laws.OwnMore
namespace Go.Proofs.YtnoeiaicligmiaaDoor
set_option linter.unusedVariables false
set_option linter.unusedSimpArgs false
open Go Go.RowKit
/-- a thread that lies in a row of its own is appended -/
theorem BoxAt.addT {B : Nat} {w0 w w' : World} {P : Nat} {st : PS} {vt vp v' : Value} {us : List Value} (h : BoxAt B w0 w P st vt vp us) (hg : w.grownBy w' vt.ownBlock) (y : Value) (t0 : List OpD) (hy : w.ownsRow B 39 5 y t0.length (t0.flatMap opC))
    (hd : ∀ (i : Nat) (v : Value) (b : Nat), us[i]? = some v → v.ownBlock = some b → y.ownBlock ≠ some b) (hown : w'.ownsRow B 49 1 v' (us.length + 1) (us ++ [y])) :
    BoxAt B w0 (w'.setCell ⟨P, 1, none⟩ v') P { st with scr := { st.scr with threads := st.scr.threads ++ [t0] } } v' vp (us ++ [y]) := by
  have hbk : ∀ k, k < w.heap.size → vt.ownBlock ≠ some k → w'.heap[k]? = w.heap[k]? := fun k hk hr => hg.block k hk (fun e => hr e.symm)
  have hP' : w'.heap[P]? = some (bxO st vt vp) := (hbk P h.lt (row_ne h.thr h.par (by decide))).trans h.par
  have hb : Below B w w' := ⟨hg.os, hg.tape, hg.output, hg.size, fun k hk => hg.block k (Nat.lt_of_lt_of_le hk h.size) (fun e => by have := (row_kind h.thr e.symm).1; omega)⟩
  have tr : ∀ {e : TypeId} {size n : Nat} {v : Value} {xs : List Value}, w.ownsRow B e size v n xs → e ≠ 49 → e ≠ 32 → (w'.setCell ⟨P, 1, none⟩ v').ownsRow B e size v n xs := fun {e size n v xs} hr he hp => by
    have h1 : w'.ownsRow B e size v n xs := row_keep hr (fun g hgg => hbk g (row_lt hr hgg) (row_row hr h.thr he hgg))
    exact ownsRow_setCell_other h1 (row_ne h1 hP' (Ne.symm hp)) _
  refine ⟨h.base, heap_set (j := 1) hP' v', ?_, by simp [h.hus], ?_, ?_, tr h.pks (by decide) (by decide), (h.below.trans hb).setCell (p := ⟨P, 1, none⟩) h.base _, ?_⟩
  · have := ownsRow_setCell_other hown (a := ⟨P, 1, none⟩) (row_ne hown hP' (by decide)) v'
    simpa using this
  · intro i u t hu ht
    rw [List.getElem?_append] at hu
    simp only [List.getElem?_append] at ht
    split at hu
    · next hi =>
      rw [if_pos (by rw [← h.hus]; exact hi)] at ht
      exact tr (h.ops i u t hu ht) (by decide) (by decide)
    · next hi =>
      rw [if_neg (by rw [← h.hus]; exact hi)] at ht
      have hi0 : i - us.length = 0 := by
        have := (List.getElem?_eq_some_iff.1 hu).1
        simp at this
        omega
      rw [hi0] at hu
      rw [← h.hus, hi0] at ht
      simp only [List.getElem?_cons_zero, Option.some.injEq] at hu ht
      subst hu ht
      exact tr hy (by decide) (by decide)
  · intro i j u v b hu hv hub hvb
    rw [List.getElem?_append] at hu hv
    split at hu
    · split at hv
      · exact h.dist i j u v b hu hv hub hvb
      · next hj =>
        have hj0 : j - us.length = 0 := by
          have := (List.getElem?_eq_some_iff.1 hv).1
          simp at this
          omega
        rw [hj0] at hv
        simp only [List.getElem?_cons_zero, Option.some.injEq] at hv
        subst hv
        exact absurd hvb (hd i u b hu hub)
    · next hi =>
      have hi0 : i - us.length = 0 := by
        have := (List.getElem?_eq_some_iff.1 hu).1
        simp at this
        omega
      rw [hi0] at hu
      simp only [List.getElem?_cons_zero, Option.some.injEq] at hu
      subst hu
      split at hv
      · exact absurd hub (hd j v b hv hvb)
      · next hj =>
        have := (List.getElem?_eq_some_iff.1 hv).1
        simp at this
        omega
  · have := hg.size
    have := h.size
    simp [World.setCell]
    omega
def opZ : OpD := ⟨0, 0, ⟨#[]⟩, 0, 0⟩
theorem made_ops (k : Nat) : (madeCells (Value.agg #[.int .i64 0, .int .i64 0, .string ⟨#[]⟩, .int .u64 0, .int .u64 0]).cells (k * 5)).toList = (List.replicate k opZ).flatMap opC := by
  apply List.ext_getElem?
  intro i
  by_cases hi : i < k * 5
  · have e : i = i / 5 * 5 + i % 5 := by omega
    have hq : (List.replicate k opZ)[i / 5]? = some opZ := by rw [List.getElem?_replicate, if_pos (by omega)]
    have hr := ops_flat (List.replicate k opZ) (i / 5) (i % 5) opZ hq (by omega)
    rw [← e] at hr
    rw [hr]
    have h5 : i % 5 < 5 := by omega
    have hm : (madeCells (Value.agg #[.int .i64 0, .int .i64 0, .string ⟨#[]⟩, .int .u64 0, .int .u64 0]).cells (k * 5))[i]? = (opC opZ)[i % 5]? := by
      have hC : (Value.agg #[.int .i64 0, .int .i64 0, .string ⟨#[]⟩, .int .u64 0, .int .u64 0]).cells = #[.int .i64 0, .int .i64 0, .string ⟨#[]⟩, .int .u64 0, .int .u64 0] := rfl
      rw [hC]
      have h2 : (madeCells #[Value.int .i64 0, .int .i64 0, .string ⟨#[]⟩, .int .u64 0, .int .u64 0] (k * 5))[i]? = some (#[Value.int .i64 0, .int .i64 0, .string ⟨#[]⟩, .int .u64 0, .int .u64 0][i % 5]!) := by
        simp [madeCells, hi]
      rw [h2]
      generalize i % 5 = r at h5
      match r, h5 with
      | 0, _ => rfl
      | 1, _ => rfl
      | 2, _ => rfl
      | 3, _ => rfl
      | 4, _ => rfl
    rw [← hm]
    simp
  · have h1 : (madeCells (Value.agg #[.int .i64 0, .int .i64 0, .string ⟨#[]⟩, .int .u64 0, .int .u64 0]).cells (k * 5)).toList.length ≤ i := by
      simp [size_madeCells]; omega
    have h2 : ((List.replicate k opZ).flatMap opC).length ≤ i := by
      have : ((List.replicate k opZ).flatMap opC).length = k * 5 := by simp [List.length_flatMap, opC]
      omega
    rw [List.getElem?_eq_none h1, List.getElem?_eq_none h2]
theorem run_make_ops (k : Nat) (hk : k ≤ 1048576) : ∃ Z : Array Value, (∀ W : World, (Instr.makeSlice 49 (.int .i64 (k : Int)) (.int .i64 (k : Int))).run Tryd.prog W = .ok (.slice (some ⟨W.heap.size, 0, none⟩) k k) (W.alloc (.cells Z 39))) ∧
    ∀ (W : World) (B : Nat), B ≤ W.heap.size → (W.alloc (.cells Z 39)).ownsRow B 39 5 (.slice (some ⟨W.heap.size, 0, none⟩) k k) (List.replicate k opZ).length ((List.replicate k opZ).flatMap opC) := by
  obtain ⟨i0, hi, hz0, hz1, hz2⟩ := info_parts op_info
  refine ⟨madeCells (Value.agg #[.int .i64 0, .int .i64 0, .string ⟨#[]⟩, .int .u64 0, .int .u64 0]).cells (k * 5), fun W => ?_, fun W B hB => ?_⟩
  · have hr := run_make (P := Tryd.prog) W 49 39 i0 _ Tryd.underlying49 hi hz0 .i64 .i64 k k (by omega) (Int.le_refl _) (by rw [hz2]; omega) (by omega)
    simp only [Int.toNat_natCast] at hr
    rw [hz1] at hr
    exact hr
  · rw [← made_ops, List.length_replicate]
    exact World.ownsRow_lit W _ k hB (by unfold maxLen; omega) (size_madeCells _ _)
theorem step_thr {ops : Array Oper} {o : Oper} {a : Act} {K : Act → World → Prop} {Q : Exit → Act → World → Prop} {E : Prop} (hgd : o.guard = none) (s x : Operand) (ho : o.op = .call { callee := .builtin .append, args := #[s, x], argTypes := #[30, 30] })
    (B : Nat) (W : World) (u : Value) (n : Nat) (xs : List Value) (hown : W.ownsRow B 49 1 u n xs) (hs : a.eval s = u) (ad : Addr) (hx : a.eval x = .slice (some ad) 1 1) (y : Value) (hy : y.oneCell' = true) (hc : W.cell? ad = some y) (hB : B ≤ W.heap.size) (hn : n ≤ 1048576)
    (hK : ∀ a' c' w', w'.ownsRow B 49 1 (.slice a' (n + 1) c') (n + 1) (xs ++ [y]) → W.grownBy w' u.ownBlock → K (a.put o.dst (.slice a' (n + 1) c')) w') : if Region.wanted o (yielded ops a.tmps) = true then Oper.wp Tryd.prog o a W K Q else E := by
  have hw : Region.wanted o (yielded ops a.tmps) = true := by simp [Region.wanted, hgd]
  rw [if_pos hw]
  obtain ⟨i0, hi, hz0, hz1, hz2⟩ := info_parts ops_info
  obtain ⟨v', w', hr, ho', hg, _⟩ := run_append_own (P := Tryd.prog) W B 30 o.type 49 i0 _ 1 24 Tryd.underlying30 hi hz0 hz1 hz2 rfl (by decide) u n xs hown ad 1 1 [y] rfl (fun j v hj => by
    match j, hj with
    | 0, hj => simp only [List.getElem?_cons_zero, Option.some.injEq] at hj; subst hj; simpa [Addr.add] using hc
    | j + 1, hj => simp at hj) (fun v hv => by simp only [List.mem_singleton] at hv; subst hv; exact hy) (by unfold maxLen; omega) (by omega) hB
  obtain ⟨a', c', rfl⟩ := row_form ho'
  unfold Oper.wp execOp
  simp only [ho, resolve, invoke, builtin, Sem.run_bind, Sem.run_pure, Result.andThen_ok, List.map_toArray, List.map_cons, List.map_nil, hs, hx, hr]
  exact hK a' c' w' ho' hg
end Go.Proofs.YtnoeiaicligmiaaDoor
