/- Steps of gen.Script: a thread is done; a pick is appended in a region that draws its order. -/
import Derived.Test.YtnoeiaicligmiaaDoorSGenA
namespace Go.Proofs.YtnoeiaicligmiaaDoor
set_option linter.unusedVariables false
set_option linter.unusedSimpArgs false
open Go Go.RowKit Go.MapKept
theorem TapeIs.setCell {w : World} {B bt : Nat} (h : TapeIs w B bt) {P j : Nat} (hP : B ≤ P) (hne : bt ≠ P) (v : Value) : TapeIs (w.setCell ⟨P, j, none⟩ v) B bt :=
  h.keep (Below.heap_setCell _ _ _ _ hne) (fun k hk => Below.heap_setCell _ _ _ _ (by simp only; omega))
theorem tape_ne {w : World} {B bt : Nat} (h : TapeIs w B bt) {P : Nat} {cs : Array Value} {t : TypeId} {f : Nat × Nat} (hP : w.heap[P]? = some (.cells cs t f)) (ht : t ≠ 73) : bt ≠ P := by
  rintro rfl
  obtain ⟨A, n, c, i, hb, _⟩ := h
  rw [hb] at hP
  simp only [Option.some.injEq, Obj.cells.injEq] at hP
  exact ht hP.2.1.symm
/-- the thread under construction is appended to the box -/
theorem GenAt.thread {B : Nat} {w0 w w' : World} {P : Nat} {st : PS} {vt vp v' : Value} {us : List Value} {v9 : Value} {t : List OpD} {v7 : Value} {hs : List Int} {bt : Nat} (h : GenAt B w0 w P st vt vp us v9 t v7 hs bt) (o : Obj) (hg : (w.alloc o).grownBy w' vt.ownBlock)
    (hown : w'.ownsRow B 49 1 v' (us.length + 1) (us ++ [v9])) :
    GenAt B w0 (w'.setCell ⟨P, 1, none⟩ v') P { st with scr := { st.scr with threads := st.scr.threads ++ [t] } } v' vp (us ++ [v9]) (.slice none 0 0) [] v7 hs bt := by
  have hb : Below w.heap.size w (w.alloc o) := (Below.refl _ _).alloc (Nat.le_refl _) _
  have ha := h.above hb
  have hP' : w'.heap[P]? = some (bxO st vt vp) := (hg.block P ha.box.lt (fun e => row_ne ha.box.thr ha.box.par (by decide) e.symm)).trans ha.box.par
  have t1 : TapeIs w' B bt := tape_row ha.tape ha.box.thr (by decide) (Nat.le_refl _) ha.box.size hg
  have h7 : w'.ownsRow B 3 1 v7 hs.length (hs.map (.int .i64)) := row_keep ha.hand (fun g hgg => hg.block g (row_lt ha.hand hgg) (fun e => row_row ha.hand ha.box.thr (by decide) hgg e.symm))
  exact ⟨ha.box.addT hg v9 t ha.row h.apart hown, World.ownsRow_nil _ _ _ _, fun i u b _ _ hb => by simp [Value.ownBlock] at hb, ownsRow_setCell_other h7 (row_ne h7 hP' (by decide)) _, h.hbd, h.nop, t1.setCell h.box.base (tape_ne t1 hP' (by decide)) _⟩
theorem step_int {ops : Array Oper} {o : Oper} {a : Act} {K : Act → World → Prop} {Q : Exit → Act → World → Prop} {E : Prop} (hgd : o.guard = none) (s x : Operand) (ho : o.op = .call { callee := .builtin .append, args := #[s, x], argTypes := #[23, 23] })
    (B : Nat) (W : World) (u : Value) (n : Nat) (xs : List Value) (hown : W.ownsRow B 3 1 u n xs) (hs : a.eval s = u) (ad : Addr) (m : Nat) (hx : a.eval x = .slice (some ad) m m) (ys : List Value) (hm : ys.length = m) (hc : ∀ j v, ys[j]? = some v → W.cell? (ad.add j) = some v) (h1 : ∀ v ∈ ys, v.oneCell' = true) (hB : B ≤ W.heap.size) (hn : n + m ≤ 1048576)
    (hK : ∀ a' c' w', w'.ownsRow B 3 1 (.slice a' (n + m) c') (n + m) (xs ++ ys) → W.grownBy w' u.ownBlock → K (a.put o.dst (.slice a' (n + m) c')) w') : if Region.wanted o (yielded ops a.tmps) = true then Oper.wp Tryd.prog o a W K Q else E := by
  have hw : Region.wanted o (yielded ops a.tmps) = true := by simp [Region.wanted, hgd]
  rw [if_pos hw]
  obtain ⟨i0, hi, hz0, hz1, hz2⟩ := info_parts int_info
  obtain ⟨v', w', hr, ho', hg, _⟩ := run_append_own (P := Tryd.prog) W B 23 o.type 3 i0 _ 1 8 Tryd.underlying23 hi hz0 hz1 hz2 rfl (by decide) u n xs hown ad m m ys (by omega) hc h1 (by unfold maxLen; omega) (by omega) hB
  obtain ⟨a', c', rfl⟩ := row_form ho'
  unfold Oper.wp execOp
  simp only [ho, resolve, invoke, builtin, Sem.run_bind, Sem.run_pure, Result.andThen_ok, List.map_toArray, List.map_cons, List.map_nil, hs, hx, hr]
  exact hK a' c' w' ho' hg
end Go.Proofs.YtnoeiaicligmiaaDoor
