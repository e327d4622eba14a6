/- Arguments of type []ctrielaw27.Step, opened. -/
import Derived.Test.YtagfghihnkkfiaaPlay
import Derived.Test.YtagfghihnkkfiaaFrame
import Derived.Deep.Slices
import Derived.OpenShut
namespace Go.Proofs.Ytagfghihnkkfiaa
set_option linter.unusedVariables false
set_option linter.unusedSimpArgs false
open Go Go.ChangeShapes Go.WideShapes Go.ChangeAt Go.RowKit
set_option maxRecDepth 100000
section
variable {H : Type} {enc : TypeId × Value → H} {w : World}
theorem struct5_trod {P : Program} {t : TypeId} {f0 f1 f2 f3 f4 : Field} {fuel : Nat} {cs : List Value} {x : DataW H × List MemPlace} (ht : P.underlying t = some (.struct #[f0, f1, f2, f3, f4])) (h : DataW.trod enc P w 0 (fun _ => true) true fuel t cs = some x) :
    ∃ y0 y1 y2 y3 y4 n, x.1 = .agg [y0.1, y1.1, y2.1, y3.1, y4.1] ∧ cs.length = P.cellsOf t ∧ DataW.trod enc P w 0 (fun _ => true) true n f0.type ((cs.drop f0.offset).take (P.cellsOf f0.type)) = some y0 ∧
      DataW.trod enc P w 0 (fun _ => true) true n f1.type ((cs.drop f1.offset).take (P.cellsOf f1.type)) = some y1 ∧ DataW.trod enc P w 0 (fun _ => true) true n f2.type ((cs.drop f2.offset).take (P.cellsOf f2.type)) = some y2 ∧
      DataW.trod enc P w 0 (fun _ => true) true n f3.type ((cs.drop f3.offset).take (P.cellsOf f3.type)) = some y3 ∧ DataW.trod enc P w 0 (fun _ => true) true n f4.type ((cs.drop f4.offset).take (P.cellsOf f4.type)) = some y4 := by
  obtain ⟨xs, n, _, rfl, hl, hlen, hf⟩ := DataW.trod_struct ht h
  match xs, hlen with
  | [y0, y1, y2, y3, y4], _ => exact ⟨y0, y1, y2, y3, y4, n, rfl, hl, by simpa using hf 0 f0 rfl, by simpa using hf 1 f1 rfl, by simpa using hf 2 f2 rfl, by simpa using hf 3 f3 rfl, by simpa using hf 4 f4 rfl⟩
theorem ints_trod {fuel : Nat} {cs : List Value} {x : DataW H × List MemPlace} (h : DataW.trod enc Try.prog w 0 (fun _ => true) true fuel 23 cs = some x) : ∃ A n c, cs = [.slice A n c] ∧ IntsAt w A n := by
  rcases Go.ChangeShapes.open_ints Try.underlying23 Try.underlying3 (by kernel_rfl) h with ⟨hcs, _⟩ | ⟨a, len, cap, zs, hcs, _, hl, hm, hz, _, hcell, hwz⟩
  · exact ⟨none, 0, 0, hcs, by omega, fun h => absurd h (by omega)⟩
  · refine ⟨some a, len, cap, hcs, ?_⟩
    simp only [if_true] at hz
    unfold maxLen at hm
    refine ⟨by omega, fun h0 => ?_⟩
    obtain ⟨b, off, rfl, hall⟩ := ints_at hcell (by omega)
    refine ⟨b, off, rfl, cell_lt (hall 0 (by omega)), fun k hk => ⟨zs.getD k 0, hall k (by omega), ?_⟩⟩
    have hmem : zs.getD k 0 ∈ zs := by
      have hk2 : k < zs.length := by omega
      have e : zs.getD k 0 = zs[k] := by simp [List.getD, List.getElem?_eq_getElem hk2]
      rw [e]
      exact List.getElem_mem _
    exact bounds_i64 (hwz _ hmem)
def opL (o : OpD) : List Value := [.int .i64 o.kind, .int .i64 o.handle, .string o.key, .int .u64 o.value, .int .u64 o.expect]
theorem op_trod {fuel : Nat} {cs : List Value} {x : DataW H × List MemPlace} (h : DataW.trod enc Try.prog w 0 (fun _ => true) true fuel 39 cs = some x) : ∃ o : OpD, cs = opL o ∧ o.key.size ≤ maxLen := by
  obtain ⟨y0, y1, y2, y3, y4, n, hx, hl, h0, h1, h2, h3, h4⟩ := struct5_trod Try.underlying39 h
  have hC : Try.prog.cellsOf 39 = 5 := by kernel_rfl
  have i1 : Try.prog.cellsOf 3 = 1 := by kernel_rfl
  have i2 : Try.prog.cellsOf 9 = 1 := by kernel_rfl
  have i3 : Try.prog.cellsOf 22 = 1 := by kernel_rfl
  rw [hC] at hl
  match cs, hl with
  | [c0, c1, c2, c3, c4], _ =>
    simp only [i1, i2, i3, List.drop_zero, List.drop_succ_cons, List.take_succ_cons, List.take_zero] at h0 h1 h2 h3 h4
    obtain ⟨a0, e0, _, w0⟩ := DataW.trod_int Try.underlying3 h0
    obtain ⟨a1, e1, _, w1⟩ := DataW.trod_int Try.underlying3 h1
    obtain ⟨a2, e2, x2, w2⟩ := DataW.trod_string Try.underlying9 h2
    obtain ⟨a3, e3, _, w3⟩ := DataW.trod_int Try.underlying22 h3
    obtain ⟨a4, e4, _, w4⟩ := DataW.trod_int Try.underlying22 h4
    simp only [List.cons.injEq, and_true] at e0 e1 e2 e3 e4
    subst e0 e1 e2 e3 e4
    exact ⟨⟨a0, a1, a2, a3, a4⟩, rfl, w2⟩
def stepL (s : StepD) : List Value := [.slice s.ch s.n s.c, .int .i64 s.op.kind, .int .i64 s.op.handle, .string s.op.key, .int .u64 s.op.value, .int .u64 s.op.expect, .int .i64 s.thread, .bool s.again, .bool s.copy]
theorem step_trod {fuel : Nat} {cs : List Value} {x : DataW H × List MemPlace} (h : DataW.trod enc Try.prog w 0 (fun _ => true) true fuel 62 cs = some x) : ∃ s : StepD, cs = stepL s ∧ IntsAt w s.ch s.n ∧ s.op.key.size ≤ maxLen ∧ -9223372036854775808 ≤ s.thread ∧ s.thread ≤ 9223372036854775807 := by
  obtain ⟨y0, y1, y2, y3, y4, n, hx, hl, h0, h1, h2, h3, h4⟩ := struct5_trod Try.underlying62 h
  have hC : Try.prog.cellsOf 62 = 9 := by kernel_rfl
  have i1 : Try.prog.cellsOf 3 = 1 := by kernel_rfl
  have i2 : Try.prog.cellsOf 23 = 1 := by kernel_rfl
  have i3 : Try.prog.cellsOf 39 = 5 := by kernel_rfl
  have i4 : Try.prog.cellsOf 4 = 1 := by kernel_rfl
  rw [hC] at hl
  match cs, hl with
  | [c0, c1, c2, c3, c4, c5, c6, c7, c8], _ =>
    simp only [i1, i2, i3, i4, List.drop_zero, List.drop_succ_cons, List.take_succ_cons, List.take_zero] at h0 h1 h2 h3 h4
    obtain ⟨A, k, c, e0, hi⟩ := ints_trod h0
    obtain ⟨o, e1, ho⟩ := op_trod h1
    obtain ⟨a2, e2, _, w2⟩ := DataW.trod_int Try.underlying3 h2
    obtain ⟨a3, e3, _⟩ := DataW.trod_bool Try.underlying4 h3
    obtain ⟨a4, e4, _⟩ := DataW.trod_bool Try.underlying4 h4
    simp only [opL, List.cons.injEq, and_true] at e0 e1 e2 e3 e4
    obtain ⟨rfl, rfl, rfl, rfl, rfl⟩ := e1
    subst e0 e2 e3 e4
    exact ⟨⟨A, k, c, o, a2, a3, a4⟩, rfl, hi, ho, bounds_i64 w2⟩
theorem spot_none {a : Addr} {v : Value} (h : w.cell? (a.add 0) = some v) : ∃ b off, a = ⟨b, off, none⟩ := by
  obtain ⟨b, off, spot⟩ := a
  have hspot : spot = none := by simpa [Addr.add] using World.cell?_spot h
  subst hspot
  exact ⟨b, off, rfl⟩
theorem open_steps {r : Reach} {b0 : Nat} {v : Value} {d : DataW H} {ps : List MemPlace} (hval : Value.okWide Try.prog w r b0 55 v) (h : DataW.Trod enc Try.prog w 0 (fun _ => true) true 55 v d ps) : ∃ A n c, v = .slice A n c ∧ StepsAt w A n := by
  obtain ⟨A, n, c, rfl⟩ := Go.WideShapes.okWide_slice Try.underlying55 hval
  refine ⟨A, n, c, rfl, ?_⟩
  obtain ⟨fuel, hf⟩ := h
  have hC : Try.prog.cellsOf 62 = 9 := by kernel_rfl
  rcases Deep.open_slice Try.underlying55 hf with ⟨hcs, _⟩ | ⟨a, len, cap, m, k, D, Pl, hcs, hb, hl, hm, hmm, hxx, hx⟩
  · simp [Value.cells] at hcs
    obtain ⟨_, rfl, _⟩ := hcs
    exact ⟨by omega, fun h => absurd h (by omega)⟩
  · simp [Value.cells] at hcs
    obtain ⟨rfl, rfl, rfl⟩ := hcs
    simp only [if_true] at hmm
    unfold maxLen at hm
    have h1 : ∀ i, i < n → ∃ s : StepD, (∀ j v, (stepL s)[j]? = some v → w.cell? ((a.add (i * 9)).add j) = some v) ∧ IntsAt w s.ch s.n ∧ s.op.key.size ≤ maxLen ∧ -9223372036854775808 ≤ s.thread ∧ s.thread ≤ 9223372036854775807 := fun i hi => by
      obtain ⟨cs', h1, h2⟩ := hx i (by omega)
      obtain ⟨s, rfl, hs⟩ := step_trod h2
      rw [hC] at h1
      obtain ⟨_, _, h3⟩ := World.cells?_some h1
      refine ⟨s, fun j v hj => ?_, hs⟩
      have hj9 : j < 9 := (List.getElem?_eq_some_iff.1 hj).1
      have := h3 j hj9
      rw [hj] at this
      exact this
    refine ⟨by omega, fun h0 => ?_⟩
    obtain ⟨s0, hs0, _⟩ := h1 0 h0
    obtain ⟨b, off, rfl⟩ := spot_none (a := a) (by have := hs0 0 _ rfl; simpa [Addr.add] using this)
    refine ⟨b, off, rfl, ?_, fun k hk => ?_⟩
    · have := cell_lt (hs0 0 _ rfl)
      simpa [Addr.add] using this
    · obtain ⟨s, hs, hi, hk2, ht⟩ := h1 k hk
      have hc : ∀ j v, (stepL s)[j]? = some v → w.cell? ⟨b, off + k * 9 + j, none⟩ = some v := fun j v hj => by
        have := hs j v hj
        rwa [Go.WideShapes.add_plain, Go.WideShapes.add_plain] at this
      exact ⟨s, hc 0 _ rfl, hc 1 _ rfl, hc 2 _ rfl, hc 3 _ rfl, hc 4 _ rfl, hc 5 _ rfl, hc 6 _ rfl, hc 7 _ rfl, hc 8 _ rfl, hi, hk2, ht⟩
end
end Go.Proofs.Ytagfghihnkkfiaa
