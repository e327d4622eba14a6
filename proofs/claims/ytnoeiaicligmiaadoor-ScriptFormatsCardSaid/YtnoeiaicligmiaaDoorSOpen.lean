/- Arguments of type api.Op and api.Script, opened. -/
import Derived.Test.YtnoeiaicligmiaaDoorSFrame
import Derived.Lib.SmallJoins
namespace Go.Proofs.YtnoeiaicligmiaaDoor
set_option linter.unusedVariables false
set_option linter.unusedSimpArgs false
open Go Go.RowKit
section
variable {H : Type} {enc : TypeId × Value → H} {w : World} {base : Nat} {spare : Nat → Bool} {held : Bool}
theorem list5 {α : Type} {l : List α} (h : l.length = 5) : ∃ a b c d e, l = [a, b, c, d, e] := by
  match l, h with
  | [a, b, c, d, e], _ => exact ⟨a, b, c, d, e, rfl⟩
theorem trod_struct5 {P : Program} {t : TypeId} {f0 f1 f2 f3 f4 : Field} {fuel : Nat} {cs : List Value} {x : DataW H × List MemPlace} (ht : P.underlying t = some (.struct #[f0, f1, f2, f3, f4])) (h : DataW.trod enc P w base spare held fuel t cs = some x) :
    ∃ y0 y1 y2 y3 y4 n, x.1 = .agg [y0.1, y1.1, y2.1, y3.1, y4.1] ∧ cs.length = P.cellsOf t ∧ DataW.trod enc P w base spare held n f0.type ((cs.drop f0.offset).take (P.cellsOf f0.type)) = some y0 ∧
      DataW.trod enc P w base spare held n f1.type ((cs.drop f1.offset).take (P.cellsOf f1.type)) = some y1 ∧ DataW.trod enc P w base spare held n f2.type ((cs.drop f2.offset).take (P.cellsOf f2.type)) = some y2 ∧
      DataW.trod enc P w base spare held n f3.type ((cs.drop f3.offset).take (P.cellsOf f3.type)) = some y3 ∧ DataW.trod enc P w base spare held n f4.type ((cs.drop f4.offset).take (P.cellsOf f4.type)) = some y4 := by
  obtain ⟨xs, n, _, rfl, hl, hlen, hf⟩ := DataW.trod_struct ht h
  match xs, hlen with
  | [y0, y1, y2, y3, y4], _ => exact ⟨y0, y1, y2, y3, y4, n, rfl, hl, by simpa using hf 0 f0 rfl, by simpa using hf 1 f1 rfl, by simpa using hf 2 f2 rfl, by simpa using hf 3 f3 rfl, by simpa using hf 4 f4 rfl⟩
theorem trod_op {fuel : Nat} {cs : List Value} {x : DataW H × List MemPlace} (h : DataW.trod enc Tryd.prog w base spare held fuel 39 cs = some x) (hw : ∀ n ∈ x.1.weights Tryd.prog 39, n ≤ reachBytes) : ∃ o : OpD, cs = opC o ∧ OpOk o ∧ o.key.size ≤ 140737488351232 := by
  obtain ⟨y0, y1, y2, y3, y4, n, hx, hl, h0, h1, h2, h3, h4⟩ := trod_struct5 Tryd.underlying39 h
  have hC : Tryd.prog.cellsOf 39 = 5 := by kernel_rfl
  have i1 : Tryd.prog.cellsOf 3 = 1 := by kernel_rfl
  have i2 : Tryd.prog.cellsOf 9 = 1 := by kernel_rfl
  have i3 : Tryd.prog.cellsOf 29 = 1 := by kernel_rfl
  rw [hC] at hl
  obtain ⟨c0, c1, c2, c3, c4, rfl⟩ := list5 hl
  · clear hl h
    simp only [i1, i2, i3, List.drop_zero, List.drop_succ_cons, List.take_succ_cons, List.take_zero] at h0 h1 h2 h3 h4
    obtain ⟨a0, e0, _, w0⟩ := DataW.trod_int Tryd.underlying3 h0
    obtain ⟨a1, e1, _, w1⟩ := DataW.trod_int Tryd.underlying3 h1
    obtain ⟨a2, e2, x2, w2⟩ := DataW.trod_string Tryd.underlying9 h2
    obtain ⟨a3, e3, _, w3⟩ := DataW.trod_int Tryd.underlying29 h3
    obtain ⟨a4, e4, _, w4⟩ := DataW.trod_int Tryd.underlying29 h4
    simp only [List.cons.injEq, and_true] at e0 e1 e2 e3 e4
    subst e0 e1 e2 e3 e4
    have b0 := bounds_i64 w0
    have b1 := bounds_i64 w1
    have b3 := bounds_u64 w3
    have b4 := bounds_u64 w4
    have hk : a2.data.toList.length ≤ reachBytes := hw _ (by rw [hx, x2]; simp [DataW.weights, DataW.weightsEach, Tryd.underlying39])
    exact ⟨⟨a0, a1, a2, a3, a4⟩, rfl, ⟨b0.1, b0.2, b1.1, b1.2, b3.1, b3.2, b4.1, b4.2⟩, by rw [Lib.size_eq]; exact hk⟩
theorem weightsAll_mem {P : Program} {e : TypeId} : ∀ {l : List (DataW H)} {d : DataW H}, d ∈ l → ∀ n ∈ d.weights P e, n ∈ DataW.weightsAll P e l
  | [], _, h => by cases h
  | a :: r, d, h => fun n hn => by
    rw [DataW.weightsAll, List.mem_append]
    rcases List.mem_cons.1 h with rfl | h
    · exact Or.inl hn
    · exact Or.inr (weightsAll_mem h n hn)
theorem slice_fits {P : Program} {t e : TypeId} {elems sp : List (DataW H)} (ht : P.underlying t = some (.slice e)) (hw : ∀ n ∈ (DataW.slice elems sp).weights P t, n ≤ reachBytes) : elems.length * P.bytesOf e ≤ reachBytes ∧ ∀ d ∈ elems, ∀ n ∈ d.weights P e, n ≤ reachBytes := by
  have e1 : (DataW.slice elems sp).weights P t = (elems.length + sp.length) * P.bytesOf e :: (DataW.weightsAll P e elems ++ DataW.weightsAll P e sp) := by
    simp [DataW.weights, ht]
  rw [e1] at hw
  refine ⟨Nat.le_trans (Nat.mul_le_mul_right _ (Nat.le_add_right _ _)) (hw _ (.head _)), fun d hd n hn => hw n (.tail _ (List.mem_append.2 (Or.inl (weightsAll_mem hd n hn))))⟩
theorem cell_spot_none {a : Addr} {v : Value} (h : w.cell? (a.add 0) = some v) : ∃ b off, a = ⟨b, off, none⟩ := by
  obtain ⟨b, off, spot⟩ := a
  have hspot : spot = none := by simpa [Addr.add] using World.cell?_spot h
  subst hspot
  exact ⟨b, off, rfl⟩
instance : Inhabited OpD := ⟨⟨0, 0, ⟨#[]⟩, 0, 0⟩⟩
theorem trod_ops {fuel : Nat} {v : Value} {x : DataW H × List MemPlace} (h : DataW.trod enc Tryd.prog w base spare held fuel 49 [v] = some x) (hw : ∀ n ∈ x.1.weights Tryd.prog 49, n ≤ reachBytes) : ∃ (u : Option Addr) (c : Nat) (t : List OpD), v = .slice u t.length c ∧ OpsAt w u t ∧ t.length ≤ 4611686018427387904 ∧ ∀ o ∈ t, OpOk o ∧ o.key.size ≤ 140737488351232 := by
  have hC : Tryd.prog.cellsOf 39 = 5 := by kernel_rfl
  rcases Deep.open_slice Tryd.underlying49 h with ⟨hcs, _⟩ | ⟨a, len, cap, m, n, D, Pl, hcs, hb, hl, hm, hmm, hxx, hx⟩
  · simp only [List.cons.injEq, and_true] at hcs
    exact ⟨none, 0, [], hcs, fun h0 => absurd h0 (by simp), by simp, by simp⟩
  · simp only [List.cons.injEq, and_true] at hcs
    have hlm : len ≤ m := by rw [hmm]; split <;> omega
    rw [hxx] at hw
    obtain ⟨hw1, hw2⟩ := slice_fits Tryd.underlying49 hw
    simp only [List.length_map, List.length_range] at hw1
    have hw3 : len ≤ 4611686018427387904 := by
      have hby : Tryd.prog.bytesOf 39 = 48 := by kernel_rfl
      rw [hby] at hw1
      unfold reachBytes at hw1
      omega
    have h1 : ∀ i, i < len → ∃ o : OpD, (∀ j v, (opC o)[j]? = some v → w.cell? ((a.add (i * 5)).add j) = some v) ∧ OpOk o ∧ o.key.size ≤ 140737488351232 := fun i hi => by
      obtain ⟨cs', h1, h2⟩ := hx i (by omega)
      obtain ⟨o, rfl, ho, hk⟩ := trod_op h2 (hw2 _ (List.mem_map.2 ⟨i, by simpa using hi, rfl⟩))
      rw [hC] at h1
      obtain ⟨_, _, h3⟩ := World.cells?_some h1
      refine ⟨o, fun j v hj => ?_, ho, hk⟩
      have hj5 : j < 5 := (List.getElem?_eq_some_iff.1 hj).1
      have := h3 j hj5
      rw [hj] at this
      exact this
    obtain ⟨F, hF⟩ := Deep.choose_lt h1
    refine ⟨some a, cap, (List.range len).map F, by simpa using hcs, ?_, by simpa using hw3, ?_⟩
    · intro h0
      have hl0 : 0 < len := by simpa using h0
      obtain ⟨b, off, rfl⟩ := cell_spot_none (a := a) (by have := (hF 0 hl0).1 0 _ rfl; simpa [Addr.add] using this)
      have hc : ∀ k, k < len → ∀ j v, (opC (F k))[j]? = some v → w.cell? ⟨b, off + (k * 5 + j), none⟩ = some v := fun k hk j v hj => by
        have := (hF k hk).1 j v hj
        rwa [Go.WideShapes.add_plain, Go.WideShapes.add_plain, Nat.add_assoc] at this
      refine ⟨b, off, rfl, acell_lt (hc 0 hl0 0 _ rfl), fun k o hk => ?_⟩
      have hkl : k < len := by simpa using (List.getElem?_eq_some_iff.1 hk).1
      have : o = F k := by simpa [hkl] using hk.symm
      subst this
      exact ⟨hc k hkl 0 _ rfl, hc k hkl 1 _ rfl, hc k hkl 2 _ rfl, hc k hkl 3 _ rfl, hc k hkl 4 _ rfl⟩
    · intro o ho
      obtain ⟨i, hi, rfl⟩ := List.mem_map.1 ho
      exact (hF i (by simpa using hi)).2
/-- keys that fit into memory -/
def KeysFit (s : ScrD) : Prop := ∀ t ∈ s.threads, ∀ o ∈ t, o.key.size ≤ 140737488351232
theorem trod_thr {fuel : Nat} {v : Value} {x : DataW H × List MemPlace} (h : DataW.trod enc Tryd.prog w base spare held fuel 30 [v] = some x) (hw : ∀ n ∈ x.1.weights Tryd.prog 30, n ≤ reachBytes) : ∃ (u : Option Addr) (c : Nat) (ts : List (List OpD)), v = .slice u ts.length c ∧ ThrAt w u ts ∧ ts.length ≤ 4611686018427387904 ∧ ∀ t ∈ ts, t.length ≤ 4611686018427387904 ∧ ∀ o ∈ t, OpOk o ∧ o.key.size ≤ 140737488351232 := by
  have hC : Tryd.prog.cellsOf 49 = 1 := by kernel_rfl
  rcases Deep.open_slice1 Tryd.underlying30 hC h with ⟨hcs, _⟩ | ⟨a, len, cap, m, n, V, D, Pl, hcs, hb, hl, hm, hmm, hxx, hx⟩
  · simp only [List.cons.injEq, and_true] at hcs
    exact ⟨none, 0, [], hcs, fun h0 => absurd h0 (by simp), by simp, by simp⟩
  · simp only [List.cons.injEq, and_true] at hcs
    have hlm : len ≤ m := by rw [hmm]; split <;> omega
    rw [hxx] at hw
    obtain ⟨hw1, hw2⟩ := slice_fits Tryd.underlying30 hw
    simp only [List.length_map, List.length_range] at hw1
    have hw3 : len ≤ 4611686018427387904 := by
      have hby : Tryd.prog.bytesOf 49 = 24 := by kernel_rfl
      rw [hby] at hw1
      unfold reachBytes at hw1
      omega
    have h1 : ∀ i, i < len → ∃ t : List OpD, (∃ u c, w.cell? (a.add i) = some (.slice u t.length c) ∧ OpsAt w u t) ∧ t.length ≤ 4611686018427387904 ∧ ∀ o ∈ t, OpOk o ∧ o.key.size ≤ 140737488351232 := fun i hi => by
      obtain ⟨h1, h2⟩ := hx i (by omega)
      obtain ⟨u, c, t, hv, h3, h4, h5⟩ := trod_ops h2 (hw2 _ (List.mem_map.2 ⟨i, by simpa using hi, rfl⟩))
      rw [hv] at h1
      exact ⟨t, ⟨u, c, h1, h3⟩, h4, h5⟩
    obtain ⟨F, hF⟩ := Deep.choose_lt h1
    refine ⟨some a, cap, (List.range len).map F, by simpa using hcs, ?_, by simpa using hw3, ?_⟩
    · intro h0
      have hl0 : 0 < len := by simpa using h0
      obtain ⟨u0, c0, hc0, _⟩ := (hF 0 hl0).1
      obtain ⟨b, off, rfl⟩ := cell_spot_none hc0
      have hlt : b < w.heap.size := by
        have := acell_lt hc0
        rwa [Go.WideShapes.add_plain] at this
      refine ⟨b, off, rfl, hlt, fun k t hk => ?_⟩
      have hkl : k < len := by simpa using (List.getElem?_eq_some_iff.1 hk).1
      have : t = F k := by simpa [hkl] using hk.symm
      subst this
      obtain ⟨u, c, hc, hu⟩ := (hF k hkl).1
      rw [Go.WideShapes.add_plain] at hc
      exact ⟨u, c, hc, hu⟩
    · intro t ht
      obtain ⟨i, hi, rfl⟩ := List.mem_map.1 ht
      exact (hF i (by simpa using hi)).2
theorem trod_picks {fuel : Nat} {v : Value} {x : DataW H × List MemPlace} (h : DataW.trod enc Tryd.prog w base spare held fuel 23 [v] = some x) (hw : ∀ n ∈ x.1.weights Tryd.prog 23, n ≤ reachBytes) : ∃ (u : Option Addr) (c : Nat) (ps : List Int), v = .slice u ps.length c ∧ PicksAt w u ps ∧ ps.length ≤ 4611686018427387904 ∧ ∀ p ∈ ps, -9223372036854775808 ≤ p ∧ p ≤ 9223372036854775807 := by
  have hC : Tryd.prog.cellsOf 3 = 1 := by kernel_rfl
  rcases Deep.open_slice1 Tryd.underlying23 hC h with ⟨hcs, _⟩ | ⟨a, len, cap, m, n, V, D, Pl, hcs, hb, hl, hm, hmm, hxx, hx⟩
  · simp only [List.cons.injEq, and_true] at hcs
    exact ⟨none, 0, [], hcs, fun h0 => absurd h0 (by simp), by simp, by simp⟩
  · simp only [List.cons.injEq, and_true] at hcs
    have hlm : len ≤ m := by rw [hmm]; split <;> omega
    rw [hxx] at hw
    obtain ⟨hw1, hw2⟩ := slice_fits Tryd.underlying23 hw
    simp only [List.length_map, List.length_range] at hw1
    have hw3 : len ≤ 4611686018427387904 := by
      have hby : Tryd.prog.bytesOf 3 = 8 := by kernel_rfl
      rw [hby] at hw1
      unfold reachBytes at hw1
      omega
    have h1 : ∀ i, i < len → ∃ p : Int, w.cell? (a.add i) = some (.int .i64 p) ∧ -9223372036854775808 ≤ p ∧ p ≤ 9223372036854775807 := fun i hi => by
      obtain ⟨h1, h2⟩ := hx i (by omega)
      obtain ⟨p, hp, _, wp⟩ := DataW.trod_int Tryd.underlying3 h2
      simp only [List.cons.injEq, and_true] at hp
      rw [hp] at h1
      exact ⟨p, h1, bounds_i64 wp⟩
    obtain ⟨F, hF⟩ := Deep.choose_lt h1
    refine ⟨some a, cap, (List.range len).map F, by simpa using hcs, ?_, by simpa using hw3, ?_⟩
    · intro h0
      have hl0 : 0 < len := by simpa using h0
      obtain ⟨b, off, rfl⟩ := cell_spot_none (hF 0 hl0).1
      have hlt : b < w.heap.size := by
        have := acell_lt (hF 0 hl0).1
        rwa [Go.WideShapes.add_plain] at this
      refine ⟨b, off, rfl, hlt, fun k p hk => ?_⟩
      have hkl : k < len := by simpa using (List.getElem?_eq_some_iff.1 hk).1
      have : p = F k := by simpa [hkl] using hk.symm
      subst this
      have := (hF k hkl).1
      rwa [Go.WideShapes.add_plain] at this
    · intro p hp
      obtain ⟨i, hi, rfl⟩ := List.mem_map.1 hp
      exact (hF i (by simpa using hi)).2
end
set_option maxRecDepth 100000 in
theorem open_op {H : Type} {enc : TypeId × Value → H} {w : World} {r : Reach} {b0 : Nat} {v : Value} {d : DataW H} {ps : List MemPlace} (hval : Value.okWide Tryd.prog w r b0 39 v) (h : DataW.Trod enc Tryd.prog w 0 (fun _ => true) true 39 v d ps) (hw : ∀ n ∈ d.weights Tryd.prog 39, n ≤ reachBytes) : ∃ o : OpD, v = opV o ∧ (OpOk o ∧ o.key.size ≤ 140737488351232) := by
  obtain ⟨cs, rfl, hsz⟩ := Go.WideShapes.okWide_struct Tryd.underlying39 hval
  obtain ⟨fuel, hf⟩ := h
  obtain ⟨o, ho, hk⟩ := trod_op hf hw
  simp only [Value.cells] at ho
  refine ⟨o, ?_, hk⟩
  have : cs = (opC o).toArray := by
    apply Array.ext'
    simpa using ho
  rw [this]
  rfl
set_option maxRecDepth 100000 in
theorem open_script {H : Type} {enc : TypeId × Value → H} {w : World} {r : Reach} {b0 : Nat} {v : Value} {d : DataW H} {ps : List MemPlace} (hval : Value.okWide Tryd.prog w r b0 32 v) (h : DataW.Trod enc Tryd.prog w 0 (fun _ => true) true 32 v d ps) (hw : ∀ n ∈ d.weights Tryd.prog 32, n ≤ reachBytes) :
    ∃ (A : Option Addr) (c : Nat) (D : Option Addr) (e : Nat) (s : ScrD), v = scrV s.mask A s.threads.length c D s.picks.length e ∧ (ScrAt w A D s ∧ ScrOk s ∧ KeysFit s) := by
  have hC : Tryd.prog.cellsOf 32 = 3 := by kernel_rfl
  obtain ⟨v0, v1, v2, y0, y1, y2, n, rfl, rfl, _, h0, h1, h2⟩ := Joins.open_agg3 Tryd.underlying32 (by kernel_rfl) hC hval h
  obtain ⟨m, hm, _, wm⟩ := DataW.trod_int Tryd.underlying29 h0
  have we : (DataW.agg [y0.1, y1.1, y2.1]).weights Tryd.prog 32 = y0.1.weights Tryd.prog 29 ++ (y1.1.weights Tryd.prog 30 ++ (y2.1.weights Tryd.prog 23 ++ [])) := by
    simp [DataW.weights, DataW.weightsEach, Tryd.underlying32]
  rw [we] at hw
  obtain ⟨A, c, ts, rfl, h3, h4, h5⟩ := trod_thr h1 (fun n hn => hw n (by simp [hn]))
  obtain ⟨D, e, qs, rfl, h6, h7, h8⟩ := trod_picks h2 (fun n hn => hw n (by simp [hn]))
  simp only [List.cons.injEq, and_true] at hm
  subst hm
  have bm := bounds_u64 wm
  exact ⟨A, c, D, e, ⟨m, ts, qs⟩, rfl, ⟨h3, h6, h4, h7, fun t ht => (h5 t ht).1⟩, ⟨bm.1, bm.2, fun t ht o ho => ((h5 t ht).2 o ho).1, h8⟩, fun t ht o ho => ((h5 t ht).2 o ho).2⟩
end Go.Proofs.YtnoeiaicligmiaaDoor
