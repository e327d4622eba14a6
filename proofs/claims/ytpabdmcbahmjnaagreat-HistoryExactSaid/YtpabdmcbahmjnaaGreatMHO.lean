/- Part of a proof: Frame HOpn. -/
import Derived.WalkKit
import Derived.ProofKit
import Derived.OpenShut
import Derived.ChangeStays
import Derived.ChangeBears
import Derived.ReadAgain
import Derived.Below
import Derived.Test.YtpabdmcbahmjnaaGreatMA6
import Derived.Lib.LaidTab
import Derived.Stop.Joined
import Derived.Deep.Slices
import Derived.Lib.SmallJoins
namespace Go.Proofs.YtpabdmcbahmjnaaGreat
open Go.ChangeShapes Go.WideShapes Go.ChangeAt Go.RowKit
set_option linter.unusedSimpArgs false
set_option linter.unusedVariables false
theorem stays_all {H : Type} {enc : TypeId × Value → H} {P : Program} {W W' : World} {sp' : Nat → Bool} (hl : laidOutB P = true) (hm : mapsRowed P = true)
  (hz : ((List.range P.types.size).all fun t => match P.underlying t with | some (.slice e) => decide (0 < P.cellsOf e) | _ => true) = true) (hB : Below W.heap.size W W') :
  ∀ {ts : List TypeId} {vs : List Value} {ds : List (DataW H)} {ps : List MemPlace}, (∀ t ∈ ts, t < P.types.size) → DataW.TrodAll enc P W 0 (fun _ => true) true ts vs ds ps →
   (∀ p ∈ ps, p.block < W.heap.size) → (∀ p ∈ ps, sp' p.block = true) → DataW.TrodAll enc P W' 0 sp' true ts vs ds ps
 | [], [], [], _, _, h, _, _ => h
 | t :: _, _ :: _, _ :: _, _, hT, ⟨p, q, ⟨n, h1⟩, h2, e⟩, hb, hs =>
  ⟨p, q, ⟨n, DataW.trod_stays (kids_rows hl hm) (fun {t e} ht he => slices_full_of P hz t e ht he) (fun h => by cases h) (hT t (List.mem_cons.2 (Or.inl rfl))) h1
    (fun x hx => hB.same (hb x (by rw [e]; exact List.mem_append_left _ hx))) (fun x hx => hs x (by rw [e]; exact List.mem_append_left _ hx))⟩,
   stays_all hl hm hz hB (fun t ht => hT t (List.mem_cons.2 (Or.inr ht))) h2 (fun x hx => hb x (by rw [e]; exact List.mem_append_right _ hx)) (fun x hx => hs x (by rw [e]; exact List.mem_append_right _ hx)), e⟩
theorem post_of_below {H : Type} {enc : TypeId × Value → H} {P : Program} {f : Func} {s : ChangeSpec} {apart fresh handsOn again : Bool} {W W' : World} {args : Array Value} {v : Value} {ds gs : List (DataW H)} {before : List MemPlace}
  (hl : laidOutB P = true) (hm : mapsRowed P = true)
  (hz : ((List.range P.types.size).all fun t => match P.underlying t with | some (.slice e) => decide (0 < P.cellsOf e) | _ => true) = true) (hT : ∀ t ∈ f.params.toList, t < P.types.size)
  (hW : DataW.Whole enc P f.params.toList s.vars apart W args.toList ds gs before)
  (hA : DataW.TrodAll enc P W 0 (fun _ => true) true f.params.toList args.toList ds before)
  (hfa : (s.fn H (ds ++ gs)).args = ds)
  (hres : ∀ (b : Nat) (sp : Nat → Bool) (hd : Bool), DataW.TrodAll enc P W' b sp hd f.resultTypes.toList (v.resultList f.resultTypes.size) (s.fn H (ds ++ gs)).results [])
  (hvars : ∀ sp : Nat → Bool, DataW.TrodVars enc P W' sp s.vars (s.fn H (ds ++ gs)).vars [])
  (hB : Below W.heap.size W W')
  (hok : ∀ (j : Nat) (t : TypeId) (r : Value), f.resultTypes[j]? = some t → (v.resultList f.resultTypes.size)[j]? = some r → Value.okWide P W' .any 0 t r) :
  s.post enc P f apart fresh handsOn again W args v W' := by
 have hold : ∀ p ∈ before, (fun b => decide (b < W.heap.size)) p.block = true := fun p hp => by simpa using hW.lt p hp
 have hargs : ∀ sp : Nat → Bool, (∀ p ∈ before, sp p.block = true) → DataW.TrodAll enc P W' 0 sp true f.params.toList args.toList (s.fn H (ds ++ gs)).args before := fun sp hs => by
  rw [hfa]
  exact stays_all hl hm hz hB hT hA hW.lt hs
 refine ⟨ds, gs, before, [], before, [], hW, hres _ _ _, hargs _ hold, hvars _, World.keptBut_mono (fun p hp => ⟨hp, Or.inr (by simpa using hp)⟩) (hB.frame _), fun _ => ?_⟩
 have hlt := hW.lt
 obtain ⟨_, _, _, _, _, hzz, hn⟩ := hW
 refine ⟨hok, _, _, ([] ++ before) ++ [], ⟨[] ++ before, [], trodAll_append (hargs _ (fun _ _ => rfl)) (hres _ _ _), hvars _, rfl, ?_, ?_⟩, ?_⟩
 ·intro b off hp
  have hp' : MemPlace.cell b off ∈ before := by simpa using hp
  rw [hB.frozen (p := ⟨b, off, none⟩) (hlt _ hp')]
  exact hzz b off hp'
 ·intro ha
  have := hn ha
  simpa using this
 ·intro p hp _
  simpa using hp
def IntsAt (w : World) (A : Option Addr) (n : Nat) : Prop :=
 n ≤ 9223372036854775807 ∧ (0 < n → ∃ b off, A = some ⟨b, off, none⟩ ∧ b < w.heap.size ∧ ∀ k, k < n → ∃ z : Int, w.cell? ⟨b, off + k, none⟩ = some (.int .i64 z) ∧ -9223372036854775808 ≤ z ∧ z ≤ 9223372036854775807)
theorem cell_lt {w : World} {p : Addr} {v : Value} (h : w.cell? p = some v) : p.block < w.heap.size := by
 unfold World.cell? at h
 by_cases hb : p.block < w.heap.size
 ·exact hb
 ·have : w.heap[p.block]? = none := Array.getElem?_eq_none (by omega)
  rw [this] at h
  simp at h
theorem open_slice_ints {H : Type} {enc : TypeId × Value → H} {P : Program} {w : World} {r : Reach} {b0 : Nat} {t e : TypeId} {v : Value} {d : DataW H} {ps : List MemPlace} (ht : P.underlying t = some (.slice e)) (he : P.underlying e = some (.int .i64)) (hc : P.cellsOf e = 1)
  (hval : Value.okWide P w r b0 t v) (h : DataW.Trod enc P w 0 (fun _ => true) true t v d ps) : ∃ A n c, v = .slice A n c ∧ IntsAt w A n := by
 obtain ⟨A, n, c, rfl⟩ := Go.WideShapes.okWide_slice ht hval
 refine ⟨A, n, c, rfl, ?_⟩
 obtain ⟨fuel, hf⟩ := h
 rcases Go.ChangeShapes.open_ints ht he hc hf with ⟨hcs, _⟩ | ⟨a, len, cap, zs, hcs, _, hl, hm, hz, _, hcell, hwz⟩
 ·simp [Value.cells] at hcs
  obtain ⟨_, rfl, _⟩ := hcs
  exact ⟨by omega, fun h => absurd h (by omega)⟩
 ·simp [Value.cells] at hcs
  obtain ⟨rfl, rfl, rfl⟩ := hcs
  simp only [if_true] at hz
  unfold maxLen at hm
  refine ⟨by omega, fun h0 => ?_⟩
  obtain ⟨b, off, rfl, hall⟩ := ints_at hcell (by omega)
  refine ⟨b, off, rfl, cell_lt (hall 0 (by omega)), fun k hk => ⟨zs.getD k 0, hall k (by omega), ?_⟩⟩
  have hmem : zs.getD k 0 ∈ zs := by
   have hk2 : k < zs.length := by omega
   have e : zs.getD k 0 = zs[k] := by simp [List.getD, List.getElem?_eq_getElem hk2]
   rw [e]
   exact List.getElem_mem _
  exact bounds_i64 (hwz _ hmem)
end Go.Proofs.YtpabdmcbahmjnaaGreat
namespace Go.Proofs.YtpabdmcbahmjnaaGreat
open Go Go.ChangeShapes Go.WideShapes Go.ChangeAt Go.RowKit
set_option linter.unusedSimpArgs false
set_option linter.unusedVariables false
set_option maxRecDepth 100000
def U64 (z : Int) : Prop := 0 ≤ z ∧ z ≤ 18446744073709551615
def opCL (o : OpD) : List Value := [.int .i64 o.kind, .int .i64 o.handle, .string o.key, .int .u64 o.value, .int .u64 o.expect]
section
variable {H : Type} {enc : TypeId × Value → H} {w : World} {base : Nat} {spare : Nat → Bool} {held : Bool}
theorem list5 {α : Type} {l : List α} (h : l.length = 5) : ∃ a b c d e, l = [a, b, c, d, e] := by
 match l, h with
 | [a, b, c, d, e], _ => exact ⟨a, b, c, d, e, rfl⟩
theorem trod_struct5 {P : Program} {t : TypeId} {f0 f1 f2 f3 f4 : Field} {fuel : Nat} {cs : List Value} {x : DataW H × List MemPlace} (ht : P.underlying t = some (.struct #[f0, f1, f2, f3, f4])) (h : DataW.trod enc P w base spare held fuel t cs = some x) :
  ∃ y0 y1 y2 y3 y4 n, x.1 = .agg [y0.1, y1.1, y2.1, y3.1, y4.1] ∧ cs.length = P.cellsOf t ∧ DataW.trod enc P w base spare held n f0.type ((cs.drop f0.offset).take (P.cellsOf f0.type)) = some y0 ∧
   DataW.trod enc P w base spare held n f1.type ((cs.drop f1.offset).take (P.cellsOf f1.type)) = some y1 ∧ DataW.trod enc P w base spare held n f2.type ((cs.drop f2.offset).take (P.cellsOf f2.type)) = some y2 ∧
   DataW.trod enc P w base spare held n f3.type ((cs.drop f3.offset).take (P.cellsOf f3.type)) = some y3 ∧ DataW.trod enc P w base spare held n f4.type ((cs.drop f4.offset).take (P.cellsOf f4.type)) = some y4 := by
 obtain ⟨xs, n, _, rfl, hl, hlen, hf⟩ := DataW.trod_struct ht h
 match xs, hlen with
 | [y0, y1, y2, y3, y4], _ => exact ⟨y0, y1, y2, y3, y4, n, rfl, hl, by simpa using hf 0 f0 rfl, by simpa using hf 1 f1 rfl, by simpa using hf 2 f2 rfl, by simpa using hf 3 f3 rfl, by simpa using hf 4 f4 rfl⟩
theorem trod_op {fuel : Nat} {cs : List Value} {x : DataW H × List MemPlace} (h : DataW.trod enc Tryz.prog w base spare held fuel 68 cs = some x) : ∃ o : OpD, cs = opCL o ∧ U64 o.value ∧ o.key.size ≤ maxLen := by
 obtain ⟨y0, y1, y2, y3, y4, n, hx, hl, h0, h1, h2, h3, h4⟩ := trod_struct5 Tryz.underlying68 h
 have hC : Tryz.prog.cellsOf 68 = 5 := by kernel_rfl
 have i1 : Tryz.prog.cellsOf 3 = 1 := by kernel_rfl
 have i2 : Tryz.prog.cellsOf 9 = 1 := by kernel_rfl
 have i3 : Tryz.prog.cellsOf 27 = 1 := by kernel_rfl
 rw [hC] at hl
 obtain ⟨c0, c1, c2, c3, c4, rfl⟩ := list5 hl
 ·clear hl h
  simp only [i1, i2, i3, List.drop_zero, List.drop_succ_cons, List.take_succ_cons, List.take_zero] at h0 h1 h2 h3 h4
  obtain ⟨a0, e0, _, w0⟩ := DataW.trod_int Tryz.underlying3 h0
  obtain ⟨a1, e1, _, w1⟩ := DataW.trod_int Tryz.underlying3 h1
  obtain ⟨a2, e2, x2, w2⟩ := DataW.trod_string Tryz.underlying9 h2
  obtain ⟨a3, e3, _, w3⟩ := DataW.trod_int Tryz.underlying27 h3
  obtain ⟨a4, e4, _, w4⟩ := DataW.trod_int Tryz.underlying27 h4
  simp only [List.cons.injEq, and_true] at e0 e1 e2 e3 e4
  subst e0 e1 e2 e3 e4
  have b0 := bounds_i64 w0
  have b1 := bounds_i64 w1
  have b3 := bounds_u64 w3
  have b4 := bounds_u64 w4
  exact ⟨⟨a0, a1, a2, a3, a4⟩, rfl, b3, w2⟩
theorem weightsAll_mem {P : Program} {e : TypeId} : ∀ {l : List (DataW H)} {d : DataW H}, d ∈ l → ∀ n ∈ d.weights P e, n ∈ DataW.weightsAll P e l
 | [], _, h => by cases h
 | a :: r, d, h => fun n hn => by
  rw [DataW.weightsAll, List.mem_append]
  rcases List.mem_cons.1 h with rfl | h
  ·exact Or.inl hn
  ·exact Or.inr (weightsAll_mem h n hn)
theorem slice_fits {P : Program} {t e : TypeId} {elems sp : List (DataW H)} (ht : P.underlying t = some (.slice e)) (hw : ∀ n ∈ (DataW.slice elems sp).weights P t, n ≤ reachBytes) : elems.length * P.bytesOf e ≤ reachBytes ∧ ∀ d ∈ elems, ∀ n ∈ d.weights P e, n ≤ reachBytes := by
 have e1 : (DataW.slice elems sp).weights P t = (elems.length + sp.length) * P.bytesOf e :: (DataW.weightsAll P e elems ++ DataW.weightsAll P e sp) := by
  simp [DataW.weights, ht]
 rw [e1] at hw
 refine ⟨Nat.le_trans (Nat.mul_le_mul_right _ (Nat.le_add_right _ _)) (hw _ (.head _)), fun d hd n hn => hw n (.tail _ (List.mem_append.2 (Or.inl (weightsAll_mem hd n hn))))⟩
theorem cell_spot_none {a : Addr} {v : Value} (h : w.cell? (a.add 0) = some v) : ∃ b off, a = ⟨b, off, none⟩ := by
 obtain ⟨b, off, spot⟩ := a
 have hspot : spot = none := by simpa [Addr.add] using World.cell?_spot h
 subst hspot
 exact ⟨b, off, rfl⟩
instance : Inhabited OpD := ⟨⟨0, 0, ⟨#[]⟩, 0, 0⟩⟩
theorem trod_ops {fuel : Nat} {v : Value} {x : DataW H × List MemPlace} (h : DataW.trod enc Tryz.prog w base spare held fuel 66 [v] = some x) (hw : ∀ n ∈ x.1.weights Tryz.prog 66, n ≤ reachBytes) : ∃ (u : Option Addr) (c : Nat) (t : List OpD), v = .slice u t.length c ∧ OpsAt w u t ∧ t.length ≤ 4611686018427387904 ∧ ∀ o ∈ t, U64 o.value ∧ o.key.size ≤ maxLen := by
 have hC : Tryz.prog.cellsOf 68 = 5 := by kernel_rfl
 rcases Deep.open_slice Tryz.underlying66 h with ⟨hcs, _⟩ | ⟨a, len, cap, m, n, D, Pl, hcs, hb, hl, hm, hmm, hxx, hx⟩
 ·simp only [List.cons.injEq, and_true] at hcs
  exact ⟨none, 0, [], hcs, fun h0 => absurd h0 (by simp), by simp, by simp⟩
 ·simp only [List.cons.injEq, and_true] at hcs
  have hlm : len ≤ m := by rw [hmm]; split <;> omega
  rw [hxx] at hw
  obtain ⟨hw1, hw2⟩ := slice_fits Tryz.underlying66 hw
  simp only [List.length_map, List.length_range] at hw1
  have hw3 : len ≤ 4611686018427387904 := by
   have hby : Tryz.prog.bytesOf 68 = 48 := by kernel_rfl
   rw [hby] at hw1
   unfold reachBytes at hw1
   omega
  have h1 : ∀ i, i < len → ∃ o : OpD, (∀ j v, (opCL o)[j]? = some v → w.cell? ((a.add (i * 5)).add j) = some v) ∧ U64 o.value ∧ o.key.size ≤ maxLen := fun i hi => by
   obtain ⟨cs', h1, h2⟩ := hx i (by omega)
   obtain ⟨o, rfl, ho, hk⟩ := trod_op h2
   rw [hC] at h1
   obtain ⟨_, _, h3⟩ := World.cells?_some h1
   refine ⟨o, fun j v hj => ?_, ho, hk⟩
   have hj5 : j < 5 := (List.getElem?_eq_some_iff.1 hj).1
   have := h3 j hj5
   rw [hj] at this
   exact this
  obtain ⟨F, hF⟩ := Deep.choose_lt h1
  refine ⟨some a, cap, (List.range len).map F, by simpa using hcs, ?_, by simpa using hw3, ?_⟩
  ·intro h0
   have hl0 : 0 < len := by simpa using h0
   obtain ⟨b, off, rfl⟩ := cell_spot_none (a := a) (by have := (hF 0 hl0).1 0 _ rfl; simpa [Addr.add] using this)
   have hc : ∀ k, k < len → ∀ j v, (opCL (F k))[j]? = some v → w.cell? ⟨b, off + (k * 5 + j), none⟩ = some v := fun k hk j v hj => by
    have := (hF k hk).1 j v hj
    rwa [Go.WideShapes.add_plain, Go.WideShapes.add_plain, Nat.add_assoc] at this
   refine ⟨b, off, rfl, cell_lt (hc 0 hl0 0 _ rfl), fun k o hk => ?_⟩
   have hkl : k < len := by simpa using (List.getElem?_eq_some_iff.1 hk).1
   have : o = F k := by simpa [hkl] using hk.symm
   subst this
   exact ⟨hc k hkl 0 _ rfl, hc k hkl 1 _ rfl, hc k hkl 2 _ rfl, hc k hkl 3 _ rfl, hc k hkl 4 _ rfl⟩
  ·intro o ho
   obtain ⟨i, hi, rfl⟩ := List.mem_map.1 ho
   exact (hF i (by simpa using hi)).2
theorem trod_thr {fuel : Nat} {v : Value} {x : DataW H × List MemPlace} (h : DataW.trod enc Tryz.prog w base spare held fuel 28 [v] = some x) (hw : ∀ n ∈ x.1.weights Tryz.prog 28, n ≤ reachBytes) : ∃ (u : Option Addr) (c : Nat) (ts : List (List OpD)), v = .slice u ts.length c ∧ ts.length ≤ c ∧ ThrAt w u ts ∧ ts.length ≤ 4611686018427387904 ∧ ∀ t ∈ ts, t.length ≤ 4611686018427387904 ∧ ∀ o ∈ t, U64 o.value ∧ o.key.size ≤ maxLen := by
 have hC : Tryz.prog.cellsOf 66 = 1 := by kernel_rfl
 rcases Deep.open_slice1 Tryz.underlying28 hC h with ⟨hcs, _⟩ | ⟨a, len, cap, m, n, V, D, Pl, hcs, hb, hl, hm, hmm, hxx, hx⟩
 ·simp only [List.cons.injEq, and_true] at hcs
  exact ⟨none, 0, [], hcs, by simp, fun h0 => absurd h0 (by simp), by simp, by simp⟩
 ·simp only [List.cons.injEq, and_true] at hcs
  have hlm : len ≤ m := by rw [hmm]; split <;> omega
  rw [hxx] at hw
  obtain ⟨hw1, hw2⟩ := slice_fits Tryz.underlying28 hw
  simp only [List.length_map, List.length_range] at hw1
  have hw3 : len ≤ 4611686018427387904 := by
   have hby : Tryz.prog.bytesOf 66 = 24 := by kernel_rfl
   rw [hby] at hw1
   unfold reachBytes at hw1
   omega
  have h1 : ∀ i, i < len → ∃ t : List OpD, (∃ u c, w.cell? (a.add i) = some (.slice u t.length c) ∧ OpsAt w u t) ∧ t.length ≤ 4611686018427387904 ∧ ∀ o ∈ t, U64 o.value ∧ o.key.size ≤ maxLen := fun i hi => by
   obtain ⟨h1, h2⟩ := hx i (by omega)
   obtain ⟨u, c, t, hv, h3, h4, h5⟩ := trod_ops h2 (hw2 _ (List.mem_map.2 ⟨i, by simpa using hi, rfl⟩))
   rw [hv] at h1
   exact ⟨t, ⟨u, c, h1, h3⟩, h4, h5⟩
  obtain ⟨F, hF⟩ := Deep.choose_lt h1
  refine ⟨some a, cap, (List.range len).map F, by simpa using hcs, by simpa using hl, ?_, by simpa using hw3, ?_⟩
  ·intro h0
   have hl0 : 0 < len := by simpa using h0
   obtain ⟨u0, c0, hc0, _⟩ := (hF 0 hl0).1
   obtain ⟨b, off, rfl⟩ := cell_spot_none hc0
   have hlt : b < w.heap.size := by
    have := cell_lt hc0
    rwa [Go.WideShapes.add_plain] at this
   refine ⟨b, off, rfl, hlt, fun k t hk => ?_⟩
   have hkl : k < len := by simpa using (List.getElem?_eq_some_iff.1 hk).1
   have : t = F k := by simpa [hkl] using hk.symm
   subst this
   obtain ⟨u, c, hc, hu⟩ := (hF k hkl).1
   rw [Go.WideShapes.add_plain] at hc
   exact ⟨u, c, hc, hu⟩
  ·intro t ht
   obtain ⟨i, hi, rfl⟩ := List.mem_map.1 ht
   exact (hF i (by simpa using hi)).2
theorem trod_struct7F {P : Program} {t : TypeId} {f0 f1 f2 f3 f4 f5 f6 : Field} {fuel : Nat} {cs : List Value} {x : DataW H × List MemPlace} (ht : P.underlying t = some (.struct #[f0, f1, f2, f3, f4, f5, f6])) (h : DataW.trod enc P w base spare held fuel t cs = some x) :
  ∃ y0 y1 y2 y3 y4 y5 y6 n, cs.length = P.cellsOf t ∧ DataW.trod enc P w base spare held n f0.type ((cs.drop f0.offset).take (P.cellsOf f0.type)) = some y0 ∧ DataW.trod enc P w base spare held n f1.type ((cs.drop f1.offset).take (P.cellsOf f1.type)) = some y1 ∧ DataW.trod enc P w base spare held n f2.type ((cs.drop f2.offset).take (P.cellsOf f2.type)) = some y2 ∧ DataW.trod enc P w base spare held n f3.type ((cs.drop f3.offset).take (P.cellsOf f3.type)) = some y3 ∧ DataW.trod enc P w base spare held n f4.type ((cs.drop f4.offset).take (P.cellsOf f4.type)) = some y4 ∧ DataW.trod enc P w base spare held n f5.type ((cs.drop f5.offset).take (P.cellsOf f5.type)) = some y5 ∧ DataW.trod enc P w base spare held n f6.type ((cs.drop f6.offset).take (P.cellsOf f6.type)) = some y6 := by
 obtain ⟨xs, n, _, rfl, hl, hlen, hf⟩ := DataW.trod_struct ht h
 match xs, hlen with
 | [y0, y1, y2, y3, y4, y5, y6], _ => exact ⟨y0, y1, y2, y3, y4, y5, y6, n, hl, by simpa using hf 0 f0 rfl, by simpa using hf 1 f1 rfl, by simpa using hf 2 f2 rfl, by simpa using hf 3 f3 rfl, by simpa using hf 4 f4 rfl, by simpa using hf 5 f5 rfl, by simpa using hf 6 f6 rfl⟩
theorem trod_struct4F {P : Program} {t : TypeId} {f0 f1 f2 f3 : Field} {fuel : Nat} {cs : List Value} {x : DataW H × List MemPlace} (ht : P.underlying t = some (.struct #[f0, f1, f2, f3])) (h : DataW.trod enc P w base spare held fuel t cs = some x) :
  ∃ y0 y1 y2 y3 n, cs.length = P.cellsOf t ∧ DataW.trod enc P w base spare held n f0.type ((cs.drop f0.offset).take (P.cellsOf f0.type)) = some y0 ∧ DataW.trod enc P w base spare held n f1.type ((cs.drop f1.offset).take (P.cellsOf f1.type)) = some y1 ∧ DataW.trod enc P w base spare held n f2.type ((cs.drop f2.offset).take (P.cellsOf f2.type)) = some y2 ∧ DataW.trod enc P w base spare held n f3.type ((cs.drop f3.offset).take (P.cellsOf f3.type)) = some y3 := by
 obtain ⟨xs, n, _, rfl, hl, hlen, hf⟩ := DataW.trod_struct ht h
 match xs, hlen with
 | [y0, y1, y2, y3], _ => exact ⟨y0, y1, y2, y3, n, hl, by simpa using hf 0 f0 rfl, by simpa using hf 1 f1 rfl, by simpa using hf 2 f2 rfl, by simpa using hf 3 f3 rfl⟩
theorem trod_resF {fuel : Nat} {cs : List Value} {x : DataW H × List MemPlace} (h : DataW.trod enc Tryz.prog w base spare held fuel 56 cs = some x) : ∃ r : ResF, cs = r.cells ∧ r.Fit := by
 obtain ⟨y0, y1, y2, y3, y4, y5, y6, n, hl, h0, h1, h2, h3, h4, h5, h6⟩ := trod_struct7F Tryz.underlying56 h
 rw [resT_cells] at hl
 match cs, hl with
 | [c0, c1, c2, c3, c4, c5, c6, c7], _ =>
   simp only [trie_cells, err_cells, ref_cells, cell_cells, bool_cells, int_cells, str_cells, u64_cells, List.drop_zero, List.drop_succ_cons, List.take_succ_cons, List.take_zero, List.getElem?_cons_zero, List.getElem?_cons_succ] at h0 h1 h2 h3 h4 h5 h6
   obtain ⟨a0, e0, _, w0⟩ := DataW.trod_int Tryz.underlying24 h0
   obtain ⟨a1, e1, _⟩ := DataW.trod_bool Tryz.underlying4 h1
   obtain ⟨a2, e2, _, w2⟩ := DataW.trod_int Tryz.underlying27 h2
   obtain ⟨a3, e3, _, w3⟩ := DataW.trod_string Tryz.underlying9 h3
   obtain ⟨a4, e4, _, w4⟩ := DataW.trod_int Tryz.underlying3 h4
   obtain ⟨a5, e5, _, w5⟩ := DataW.trod_int Tryz.underlying51 h5
   obtain ⟨z0, z1, m, _, _, g0, g1⟩ := trod_struct2 Tryz.underlying54 h6
   simp only [cell_cells, bool_cells, List.drop_zero, List.drop_succ_cons, List.take_succ_cons, List.take_zero] at g0 g1
   obtain ⟨a6, e6, _, w6⟩ := DataW.trod_int Tryz.underlying52 g0
   obtain ⟨a7, e7, _⟩ := DataW.trod_bool Tryz.underlying4 g1
   simp only [List.cons.injEq, and_true] at e0 e1 e2 e3 e4 e5 e6 e7
   subst e0 e1 e2 e3 e4 e5 e6 e7
   exact ⟨⟨a0, a1, a2, a3, a4, a5, a6, a7⟩, rfl, ⟨bounds_i64 w0, bounds_u64 w2, w3, bounds_i64 w4, bounds_i64 w5, bounds_i64 w6⟩⟩
theorem evT_cells : Tryz.prog.cellsOf 72 = 11 := by kernel_rfl
theorem trod_ev {fuel : Nat} {cs : List Value} {x : DataW H × List MemPlace} (h : DataW.trod enc Tryz.prog w base spare held fuel 72 cs = some x) : ∃ e : EvD, cs = e.cells ∧ I64 e.thread ∧ I64 e.index ∧ e.res.Fit := by
 obtain ⟨y0, y1, y2, y3, n, hl, h0, h1, h2, h3⟩ := trod_struct4F Tryz.underlying72 h
 rw [evT_cells] at hl
 match cs, hl with
 | [c0, c1, c2, c3, c4, c5, c6, c7, c8, c9, c10], _ =>
   simp only [resT_cells, bool_cells, int_cells, List.drop_zero, List.drop_succ_cons, List.take_succ_cons, List.take_zero, List.getElem?_cons_zero, List.getElem?_cons_succ] at h0 h1 h2 h3
   obtain ⟨a0, e0, _, w0⟩ := DataW.trod_int Tryz.underlying3 h0
   obtain ⟨a1, e1, _, w1⟩ := DataW.trod_int Tryz.underlying3 h1
   obtain ⟨a2, e2, _⟩ := DataW.trod_bool Tryz.underlying4 h2
   obtain ⟨r, e3, fr⟩ := trod_resF h3
   simp only [List.cons.injEq, and_true] at e0 e1 e2
   subst e0 e1 e2
   refine ⟨⟨a0, a1, a2, r⟩, ?_, bounds_i64 w0, bounds_i64 w1, fr⟩
   unfold EvD.cells
   rw [← e3]
instance : Inhabited EvD := ⟨⟨0, 0, false, ResF.zero⟩⟩
theorem trod_evs {fuel : Nat} {v : Value} {x : DataW H × List MemPlace} (h : DataW.trod enc Tryz.prog w base spare held fuel 35 [v] = some x) : ∃ (u : Option Addr) (c : Nat) (l : List EvD), v = .slice u l.length c ∧ l.length ≤ c ∧ EvsAt w u l ∧ ∀ e ∈ l, I64 e.thread ∧ I64 e.index ∧ e.res.Fit := by
 rcases Deep.open_slice Tryz.underlying35 h with ⟨hcs, _⟩ | ⟨a, len, cap, m, n, D, Pl, hcs, hb, hl, hm, hmm, hxx, hx⟩
 ·simp only [List.cons.injEq, and_true] at hcs
  exact ⟨none, 0, [], hcs, by simp, fun h0 => absurd h0 (by simp), by simp⟩
 ·simp only [List.cons.injEq, and_true] at hcs
  have hlm : len ≤ m := by rw [hmm]; split <;> omega
  have h1 : ∀ i, i < len → ∃ e : EvD, (∀ j v, e.cells[j]? = some v → w.cell? ((a.add (i * 11)).add j) = some v) ∧ I64 e.thread ∧ I64 e.index ∧ e.res.Fit := fun i hi => by
   obtain ⟨cs', h1, h2⟩ := hx i (by omega)
   obtain ⟨e, rfl, he⟩ := trod_ev h2
   rw [evT_cells] at h1
   obtain ⟨_, _, h3⟩ := World.cells?_some h1
   refine ⟨e, fun j v hj => ?_, he⟩
   have hj5 : j < 11 := (List.getElem?_eq_some_iff.1 hj).1
   have := h3 j hj5
   rw [hj] at this
   exact this
  obtain ⟨F, hF⟩ := Deep.choose_lt h1
  refine ⟨some a, cap, (List.range len).map F, by simpa using hcs, by simpa using hl, ?_, ?_⟩
  ·intro h0
   have hl0 : 0 < len := by simpa using h0
   obtain ⟨b, off, rfl⟩ := cell_spot_none (a := a) (by have := (hF 0 hl0).1 0 _ rfl; simpa [Addr.add] using this)
   have hc : ∀ k, k < len → ∀ j v, (F k).cells[j]? = some v → w.cell? ⟨b, off + k * 11 + j, none⟩ = some v := fun k hk j v hj => by
    have := (hF k hk).1 j v hj
    rwa [Go.WideShapes.add_plain, Go.WideShapes.add_plain] at this
   refine ⟨b, off, rfl, cell_lt (hc 0 hl0 0 _ rfl), fun k o hk => ?_⟩
   have hkl : k < len := by simpa using (List.getElem?_eq_some_iff.1 hk).1
   have : o = F k := by simpa [hkl] using hk.symm
   subst this
   exact hc k hkl
  ·intro o ho
   obtain ⟨i, hi, rfl⟩ := List.mem_map.1 ho
   exact (hF i (by simpa using hi)).2
theorem opT_cells : Tryz.prog.cellsOf 44 = 2 := by kernel_rfl
theorem trod_pair {fuel : Nat} {cs : List Value} {x : DataW H × List MemPlace} (h : DataW.trod enc Tryz.prog w base spare held fuel 44 cs = some x) : ∃ a : OpP, cs = opC2 a ∧ OpFit a := by
 obtain ⟨xs, n, _, rfl, hl, hlen, hf⟩ := DataW.trod_array Tryz.underlying44 h
 rw [opT_cells] at hl
 match cs, hl with
 | [c0, c1], _ =>
  match xs, hlen with
  | [y0, y1], _ =>
   have h0 := hf 0 (by omega)
   have h1 := hf 1 (by omega)
   simp only [int_cells, Nat.zero_mul, Nat.one_mul, List.drop_zero, List.drop_succ_cons, List.take_succ_cons, List.take_zero, List.getElem?_cons_zero, List.getElem?_cons_succ] at h0 h1
   obtain ⟨a0, e0, _, w0⟩ := DataW.trod_int Tryz.underlying3 h0
   obtain ⟨a1, e1, _, w1⟩ := DataW.trod_int Tryz.underlying3 h1
   simp only [List.cons.injEq, and_true] at e0 e1
   subst e0 e1
   exact ⟨(a0, a1), rfl, ⟨bounds_i64 w0, bounds_i64 w1⟩⟩
end
theorem open_thrH {H : Type} {enc : TypeId × Value → H} {w : World} {r : Reach} {b0 : Nat} {v : Value} {d : DataW H} {ps : List MemPlace} (hval : Value.okWide Tryz.prog w r b0 28 v) (h : DataW.Trod enc Tryz.prog w 0 (fun _ => true) true 28 v d ps) (hw : ∀ n ∈ d.weights Tryz.prog 28, n ≤ reachBytes) :
  ∃ (A : Option Addr) (c : Nat) (ts : List (List OpD)), v = .slice A ts.length c ∧ ts.length ≤ c ∧ ThrAt w A ts ∧ ThrFit ts := by
 obtain ⟨A, n, c, rfl⟩ := Go.WideShapes.okWide_slice Tryz.underlying28 hval
 obtain ⟨fuel, hf⟩ := h
 obtain ⟨u, c, ts, hv, h0, h1, h2, h3⟩ := trod_thr (v := .slice A n c) hf hw
 exact ⟨u, c, ts, hv, h0, h1, ⟨h2, fun t ht => (h3 t ht).1⟩⟩
theorem open_evsH {H : Type} {enc : TypeId × Value → H} {w : World} {r : Reach} {b0 : Nat} {v : Value} {d : DataW H} {ps : List MemPlace} (hval : Value.okWide Tryz.prog w r b0 35 v) (h : DataW.Trod enc Tryz.prog w 0 (fun _ => true) true 35 v d ps) :
  ∃ (A : Option Addr) (c : Nat) (l : List EvD), v = .slice A l.length c ∧ l.length ≤ c ∧ EvsAt w A l ∧ ∀ e ∈ l, I64 e.thread ∧ I64 e.index ∧ e.res.Fit := by
 obtain ⟨A, n, c, rfl⟩ := Go.WideShapes.okWide_slice Tryz.underlying35 hval
 obtain ⟨fuel, hf⟩ := h
 obtain ⟨u, c, l, hv, h0, h1, h2⟩ := trod_evs (v := .slice A n c) hf
 exact ⟨u, c, l, hv, h0, h1, h2⟩
theorem open_pairH {H : Type} {enc : TypeId × Value → H} {w : World} {r : Reach} {b0 : Nat} {v : Value} {d : DataW H} {ps : List MemPlace} (hval : Value.okWide Tryz.prog w r b0 44 v) (h : DataW.Trod enc Tryz.prog w 0 (fun _ => true) true 44 v d ps) :
  ∃ a : OpP, v = .agg #[.int .i64 a.1, .int .i64 a.2] ∧ OpFit a := by
 simp only [Value.okWide, Tryz.underlying44] at hval
 obtain ⟨cs, rfl, hs, _⟩ := hval
 obtain ⟨fuel, hf⟩ := h
 obtain ⟨a, ha, hfit⟩ := trod_pair hf
 refine ⟨a, ?_, hfit⟩
 have e : cs.toList = opC2 a := by simpa [Value.cells] using ha
 congr 1
 apply Array.ext'
 rw [e]
 rfl
set_option maxRecDepth 100000 in
theorem lift_plain {H : Type} {enc : TypeId × Value → H} {os : Os} {f : FuncId} {fn : Func} {s : ChangeSpec} (started : os.Started) (noInit : Tryz.checked.prog.inits.idxOf? f = none) (hfn : Tryz.checked.prog.funcs[f]? = some fn) (own : ownKnob Tryz.checked.prog.godebug = none)
  (wit : ∃ (w : World) (tape : Tape) (i : Input), w.os = os ∧ (w.forCall tape i).Shaped Tryz.checked.prog ∧ i.vars = [] ∧ Input.okWide Tryz.checked.prog (w.forCall tape i) .any w.heap.size f i ∧
   s.pre6 enc Tryz.checked.prog fn [] false (w.forCall tape i).memory i.args ∧ ({} : Assume).holds Tryz.checked.prog (lone (Frame.enter Tryz.checked.prog f i.args .normal) [] (w.forCall tape i)))
  (law : ∀ (W : World) (base : Nat) (args : Array Value) (ds gs : List (DataW H)) (before : List MemPlace),
   (∀ (j : Nat) t v, fn.params[j]? = some t → args[j]? = some v → Value.okWide Tryz.checked.prog W .any base t v) →
   DataW.Whole enc Tryz.checked.prog fn.params.toList s.vars false W args.toList ds gs before → (DataW.weightsEach Tryz.checked.prog (fn.params.toList ++ s.plain.varTypes Tryz.checked.prog) (ds ++ gs)).all (· ≤ reachBytes) = true →
   Calls Tryz.checked.prog f args W fun e W' => ∃ v, e = .returned v ∧ s.post enc Tryz.checked.prog fn false true false false W args v W') :
  ReturnsInHanded {} Tryz.checked os f .any (s.pre6 enc Tryz.checked.prog fn [] false) (s.post enc Tryz.checked.prog fn false true false false) := by
 refine returnsInHanded_of_calls own started noInit wit ?_
 intro w tape i _ _ _ fits pre _
 obtain ⟨_, _, _, g, hg, _, _, _, _, vals⟩ := fits
 obtain rfl : g = fn := Option.some.inj (hg.symm.trans hfn)
 obtain ⟨⟨ds, gs, before, whole, _⟩, sized⟩ := pre
 refine (law (w.forCall tape i) w.heap.size i.args ds gs before vals (DataW.Whole.of_heap (w' := w.forCall tape i) (by rfl) whole) (sized.weights whole)).mono ?_
 rintro e W' ⟨v, rfl, post⟩
 exact ChangeSpec.post_blind post
end Go.Proofs.YtpabdmcbahmjnaaGreat
