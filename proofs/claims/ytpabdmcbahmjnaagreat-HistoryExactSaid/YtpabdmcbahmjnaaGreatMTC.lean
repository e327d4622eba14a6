/- Part of a proof: T9 T10 T11 T12 T13 T14. -/
import Derived.Test.YtpabdmcbahmjnaaGreatMTB
namespace Go.Proofs.YtpabdmcbahmjnaaGreat
namespace Tv
open Go Go.RowKit
set_option linter.unusedSimpArgs false
set_option linter.unusedVariables false
section
variable {P : Program} {t : Tab} {N : Nat} {tc : Nat → Bool} {σ₀ : Sg} {β₀ : Bt} {w₀ : World} {K : St → Prop} {a : Act} {w : World} {σ : Sg} {β : Bt}
variable {S : St} {o : Oper} {E : Env}
theorem arr1 {α : Type} {A : Array α} {x : α} (h : A.toList = [x]) : A = #[x] := by
 apply Array.ext'
 simpa using h
theorem arr2 {α : Type} {A : Array α} {x y : α} (h : A.toList = [x, y]) : A = #[x, y] := by
 apply Array.ext'
 simpa using h
theorem len_inR {n : Nat} (h : n ≤ strMax) : InR .i64 n := by
 unfold strMax at h
 constructor
 ·rw [i64_min]; omega
 ·rw [i64_max]; omega
theorem lenStr_ok (hT : TabOk P t) {T : TypeId} {r : Row} (h : t.row T = some r) (h1 : r.lay = [.str]) (h2 : r.agg = false) : P.underlying T = some .string := by
 obtain ⟨ct, d, g1, g2, _, _, g3⟩ := hT.plain h h2
 rw [h1] at g1
 injection g1 with g1
 rw [g2, g3 g1.symm]
theorem len_ok (hT : TabOk P E.t) {c : Call} (ho : o.op = .call c) (hc : c.callee = .builtin .len) (g : Gam E.t N tc σ₀ β₀ w₀ S a w) (hdN : ∀ d', o.dst = some d' → d' < N) (h : (opR E o S).wp tc S o.dst K) :
  ∃ u, Yld P a o u ∧ Cov E.t N tc σ₀ β₀ w₀ K (a.put o.dst u) w := by
 have g' := g
 obtain ⟨σ, β, hI, hF, hn, hd, he⟩ := g'
 unfold opR at h
 simp only [ho, hc] at h
 split at h
 case h_2 => exact h.elim
 rename_i x T e1 e2
 have hx := look_ok he x
 have hyld : ∀ u, (∀ w', (Builtin.len_ #[T] o.type #[a.eval x]).run P w' = .ok u w') → Yld P a o u := by
  intro u hu w'
  simp only [execOp, ho, resolve, hc, Sem.run_bind, Sem.run_pure, Result.andThen_ok, invoke, builtin, arr1 e1, arr1 e2, List.map_toArray, List.map_cons, List.map_nil]
  rw [hu w']
  rfl
 unfold lenR at h
 split at h
 ·rename_i e e3
  obtain ⟨hu, _⟩ := hT.sl T e e3
  split at h
  ·rename_i F n e4
   rw [e4] at hx
   obtain ⟨A, cc, hv, hs⟩ := hx
   have hn := hs.2.1
   refine ⟨goInt n, hyld _ fun w' => ?_, g.put (v := ci .i64 n) hdN (fun σ β hI he => ⟨rfl, len_inR (by unfold lenMax at hn; unfold strMax; omega)⟩) h⟩
   simp [Builtin.len_, run_underlying hu, hv]
  ·rename_i e4
   rw [e4] at hx
   have hv : a.eval x = .slice none 0 0 := hx
   refine ⟨goInt 0, hyld _ fun w' => ?_, g.put (v := ci .i64 0) hdN (fun σ β hI he => ⟨rfl, len_inR (n := 0) (by decide)⟩) h⟩
   simp [Builtin.len_, run_underlying hu, hv]
  ·exact h.elim
 ·split at h
  case h_2 => exact h.elim
  rename_i r e4
  split at h
  case h_2 => exact h.elim
  rename_i f1 f2 f3
  rw [f3] at hx
  obtain ⟨s, hv, hs⟩ := hx
  refine ⟨goInt s.size, hyld _ fun w' => ?_, g.int (q := fun n => 0 ≤ n) hdN (len_inR hs) (by omega) h⟩
  simp [Builtin.len_, run_underlying (lenStr_ok hT e4 f1 f2), hv]
theorem argsOf_two {l : List Operand} {x y : AV} (h : argsOf S l = [x, y]) : ∃ p q, l = [p, q] ∧ look S p = x ∧ look S q = y := by
 match l, h with
 | [p, q], h =>
  simp only [argsOf, List.cons.injEq] at h
  exact ⟨p, q, rfl, h.1, h.2.1⟩
theorem max_ok {c : Call} (ho : o.op = .call c) (hc : c.callee = .builtin .max) (g : Gam E.t N tc σ₀ β₀ w₀ S a w) (hdN : ∀ d', o.dst = some d' → d' < N) (h : (opR E o S).wp tc S o.dst K) :
  ∃ u, Yld P a o u ∧ Cov E.t N tc σ₀ β₀ w₀ K (a.put o.dst u) w := by
 have g' := g
 obtain ⟨σ, β, hI, hF, hn, hd, he⟩ := g'
 unfold opR at h
 simp only [ho, hc] at h
 split at h
 case h_2 => exact h.elim
 rename_i k m k' n e1
 split at h
 case h_2 => exact h.elim
 rename_i hk
 have hk := ikEq_eq hk
 subst hk
 obtain ⟨p, q, e2, e3, e4⟩ := argsOf_two e1
 obtain ⟨v1, r1⟩ := int_inv (look_ok he p) e3
 obtain ⟨v2, r2⟩ := int_inv (look_ok he q) e4
 refine ⟨.int k (if n > m then n else m), fun w' => ?_, g.int (q := fun r => m ≤ r ∧ n ≤ r ∧ (r = m ∨ r = n)) hdN ?_ ?_ h⟩
 ·simp [execOp, ho, resolve, hc, invoke, builtin, arr2 e2, Builtin.max_, v1, v2, Builtin.max2]
 ·split <;> assumption
 ·split <;> omega
theorem fill_put (off : Nat) : ∀ (us : List Value) (k : Nat) (cs : Array Value), off + k + us.length ≤ cs.size →
  ((us.zipIdx k).foldl (fun (cs : Array Value) (x : Value × Nat) => cs.setIfInBounds (off + x.2) x.1) cs).toList = putVals cs.toList (off + k) us
 | [], k, cs, h => by simp [putVals]
 | u :: us, k, cs, h => by
  simp only [List.length_cons] at h
  rw [List.zipIdx_cons, List.foldl_cons, fill_put off us (k + 1) _ (by simp; omega)]
  apply List.ext_getElem?
  intro i
  rw [putVals_get _ _ _ (by simp; omega), putVals_get _ _ _ (by simp; omega)]
  simp only [Array.toList_setIfInBounds, List.length_set, List.length_cons, Array.length_toList]
  by_cases h1 : i = off + k
  ·subst h1
   rw [if_neg (by omega), if_pos ⟨Nat.le_refl _, by omega, by omega⟩, Nat.sub_self, List.getElem?_set_self (by simp; omega)]
   rfl
  ·by_cases h2 : off + (k + 1) ≤ i ∧ i < off + (k + 1) + us.length ∧ i < cs.size
   ·rw [if_pos h2, if_pos ⟨by omega, by omega, h2.2.2⟩, show i - (off + k) = (i - (off + (k + 1))) + 1 by omega]
    rfl
   ·rw [if_neg h2, if_neg (by omega), List.getElem?_set_ne (by omega)]
theorem putVals_length (vs : List Value) (off : Nat) (us : List Value) (h : off + us.length ≤ vs.length) : (putVals vs off us).length = vs.length := by
 unfold putVals
 simp
 omega
theorem fillK_ok {place : Nat → Option (Nat × List CT)} {place' : Nat → Option (Nat × Nat)} (hp : ∀ i off ts, place i = some (off, ts) → place' i = some (off, ts.length) ∧ 0 < ts.length) {d : Option Nat} :
  ∀ {ps : List (Nat × Operand)} {cs : List CV} {k : List CV → OR}, (fillK S place cs ps k).wp tc S d K → ∃ cs', (k cs').wp tc S d K ∧
   ∀ (σ : Sg) (β : Bt) (a : Act), (∀ i, (S.env i).ok t σ β (a.tmps.getD i Go.undef)) → ∀ vs : Array Value, Cells t σ β cs vs.toList → (∀ v ∈ vs.toList, v.oneCell' = true) →
    ∃ vs' : Array Value, Instr.fill place' vs (ps.map fun p => (p.1, a.eval p.2)) = some vs' ∧ Cells t σ β cs' vs'.toList ∧ (∀ v ∈ vs'.toList, v.oneCell' = true) ∧ vs'.size = vs.size
 | [], cs, k, h => ⟨cs, h, fun σ β a he vs hc h1 => ⟨vs, rfl, hc, h1, rfl⟩⟩
 | (i, x) :: rest, cs, k, h => by
  unfold fillK at h
  split at h
  case h_2 => exact h.elim
  rename_i off ts e1
  split at h
  case h_2 => exact h.elim
  rename_i ys e2
  split at h
  case h_2 => exact h.elim
  rename_i e3
  have e3 := lenEq_eq e3
  obtain ⟨h1, h0⟩ := hp i off ts e1
  obtain ⟨cs1, h2, h3⟩ := putK_ok h
  obtain ⟨cs', h4, h5⟩ := fillK_ok hp h2
  refine ⟨cs', h4, fun σ β a he vs hc ho => ?_⟩
  obtain ⟨g1, g2⟩ := cellsOf_ok (look_ok he x) e2
  have g3 := g1.length
  obtain ⟨g4, g5⟩ := h3 t σ β _ _ hc g1 (fun e => by rw [e] at g3; simp only [List.length_nil] at g3; omega)
  have g6 : (a.eval x).cells.size = ts.length := by rw [← e3, g3]; simp
  have g7 : off + (a.eval x).cells.size ≤ vs.size := by simpa using g4
  have g8 := fill_put off (a.eval x).cells.toList 0 vs (by simpa using g7)
  simp only [Nat.add_zero] at g8
  obtain ⟨vs', k1, k2, k3, k4⟩ := h5 σ β a he (((a.eval x).cells.toList.zipIdx 0).foldl (fun (cs : Array Value) (x : Value × Nat) => cs.setIfInBounds (off + x.2) x.1) vs) (by rw [g8]; exact g5) (by
   rw [g8]
   intro v hv
   unfold putVals at hv
   rcases List.mem_append.1 hv with h3 | h3
   ·rcases List.mem_append.1 h3 with h4 | h4
    ·exact ho v (List.mem_of_mem_take h4)
    ·exact g2 v h4
   ·exact ho v (List.mem_of_mem_drop h3))
  refine ⟨vs', ?_, k2, k3, ?_⟩
  ·simp only [List.map_cons, Instr.fill, h1]
   rw [if_neg (by simp; omega)]
   rw [← k1]
   congr 1
   rw [← Array.foldl_toList, Array.toList_zipIdx]
  ·rw [k4, ← Array.length_toList, g8, putVals_length _ _ _ g4]
   simp
theorem zeroOf (hT : TabOk P t) {T : TypeId} {r : Row} (h : t.row T = some r) : ∃ i z, P.info? T = some i ∧ i.size = r.lay.length ∧ i.zero = some z ∧ z.cells.toList = r.lay.map zeroVal := by
 obtain ⟨i, z, h1, h2, h3, h4, _⟩ := (hT.row T r h).info
 exact ⟨i, z, h1, h2, h3, h4⟩
theorem zeros_one {l : List CT} : ∀ v ∈ l.map zeroVal, v.oneCell' = true := by
 intro v hv
 obtain ⟨ct, _, rfl⟩ := List.mem_map.1 hv
 exact zero_one ct
theorem places_ok (hT : TabOk P t) : ∀ (fs : List Field) (l : List (Nat × TypeId)), fs.map (fun f => (f.offset, f.type)) = l → (∀ o ft, (o, ft) ∈ l → ∃ rf, t.row ft = some rf) →
  fs.mapM (fun f => (P.info? f.type).map fun i => (f.offset, i.size)) = some (l.map fun x => (x.1, (t.lay x.2).length))
 | [], l, h, _ => by
  subst h
  rfl
 | f :: fs, l, h, hr => by
  subst h
  obtain ⟨rf, h1⟩ := hr f.offset f.type (by simp)
  obtain ⟨i, z, h2, h3, _⟩ := zeroOf hT h1
  have := places_ok hT fs _ rfl (fun o ft hm => hr o ft (by simp at hm ⊢; exact .inr hm))
  have hl : t.lay f.type = rf.lay := TabOk.lay (P := P) h1
  simp only [List.mapM_cons, h2, Option.map_some, Option.bind_eq_bind, Option.bind_some, this, Option.pure_def, List.map_cons, hl, h3]
theorem build_ok (hT : TabOk P E.t) {T : TypeId} {ps : Array (Nat × Operand)} (ho : o.op = .build T ps) (g : Gam E.t N tc σ₀ β₀ w₀ S a w) (hdN : ∀ d', o.dst = some d' → d' < N) (h : (opR E o S).wp tc S o.dst K) :
  ∃ u, Yld P a o u ∧ Cov E.t N tc σ₀ β₀ w₀ K (a.put o.dst u) w := by
 have g' := g
 obtain ⟨σ, β, hI, hF, hn, hd, he⟩ := g'
 unfold opR at h
 simp only [ho] at h
 split at h
 case h_2 => exact h.elim
 rename_i r e1
 split at h
 case h_2 => exact h.elim
 rename_i ha
 have hrow := hT.row T r e1
 obtain ⟨i, z, h1, h2, h3, h4⟩ := zeroOf hT e1
 have hf : ∀ o ft, (o, ft) ∈ r.fields → ∃ rf, E.t.row ft = some rf := fun o ft hm => by obtain ⟨rf, h, _⟩ := hrow.field o ft hm; exact ⟨rf, h⟩
 obtain ⟨cs', h5, h6⟩ := fillK_ok (t := E.t) (place' := fun i => (r.fields.map fun x => (x.1, (E.t.lay x.2).length))[i]?) (by
  intro i off ts hi
  split at hi
  ·rename_i f hf'
   injection hi with hi
   injection hi with q1 q2
   subst q1; subst q2
   rw [nth_eq] at hf'
   obtain ⟨rf, hr⟩ := hf f.1 f.2 (List.mem_of_getElem? hf')
   exact ⟨by simp [hf'], by rw [TabOk.lay (P := P) hr]; exact hT.pos hr⟩
  ·cases hi) h
 have hz : ∀ σ β, Cells E.t σ β (zeroL r.lay) z.cells.toList := fun σ β => by rw [h4]; exact zeros_ok r.lay
 have hz1 : ∀ v ∈ z.cells.toList, v.oneCell' = true := by rw [h4]; exact zeros_one
 obtain ⟨vs, k1, _⟩ := h6 σ β a he z.cells (hz σ β) hz1
 obtain ⟨fs, u1, u2⟩ := hrow.agg ha
 have hb : P.built T (ps.map fun (i, x) => (i, a.eval x)).toList = some vs := by
  simp only [Program.built, h1, u1, h3, places_ok hT fs.toList r.fields u2 hf]
  have : (ps.map fun (i, x) => (i, a.eval x)).toList = ps.toList.map fun p => (p.1, a.eval p.2) := by simp
  rw [this, ← k1]
  congr 1
  funext i
  simp
 refine ⟨.agg vs, fun w' => ?_, g.put (v := .one (.agg cs')) hdN (fun σ β hI he => ?_) h5⟩
 ·simp only [execOp, ho]
  rw [Sem.run_bind, run_build w' T _ vs hb]
  rfl
 ·obtain ⟨vs', q1, q2, _⟩ := h6 σ β a he z.cells (hz σ β) hz1
  rw [k1] at q1
  injection q1 with q1
  subst q1
  exact ⟨vs, rfl, q2⟩
end
def Nxt (t : Tab) (N : Nat) (tc : Nat → Bool) (σ : Sg) (β : Bt) (w : World) (K : St → Prop) (q : Bool) (a' : Act) (w' : World) : Prop :=
 Cov t N tc σ β w K a' w' ∧ (q = true → w'.heap.size = w.heap.size ∧ ∀ b x, σ b = some x → w'.heap[b]? = w.heap[b]?)
def Stp (P : Program) (t : Tab) (N : Nat) (tc : Nat → Bool) (σ : Sg) (β : Bt) (w : World) (K : St → Prop) (q : Bool) (a : Act) (o : Oper) : Prop :=
 (∃ u w', (execOp a.eval o).run P w = .ok (.value u) w' ∧ Nxt t N tc σ β w K q (a.put o.dst u) w') ∨
 (∃ w', (execOp a.eval o).run P w = .ok .skip w' ∧ Nxt t N tc σ β w K q (a.put o.dst Go.undef) w')
section
variable {P : Program} {t : Tab} {N : Nat} {tc : Nat → Bool} {K : St → Prop} {a : Act} {w : World} {σ : Sg} {β : Bt} {q : Bool}
variable {S : St} {o : Oper} {E : Env}
theorem Stp.pure {u : Value} (hy : Yld P a o u) (hc : Cov t N tc σ β w K (a.put o.dst u) w) : Stp P t N tc σ β w K q a o :=
 .inl ⟨u, w, hy w, hc, fun _ => ⟨rfl, fun _ _ _ => rfl⟩⟩
theorem off_lt {q L m r n : Nat} (hq : q < m) (h : r + n ≤ L) : q * L + r + n ≤ m * L := by
 have := Nat.mul_le_mul_right L (show q + 1 ≤ m from hq)
 rw [Nat.add_mul] at this
 omega
theorem off_mod {q L r j : Nat} (h : r + j < L) : (q * L + r + j) % L = r + j := by
 rw [Nat.add_assoc, Nat.mul_comm, Nat.mul_add_mod]
 exact Nat.mod_eq_of_lt h
theorem cell_at {b : Nat} {vs : Array Value} {T : TypeId} {fr : Nat × Nat} (h : w.heap[b]? = some (.cells vs T fr)) (i : Nat) : w.cell? ⟨b, i, none⟩ = vs[i]? := by
 simp [World.cell?, h]
theorem frozen_at {b : Nat} {vs : Array Value} {T : TypeId} (h : w.heap[b]? = some (.cells vs T (0, 0))) (i : Nat) : w.frozen? ⟨b, i, none⟩ = false := by
 simp [World.frozen?, h]
theorem loadAgg_run (hT : TabOk P t) {T : TypeId} {r : Row} (hr : t.row T = some r) (ha : r.agg = true) {b off : Nat} {vs : Array Value} {T' : TypeId} {fr : Nat × Nat} (h : w.heap[b]? = some (.cells vs T' fr)) (hl : off + r.lay.length ≤ vs.size) :
  (Instr.loadAt T (.pointer (some ⟨b, off, none⟩))).run P w = .ok (.agg ((vs.toList.drop off).take r.lay.length).toArray) w := by
 obtain ⟨fs, h1, _⟩ := (hT.row T r hr).agg ha
 obtain ⟨i, z, h2, h3, _⟩ := zeroOf hT hr
 refine run_loadAt_mid w b off T _ _ ?_ h1 rfl ?_
 ·intro j v hv
  rw [cell_at h]
  rw [List.getElem?_take] at hv
  split at hv
  ·rw [List.getElem?_drop] at hv
   simpa using hv
  ·cases hv
 ·rw [h2, Option.map_some, h3]
  congr 1
  simp
  omega
theorem loadOne_run (hT : TabOk P t) {T : TypeId} {r : Row} (hr : t.row T = some r) (ha : r.agg = false) {b off : Nat} {vs : Array Value} {T' : TypeId} {fr : Nat × Nat} (h : w.heap[b]? = some (.cells vs T' fr)) {v : Value} (hv : vs[off]? = some v) :
  (Instr.loadAt T (.pointer (some ⟨b, off, none⟩))).run P w = .ok v w := by
 simp [Instr.loadAt, Instr.sureAddr, loadVar, isAgg_run hT hr, ha, cell_at h, hv]
theorem store_run (hT : TabOk P t) {T : TypeId} {r : Row} (hr : t.row T = some r) {b off : Nat} {vs : Array Value} {T' : TypeId} (h : w.heap[b]? = some (.cells vs T' (0, 0))) {v : Value} (hs : v.cells.size = r.lay.length) (h1 : ∀ u ∈ v.cells.toList, u.oneCell' = true) (hl : off + r.lay.length ≤ vs.size) :
  (Instr.storeAt T (.pointer (some ⟨b, off, none⟩)) v).run P w = .ok () (w.setCells b off v.cells.toList) := by
 have := run_storeCells_cells (P := P) b off v.cells.toList 0 w
  (fun j hj => by
   simp only [Array.length_toList] at hj
   rw [cell_at h, Array.getElem?_eq_getElem (by omega)]
   rfl)
  (fun j hj => frozen_at h _) h1
 simp only [Nat.add_zero] at this
 simp [Instr.storeAt, Instr.sureAddr, storeVar, hT.size hr, hs, this]
theorem box_len {cs : List CV} {vs : Array Value} (h : Cells t σ β cs vs.toList) : cs.length = vs.size := by
 rw [h.length]; simp
theorem loc_inv {x : AV} {v : Value} {id off : Nat} (h : x.ok t σ β v) (e : x = .one (.c (.loc id off))) : ∃ b, β id = some b ∧ v = .pointer (some ⟨b, off, none⟩) := by subst e; exact h
theorem el_inv {x : AV} {v : Value} {U : TypeId} (h : x.ok t σ β v) (e : x = .one (.c (.el U))) :
  ∃ b off, v = .pointer (some ⟨b, off, none⟩) ∧ ∃ Ls m q r, σ b = some (Ls, m) ∧ off = q * Ls.length + r ∧ q < m ∧ r + (t.lay U).length ≤ Ls.length ∧ ∀ j, j < (t.lay U).length → Ls[r + j]? = (t.lay U)[j]? := by
 subst e
 obtain ⟨p, hv, hs, Ls, m, q, r, h⟩ := h
 obtain ⟨b, off, sp⟩ := p
 simp only at hs
 subst hs
 exact ⟨b, off, hv, Ls, m, q, r, h⟩
theorem loadB_ok (hT : TabOk P E.t) {T : TypeId} {x : Operand} (ho : o.op = .load T x) (hI : Inv E.t σ β S.box S.L w) (hn : a.tmps.size = N) (hd : a.defers = [])
  (he : ∀ i, (S.env i).ok E.t σ β (a.tmps.getD i Go.undef)) (hdN : ∀ d', o.dst = some d' → d' < N) (h : (opR E o S).wp tc S o.dst K) :
  ∃ u b, (∀ w' : World, w'.heap[b]? = w.heap[b]? → (execOp a.eval o).run P w' = .ok (.value u) w') ∧ Cov E.t N tc σ β w K (a.put o.dst u) w ∧
   ((∃ id off, look S x = .one (.c (.loc id off)) ∧ β id = some b) ∨ ∃ U y, look S x = .one (.c (.el U)) ∧ σ b = some y) := by
 have hx := look_ok he x
 unfold opR at h
 simp only [ho] at h
 unfold loadR at h
 split at h
 case h_1 => exact h.elim
 rename_i r hr
 have hrun : ∀ u (w : World), (Instr.loadAt T (a.eval x)).run P w = .ok u w → (execOp a.eval o).run P w = .ok (.value u) w := by
  intro u w hu
  simp only [execOp, ho]
  rw [Sem.run_bind, hu]
  rfl
 split at h
 ·rename_i id off e1
  obtain ⟨b, hb, hv⟩ := loc_inv hx e1
  split at h
  case h_2 => exact h.elim
  rename_i cs hc
  obtain ⟨vs, T', h1, h2, h3⟩ := hI.boxAt hb hc
  split at h
  ·rename_i ha
   obtain ⟨h4, h5⟩ := takeK_ok h
   rw [dropL_eq] at h4 h5
   have hl := box_len h2
   rw [List.length_drop] at h4
   have hp := hT.pos hr
   refine ⟨_, b, fun w' hw => hrun _ w' (by rw [hv]; exact loadAgg_run hT hr ha (hw.trans h1) (by omega)), ?_, .inl ⟨id, off, e1, hb⟩⟩
   exact cov_put hI (Fr.refl _ _ _ _) hn hd he hdN (v := .one (.agg ((cs.drop off).take r.lay.length))) ⟨_, rfl, h2.slice off r.lay.length⟩ h5
  ·rename_i ha
   split at h
   case h_2 => exact h.elim
   rename_i y hy
   rw [nth_eq] at hy
   obtain ⟨u, hu, hyu⟩ := h2.get hy
   refine ⟨u, b, fun w' hw => hrun _ w' (by rw [hv]; exact loadOne_run hT hr ha (hw.trans h1) (by simpa using hu)), ?_, .inl ⟨id, off, e1, hb⟩⟩
   exact cov_put hI (Fr.refl _ _ _ _) hn hd he hdN (v := .one (.c y)) hyu h
 ·rename_i U e1
  obtain ⟨b, off, hv, Ls, m, q', r', g1, g2, g3, g4, g5⟩ := el_inv hx e1
  obtain ⟨hp, cs, T', h1, h2, h3⟩ := hI.hp b Ls m g1
  split at h
  case h_2 => exact h.elim
  rename_i e2
  have e2 := ctsEq_eq e2
  rw [e2] at g4 g5
  have hlt := off_lt g3 g4
  have hcell : ∀ j, j < r.lay.length → ∃ u ct, cs[off + j]? = some u ∧ r.lay[j]? = some ct ∧ ct.ok E.t σ S.L u := by
   intro j hj
   have hlt' : off + j < cs.size := by rw [h2, g2]; omega
   have hj' := g5 j hj
   refine ⟨cs[off + j], r.lay[j], Array.getElem?_eq_getElem hlt', List.getElem?_eq_getElem hj, h3 (off + j) _ _ (Array.getElem?_eq_getElem hlt') ?_⟩
   rw [g2, off_mod (by omega), hj', List.getElem?_eq_getElem hj]
  split at h
  ·rename_i ha
   refine ⟨_, b, fun w' hw => hrun _ w' (by rw [hv]; exact loadAgg_run hT hr ha (hw.trans h1) (by rw [h2, g2]; exact hlt)), ?_, .inr ⟨U, _, e1, g1⟩⟩
   refine cov_put hI (Fr.refl _ _ _ _) hn hd he hdN (v := .one (.agg (tyL S.L r.lay))) ⟨_, rfl, ?_⟩ h
   rw [tyL_eq]
   have : ∀ (l : List CT) (vs : List Value), vs.length = l.length → (∀ j, j < l.length → ∃ u ct, vs[j]? = some u ∧ l[j]? = some ct ∧ ct.ok E.t σ S.L u) → Cells E.t σ β (l.map (tyOf S.L)) vs := by
    intro l
    induction l with
    | nil =>
     intro vs hl _
     have : vs = [] := List.length_eq_zero_iff.1 hl
     subst this
     exact .nil
    | cons ct l ih =>
     intro vs hl hh
     match vs, hl with
     | v :: vs, hl =>
      obtain ⟨u, ct', q1, q2, q3⟩ := hh 0 (by simp)
      simp at q1 q2
      subst q1; subst q2
      refine .cons (ty_ok q3) (ih vs (by simpa using hl) fun j hj => ?_)
      obtain ⟨u, ct', q1, q2, q3⟩ := hh (j + 1) (by simpa using hj)
      exact ⟨u, ct', by simpa using q1, by simpa using q2, q3⟩
   refine this _ _ ?_ fun j hj => ?_
   ·simp
    have : off + r.lay.length ≤ cs.size := by rw [h2, g2]; exact hlt
    omega
   ·obtain ⟨u, ct, q1, q2, q3⟩ := hcell j hj
    refine ⟨u, ct, ?_, q2, q3⟩
    rw [List.getElem?_take, if_pos hj, List.getElem?_drop]
    simpa using q1
  ·rename_i ha
   split at h
   case h_2 => exact h.elim
   rename_i ct e3
   obtain ⟨u, ct', q1, q2, q3⟩ := hcell 0 (by rw [e3]; simp)
   rw [e3] at q2
   simp at q2
   subst q2
   refine ⟨u, b, fun w' hw => hrun _ w' (by rw [hv]; exact loadOne_run hT hr ha (hw.trans h1) (by simpa using q1)), ?_, .inr ⟨U, _, e1, g1⟩⟩
   exact cov_put hI (Fr.refl _ _ _ _) hn hd he hdN (v := .one (.c (tyOf S.L ct))) (ty_ok q3) h
 ·exact h.elim
theorem load_ok (hT : TabOk P E.t) {T : TypeId} {x : Operand} (ho : o.op = .load T x) (hI : Inv E.t σ β S.box S.L w) (hn : a.tmps.size = N) (hd : a.defers = [])
  (he : ∀ i, (S.env i).ok E.t σ β (a.tmps.getD i Go.undef)) (hdN : ∀ d', o.dst = some d' → d' < N) (h : (opR E o S).wp tc S o.dst K) : Stp P E.t N tc σ β w K q a o := by
 obtain ⟨u, b, h1, h2, _⟩ := loadB_ok hT ho hI hn hd he hdN h
 exact .inl ⟨u, w, h1 w rfl, h2, fun _ => ⟨rfl, fun _ _ _ => rfl⟩⟩
end
section
variable {P : Program} {t : Tab} {N : Nat} {tc : Nat → Bool} {K : St → Prop} {a : Act} {w : World} {σ : Sg} {β : Bt} {q : Bool}
variable {S : St} {o : Oper} {E : Env}
theorem setCells_fr {id b off : Nat} {us : List Value} (hI : Inv t σ β S.box S.L w) (hb : β id = some b) (htc : tc id = true) : Fr tc σ β w σ β (w.setCells b off us) := by
 obtain ⟨h1, h2, h3⟩ := setCells_rest b us off w
 refine Fr.next hI (Fr.refl _ _ _ _) h1 h2 h3 (by rw [setCells_size]; exact Nat.le_refl _) (Le.refl _) (fun _ _ h => .inl h) (LeB.refl _) (fun _ _ h => .inl h) ?_
 intro b' _ _ h4
 rw [setCells_other]
 intro e
 subst e
 rw [h4 id hb] at htc
 cases htc
theorem setSig_fr {b off : Nat} {us : List Value} {x : List CT × Nat} (hI : Inv t σ β S.box S.L w) (hb : σ b = some x) : Fr tc σ β w σ β (w.setCells b off us) := by
 obtain ⟨h1, h2, h3⟩ := setCells_rest b us off w
 refine Fr.next hI (Fr.refl _ _ _ _) h1 h2 h3 (by rw [setCells_size]; exact Nat.le_refl _) (Le.refl _) (fun _ _ h => .inl h) (LeB.refl _) (fun _ _ h => .inl h) ?_
 intro b' _ h4 _
 rw [setCells_other]
 intro e
 subst e
 rw [h4] at hb
 cases hb
theorem store_ok (hT : TabOk P E.t) {T : TypeId} {x y : Operand} (ho : o.op = .store T x y) (hI : Inv E.t σ β S.box S.L w) (hn : a.tmps.size = N) (hd : a.defers = [])
  (he : ∀ i, (S.env i).ok E.t σ β (a.tmps.getD i Go.undef)) (hdN : ∀ d', o.dst = some d' → d' < N) (h : (opR E o S).wp tc S o.dst K) : Stp P E.t N tc σ β w K (quietO S o.op) a o := by
 have hx := look_ok he x
 have hy := look_ok he y
 unfold opR at h
 simp only [ho] at h
 unfold storeR at h
 split at h
 case h_2 => exact h.elim
 rename_i r ys hr hys
 obtain ⟨hc, h1⟩ := cellsOf_ok hy hys
 split at h
 case h_2 => exact h.elim
 rename_i hle
 have hle := lenEq_eq hle
 have hsz : (a.eval y).cells.size = r.lay.length := by rw [← hle, hc.length]; simp
 have hp := hT.pos hr
 have hrun : ∀ w', (Instr.storeAt T (a.eval x) (a.eval y)).run P w = .ok () w' → (execOp a.eval o).run P w = .ok .skip w' := by
  intro w' hu
  simp only [execOp, ho]
  rw [Sem.run_bind, hu]
  rfl
 split at h
 ·rename_i id off e1
  obtain ⟨b, hb, hv⟩ := loc_inv hx e1
  split at h
  case h_2 => exact h.elim
  rename_i cs hcs
  obtain ⟨vs, T', g1, g2, g3⟩ := hI.boxAt hb hcs
  obtain ⟨cs', g4, g5⟩ := putK_ok h
  obtain ⟨g6, g7⟩ := g5 E.t σ β _ _ g2 hc (fun e => by
   rw [← Array.length_toList, e] at hsz
   simp only [List.length_nil] at hsz
   omega)
  simp only [OR.wp] at g4
  split at g4
  case h_2 => exact g4.elim
  rename_i htc
  have hoff : off + r.lay.length ≤ vs.size := by
   rw [← hsz]
   simpa using g6
  refine .inr ⟨_, hrun _ (by rw [hv]; exact store_run hT hr g1 hsz h1 hoff), ?_, fun _ => ⟨setCells_size _ _ _ _, fun b' x hb' => ?_⟩⟩
  ·exact cov_put (S := ⟨S.env, upd S.box id (some cs'), S.L⟩) (hI.setBox (cs := cs) hb g1 (by simpa using g6) g7 g3 h1) (setCells_fr hI hb htc) hn hd he hdN (v := .one (.c .undef)) rfl g4
  ·rw [setCells_other]
   intro e
   subst e
   rw [hI.apart id _ hb] at hb'
   cases hb'
 ·rename_i U e1
  obtain ⟨b, off, hv, Ls, m, q', r', g1, g2, g3, g4, g5⟩ := el_inv hx e1
  obtain ⟨hp, cs, T', k1, k2, k3⟩ := hI.hp b Ls m g1
  split at h
  case h_2 => exact h.elim
  rename_i e2
  have e2 := ctsEq_eq e2
  rw [e2] at g4 g5
  have hlt := off_lt g3 g4
  obtain ⟨f1, f2, f3⟩ := fitAll_ok (t := E.t) (σ := σ) (β := β) h
  refine .inr ⟨_, hrun _ (by rw [hv]; exact store_run hT hr k1 hsz h1 (by rw [k2, g2]; exact hlt)), ?_, fun hq => ?_⟩
  ·refine cov_put (S := S) (hI.setSig g1 fun i v ct hv' hct => ?_) (setSig_fr hI g1) hn hd he hdN (v := .one (.c .undef)) rfl f1
   have hi : i < r.lay.length := by
    rw [← hsz]
    rcases Nat.lt_or_ge i (a.eval y).cells.size with hh | hh
    ·exact hh
    ·rw [List.getElem?_eq_none (by simpa using hh)] at hv'
     cases hv'
   refine f3 _ hc i v ct hv' ?_
   rw [g2, off_mod (by omega), g5 i hi] at hct
   exact hct
  ·simp only [ho, quietO, e1] at hq
   cases hq
 ·exact h.elim
theorem env_mono {σ' : Sg} {β' : Bt} (he : ∀ i, (S.env i).ok t σ β (a.tmps.getD i Go.undef)) (h1 : Le σ σ') (h2 : LeB β β') : ∀ i, (S.env i).ok t σ' β' (a.tmps.getD i Go.undef) :=
 fun i => AV.ok_mono (he i) h1 h2
theorem alloc_fr {cs : List CV} {d : Nat} {ob : Obj} (hI : Inv t σ β S.box S.L w) (hdn : S.box d = none) : Fr tc σ β w σ (upd β d (some w.heap.size)) (w.alloc ob) := by
 refine Fr.next hI (Fr.refl _ _ _ _) rfl rfl rfl (by rw [alloc_size]; omega) (Le.refl _) (fun _ _ h => .inl h) (updSome_le (hI.noBox hdn)) (fun id b h => ?_) ?_
 ·rw [upd_eq] at h
  split at h
  ·injection h with h; exact .inr (by omega)
  ·exact .inl h
 ·intro b' hb' _ _
  exact Deep.blk_alloc_lt _ _ _ hb'
theorem allocSig_fr {x : List CT × Nat} {ob : Obj} (hI : Inv t σ β S.box S.L w) : Fr tc σ β w (upd σ w.heap.size (some x)) β (w.alloc ob) := by
 refine Fr.next hI (Fr.refl _ _ _ _) rfl rfl rfl (by rw [alloc_size]; omega) (updSg_le hI.newNone) (fun b x h => ?_) (LeB.refl _) (fun _ _ h => .inl h) ?_
 ·rw [upd_eq] at h
  split at h
  ·exact .inr (by omega)
  ·exact .inl h
 ·intro b' hb' _ _
  exact Deep.blk_alloc_lt _ _ _ hb'
theorem newBox_ok {T : TypeId} {d : Nat} {cs : List CV} {vs : Array Value} (hod : o.dst = some d) (hrun : (execOp a.eval o).run P w = .ok (.value (.pointer (some ⟨w.heap.size, 0, none⟩))) (w.alloc (.cells vs T))) (hI : Inv t σ β S.box S.L w) (hn : a.tmps.size = N) (hd : a.defers = [])
  (he : ∀ i, (S.env i).ok t σ β (a.tmps.getD i Go.undef)) (hdN : ∀ d', o.dst = some d' → d' < N) (hb : S.box d = none) (hc : Cells t σ β cs vs.toList) (h1 : ∀ v ∈ vs.toList, v.oneCell' = true)
  (h : (OR.wr d cs (.one (.c (.loc d 0)))).wp tc S o.dst K) : Stp P t N tc σ β w K false a o := by
 simp only [OR.wp] at h
 split at h
 case h_2 => exact h.elim
 rename_i htc
 refine .inl ⟨_, _, hrun, ?_, fun h => by cases h⟩
 exact cov_put (S := ⟨S.env, upd S.box d (some cs), S.L⟩) (hI.allocBox hb hc h1) (alloc_fr (cs := cs) hI hb) hn hd (env_mono he (Le.refl _) (updSome_le (hI.noBox hb))) hdN (v := .one (.c (.loc d 0)))
  ⟨w.heap.size, upd_same _ _ _, rfl⟩ h
theorem alloc_ok (hT : TabOk P E.t) {T : TypeId} (ho : o.op = .alloc T) (hI : Inv E.t σ β S.box S.L w) (hn : a.tmps.size = N) (hd : a.defers = [])
  (he : ∀ i, (S.env i).ok E.t σ β (a.tmps.getD i Go.undef)) (hdN : ∀ d', o.dst = some d' → d' < N) (h : (opR E o S).wp tc S o.dst K) : Stp P E.t N tc σ β w K (quietO S o.op) a o := by
 have hq : quietO S o.op = false := by simp [quietO, ho]
 rw [hq]
 unfold opR at h
 simp only [ho] at h
 split at h
 case h_2 => exact h.elim
 rename_i d r e1 e2
 split at h
 case h_2 => exact h.elim
 rename_i e3
 obtain ⟨i, z, h1, h2, h3, h4⟩ := zeroOf hT e2
 refine newBox_ok (T := T) (cs := zeroL r.lay) (vs := z.cells) e1 ?_ hI hn hd he hdN e3 (by rw [h4]; exact zeros_ok _) (by rw [h4]; exact zeros_one) h
 simp [execOp, ho, Instr.alloc, zeroValue, typeInfo, h1, h3, newVar, newRow]
theorem box_ok {T : TypeId} {x : Operand} (ho : o.op = .box T x) (hI : Inv E.t σ β S.box S.L w) (hn : a.tmps.size = N) (hd : a.defers = [])
  (he : ∀ i, (S.env i).ok E.t σ β (a.tmps.getD i Go.undef)) (hdN : ∀ d', o.dst = some d' → d' < N) (h : (opR E o S).wp tc S o.dst K) : Stp P E.t N tc σ β w K (quietO S o.op) a o := by
 have hq : quietO S o.op = false := by simp [quietO, ho]
 rw [hq]
 unfold opR at h
 simp only [ho] at h
 split at h
 case h_2 => exact h.elim
 rename_i d ys e1 e2
 split at h
 case h_2 => exact h.elim
 rename_i e3
 obtain ⟨hc, h1⟩ := cellsOf_ok (look_ok he x) e2
 refine newBox_ok (T := T) (cs := ys) (vs := (a.eval x).cells) e1 ?_ hI hn hd he hdN e3 hc h1 h
 simp [execOp, ho, Instr.box, newVar, newRow]
theorem repL_length {α : Type} (xs : List α) : ∀ n, (repL xs n).length = n * xs.length
 | 0 => by simp [repL]
 | n + 1 => by simp [repL, repL_length xs n, Nat.add_mul]; omega
theorem repL_get {α : Type} (xs : List α) : ∀ n i, i < n * xs.length → (repL xs n)[i]? = xs[i % xs.length]?
 | 0, i, h => by simp at h
 | n + 1, i, h => by
  rw [Nat.add_mul] at h
  simp only [repL]
  by_cases h1 : i < xs.length
  ·rw [List.getElem?_append_left h1, Nat.mod_eq_of_lt h1]
  ·rw [List.getElem?_append_right (by omega), repL_get xs n _ (by omega)]
   rw [← Nat.mod_eq_sub_mod (by omega)]
theorem zeroRep_ok (lay : List CT) : ∀ n, Cells t σ β (repL (zeroL lay) n) (repL (lay.map zeroVal) n)
 | 0 => .nil
 | n + 1 => (zeros_ok lay).append (zeroRep_ok lay n)
theorem repL_mem {α : Type} {xs : List α} {x : α} : ∀ {n}, x ∈ repL xs n → x ∈ xs
 | 0, h => by simp [repL] at h
 | n + 1, h => by
  simp only [repL] at h
  rcases List.mem_append.1 h with h | h
  ·exact h
  ·exact repL_mem h
theorem zeroArr {z : Array Value} {lay : List CT} (hz : z.toList = lay.map zeroVal) (hp : 0 < lay.length) (n : Nat) : ((Array.range (n * lay.length)).map (fun i => z[i % z.size]!)).toList = repL (lay.map zeroVal) n := by
 have hs : z.size = lay.length := by rw [← Array.length_toList, hz]; simp
 apply List.ext_getElem?
 intro i
 by_cases h : i < n * lay.length
 ·rw [repL_get _ _ _ (by simpa using h)]
  have hm : i % lay.length < lay.length := Nat.mod_lt _ hp
  simp only [Array.toList_map, Array.toList_range, List.getElem?_map, List.length_map]
  rw [List.getElem?_range h]
  simp only [Option.map_some, hs]
  rw [← List.getElem?_map, ← hz]
  have hm' : i % lay.length < z.size := by omega
  rw [getElem!_pos z _ hm']
  simp [hm']
 ·rw [List.getElem?_eq_none (by simp; omega), List.getElem?_eq_none (by rw [repL_length]; simp; omega)]
theorem buildSlice_ok (hT : TabOk P E.t) {T : TypeId} {n : Nat} {ps : Array (Nat × Operand)} (ho : o.op = .buildSlice T n ps) (hI : Inv E.t σ β S.box S.L w) (hn : a.tmps.size = N) (hd : a.defers = [])
  (he : ∀ i, (S.env i).ok E.t σ β (a.tmps.getD i Go.undef)) (hdN : ∀ d', o.dst = some d' → d' < N) (h : (opR E o S).wp tc S o.dst K) : Stp P E.t N tc σ β w K (quietO S o.op) a o := by
 have hq : quietO S o.op = false := by simp [quietO, ho]
 rw [hq]
 unfold opR at h
 simp only [ho] at h
 split at h
 case h_2 => exact h.elim
 rename_i e e1
 split at h
 case h_2 => exact h.elim
 rename_i r e2
 split at h
 case h_2 => exact h.elim
 rename_i e3
 have e3 : n * r.lay.length ≤ 4096 := Nat.le_of_ble_eq_true e3
 obtain ⟨hu, _⟩ := hT.sl T e e1
 obtain ⟨i, z, h1, h2, h3, h4⟩ := zeroOf hT e2
 have hp := hT.pos e2
 have hlay : E.t.lay e = r.lay := TabOk.lay (P := P) e2
 obtain ⟨cs', k1, k2⟩ := fillK_ok (t := E.t) (place' := fun i => some (i * r.lay.length, r.lay.length)) (by
  intro i off ts hi
  injection hi with hi
  injection hi with q1 q2
  subst q1; subst q2
  exact ⟨rfl, hp⟩) h
 have hz := zeroArr h4 hp n
 obtain ⟨vs, g1, g2, g3, g4⟩ := k2 σ β a he ((Array.range (n * r.lay.length)).map (fun i => z.cells[i % z.cells.size]!)) (by rw [hz]; exact zeroRep_ok _ _)
  (by rw [hz]; intro v hv; exact zeros_one v (repL_mem hv))
 obtain ⟨f1, f2, f3⟩ := fitAll_ok (t := E.t) (σ := σ) (β := β) k1
 have hvs : vs.size = n * r.lay.length := by rw [g4]; simp
 have hsmall : ¬ (16777216 < n * r.lay.length) := by omega
 have hps : (ps.map fun (i, x) => (i, a.eval x)).toList = ps.toList.map fun p => (p.1, a.eval p.2) := by simp
 have hrun : (Instr.buildSlice T n (ps.map fun (i, x) => (i, a.eval x))).run P w = .ok (.slice (some ⟨w.heap.size, 0, none⟩) n n) (w.alloc (.cells vs e)) := by
  by_cases h0 : n * r.lay.length = 0
  ·have g1' : Instr.fill (fun i => some (i * r.lay.length, r.lay.length)) #[] (ps.toList.map fun p => (p.1, a.eval p.2)) = some vs := by
    rw [← g1]
    congr 1
    rw [h0]
    simp
   have hr0 : Array.range 0 = #[] := by decide
   simp [Instr.buildSlice, run_underlying hu, hT.size e2, h0, newRow, g1', hr0]
  ·simp [Instr.buildSlice, run_underlying hu, hT.size e2, hsmall, h0, zeroValue, typeInfo, h1, h3, newRow, g1]
 refine .inl ⟨_, _, (by simp only [execOp, ho]; rw [Sem.run_bind, hrun]; rfl), ?_, fun h => by cases h⟩
 have hnl : n ≤ lenMax := by
  have : n * 1 ≤ n * r.lay.length := Nat.mul_le_mul_left _ hp
  unfold lenMax
  omega
 have hI' : Inv E.t (upd σ w.heap.size (some (r.lay, n))) β S.box S.L (w.alloc (.cells vs e)) := by
  refine hI.allocSig hp hvs fun i v ct hv hct => ?_
  have hi : i < n * r.lay.length := by
   rw [← hvs]
   rcases Nat.lt_or_ge i vs.size with hh | hh
   ·exact hh
   ·rw [Array.getElem?_eq_none hh] at hv; cases hv
  exact f3 _ g2 i v ct (by simpa using hv) (by rw [repL_get _ _ _ hi]; exact hct)
 refine cov_put (S := S) hI' (allocSig_fr hI) hn hd (env_mono he (updSg_le hI.newNone) (LeB.refl _)) hdN (v := .one (.c (.slice e n))) ⟨_, _, rfl, Nat.le_refl _, hnl, (fun h => by cases h), fun a ha => ?_⟩ f1
 injection ha with ha
 subst ha
 exact ⟨rfl, n, 0, by rw [upd_same, hlay], by simp, by omega⟩
end
section
variable {P : Program} {t : Tab} {N : Nat} {tc : Nat → Bool} {K : St → Prop} {a : Act} {w : World} {σ : Sg} {β : Bt} {q : Bool} {bx : Bx} {L : Nat}
variable {S : St} {o : Oper} {E : Env}
def FitRow (t : Tab) (σ : Sg) (L : Nat) (lay : List CT) (vs : List Value) : Prop := ∀ (j : Nat) (v : Value) (ct : CT), vs[j]? = some v → lay[j % lay.length]? = some ct → ct.ok t σ L v
theorem FitRow.one {lay : List CT} {vs : List Value} (hp : 0 < lay.length) (h : FitRow t σ L lay vs) : ∀ v ∈ vs, v.oneCell' = true := by
 intro v hv
 obtain ⟨j, hj⟩ := List.getElem?_of_mem hv
 have hm : j % lay.length < lay.length := Nat.mod_lt _ hp
 exact ctok_one (h j v _ hj (List.getElem?_eq_getElem hm))
theorem slice_cells (hT : TabOk P t) {e : TypeId} {r : Row} (hr : t.row e = some r) (hI : Inv t σ β bx L w) {A : Option Addr} {n c : Nat} (hs : SlOk t σ e A n c) :
  ∃ vs : List Value, vs.length = n * r.lay.length ∧ FitRow t σ L r.lay vs ∧ (∀ x, A = some x → ∀ j u, vs[j]? = some u → w.cell? (x.add j) = some u) ∧ (A = none → n = 0 ∧ c = 0) := by
 have hl : t.lay e = r.lay := TabOk.lay (P := P) hr
 obtain ⟨h1, h2, h3, h4⟩ := hs
 cases A with
 | none =>
  have hc := h3 rfl
  have hn : n = 0 := by omega
  refine ⟨[], by simp [hn], fun j v ct hv => by simp at hv, fun x hx => (by cases hx), fun _ => ⟨hn, hc⟩⟩
 | some x =>
  obtain ⟨b, off, sp⟩ := x
  obtain ⟨g1, m, q, g2, g3, g4⟩ := h4 _ rfl
  simp only at g1 g2 g3
  subst g1
  rw [hl] at g2 g3
  obtain ⟨hp, cs, T, k1, k2, k3⟩ := hI.hp b _ m g2
  have hle : off + n * r.lay.length ≤ cs.size := by
   rw [k2, g3, ← Nat.add_mul]
   exact Nat.mul_le_mul_right _ (by omega)
  refine ⟨(cs.toList.drop off).take (n * r.lay.length), by simp; omega, ?_, ?_, fun h => by cases h⟩
  ·intro j v ct hv hct
   rw [List.getElem?_take] at hv
   split at hv
   ·rw [List.getElem?_drop] at hv
    refine k3 (off + j) v ct (by simpa using hv) ?_
    rw [g3, Nat.mul_comm, Nat.mul_add_mod]
    exact hct
   ·cases hv
  ·intro x hx j u hu
   injection hx with hx
   subst hx
   rw [Addr.add_mid, cell_at k1]
   rw [List.getElem?_take] at hu
   split at hu
   ·rw [List.getElem?_drop] at hu
    simpa using hu
   ·cases hu
theorem growBy_le (need : Nat) : ∀ r c, c ≤ 2 * need + 512 → Builtin.growBy need r c ≤ 2 * need + 512
 | 0, c, h => h
 | r + 1, c, h => by
  unfold Builtin.growBy
  split
  ·exact h
  ·exact growBy_le need r _ (by omega)
theorem nextcap_le {need c : Nat} (h : c < need) : Builtin.nextslicecap need c ≤ 2 * need + 512 := by
 unfold Builtin.nextslicecap
 split
 ·omega
 ·split
  ·omega
  ·exact growBy_le _ _ _ (by omega)
theorem zeroCells_list {z : Array Value} {lay : List CT} (hz : z.toList = lay.map zeroVal) (hp : 0 < lay.length) (n : Nat) : (Builtin.zeroCells z n).toList = repL (lay.map zeroVal) n := by
 have hs : z.size = lay.length := by rw [← Array.length_toList, hz]; simp
 unfold Builtin.zeroCells
 rw [show n * z.size = n * lay.length by rw [hs]]
 exact zeroArr hz hp n
theorem FitRow.append {lay : List CT} {vs us : List Value} {n : Nat} (h1 : FitRow t σ L lay vs) (hl : vs.length = n * lay.length) (h2 : FitRow t σ L lay us) : FitRow t σ L lay (vs ++ us) := by
 intro j v ct hv hct
 by_cases h : j < vs.length
 ·rw [List.getElem?_append_left h] at hv
  exact h1 j v ct hv hct
 ·rw [List.getElem?_append_right (by omega)] at hv
  refine h2 _ v ct hv ?_
  rw [← hct]
  congr 1
  rw [hl]
  obtain ⟨k, hk⟩ : ∃ k, j = n * lay.length + k := ⟨j - n * lay.length, by omega⟩
  subst hk
  rw [Nat.add_sub_cancel_left, Nat.mul_comm, Nat.mul_add_mod]
theorem zeroRow_fit (lay : List CT) (n : Nat) : FitRow t σ L lay (repL (lay.map zeroVal) n) := by
 intro j v ct hv hct
 have hj : j < n * lay.length := by
  rcases Nat.lt_or_ge j (n * lay.length) with h | h
  ·exact h
  ·rw [List.getElem?_eq_none (by rw [repL_length]; simpa using h)] at hv
   cases hv
 rw [repL_get _ _ _ (by simpa using hj)] at hv
 simp only [List.length_map, List.getElem?_map, hct, Option.map_some, Option.some.injEq] at hv
 subst hv
 cases ct with
 | int k => exact ⟨0, rfl, by unfold InR; cases k <;> decide⟩
 | bool => exact ⟨false, rfl⟩
 | str => exact ⟨_, rfl, Nat.zero_le _⟩
 | slice E => exact ⟨none, 0, 0, rfl, Nat.zero_le _, Nat.le_refl _, Nat.zero_le _, fun _ => rfl, fun a h => by cases h⟩
 | ptr => exact ⟨none, rfl⟩
theorem append_core (hT : TabOk P t) {T T' e : TypeId} (e1 : t.elem T = some e) (e2 : t.elem T' = some e) (hI : Inv t σ β bx L w) {A B : Option Addr} {n c m c' : Nat} (hx : SlOk t σ e A n c) (hy : SlOk t σ e B m c') (hnm : n + m ≤ capMax) (ty : TypeId) :
  ∃ A' cc σ' w', (Builtin.append_ #[T, T'] ty #[.slice A n c, .slice B m c']).run P w = .ok (.slice A' (n + m) cc) w' ∧ Inv t σ' β bx (max L (n + m)) w' ∧ Fr tc σ β w σ' β w' ∧ Le σ σ' ∧ SlOk t σ' e A' (n + m) cc := by
 obtain ⟨hu, r, hr, hr32⟩ := hT.sl T e e1
 obtain ⟨hu', _⟩ := hT.sl T' e e2
 have hl : t.lay e = r.lay := TabOk.lay (P := P) hr
 have hp := hT.pos hr
 obtain ⟨i, z, h1, h2, h3, h4, h5⟩ := (hT.row e r hr).info
 obtain ⟨olds, o1, o2, o3, o4⟩ := slice_cells hT hr hI hx
 obtain ⟨news, n1, n2, n3, n4⟩ := slice_cells hT hr hI hy
 have hL : max L (n + m) ≤ lenMax := by
  have := hI.lim
  unfold capMax at hnm
  unfold lenMax at this ⊢
  omega
 have hlen : n + m ≤ lenMax := by
  unfold capMax at hnm
  unfold lenMax
  omega
 have hsrc : Src P i.size T' (.slice B m c') m news w := by
  cases B with
  | none =>
   obtain ⟨q1, q2⟩ := n4 rfl
   subst q1; subst q2
   have : news = [] := List.length_eq_zero_iff.1 (by simpa using n1)
   subst this
   exact Src.ofNil w hu' 0
  | some x => exact Src.ofSlice w hu' x m c' news (by rw [h2]; exact n1) (n3 x rfl) (n2.one hp)
 by_cases hroom : n + m ≤ c
 ·cases A with
  | none =>
   obtain ⟨q1, q2⟩ := o4 rfl
   subst q1; subst q2
   have q3 : m = 0 := by omega
   subst q3
   refine ⟨none, 0, σ, w, ?_, hI.grow (by omega) hL, Fr.refl _ _ _ _, Le.refl _, Nat.zero_le _, Nat.zero_le _, fun _ => rfl, fun a h => by cases h⟩
   have hle := hsrc.len w
   have hce := hsrc.cells
   simp [Builtin.append_, run_underlying hu, run_underlying hu', sizeOf, typeInfo, h1, hsrc.len, hce]
  | some x =>
   obtain ⟨b, off, sp⟩ := x
   obtain ⟨s1, s2, s3, s4⟩ := hx
   obtain ⟨g1, mm, q, g2, g3, g4⟩ := s4 _ rfl
   simp only at g1 g2 g3
   subst g1
   obtain ⟨hp', cs, T0, k1, k2, k3⟩ := hI.hp b _ mm g2
   have hin : ∀ j, j < m * r.lay.length → off + n * r.lay.length + j < cs.size := by
    intro j hj
    rw [k2, g3, hl, ← Nat.add_mul]
    have : (q + n) * r.lay.length + m * r.lay.length ≤ mm * r.lay.length := by
     rw [← Nat.add_mul]
     exact Nat.mul_le_mul_right _ (by omega)
    omega
   refine ⟨some ⟨b, off, none⟩, c, σ, _, run_append_room_src w T T' ty e i hu h1 b off n c _ m news hsrc hroom ?_ ?_, ?_, setSig_fr (S := ⟨fun _ => cany, bx, L⟩) hI g2, Le.refl _, hroom, hlen, (fun h => by cases h), fun a ha => ?_⟩
   ·intro j hj
    rw [n1] at hj
    rw [h2, cell_at k1, Array.getElem?_eq_getElem (hin j hj)]
    rfl
   ·intro j hj
    exact frozen_at k1 _
   ·refine (hI.setSig g2 fun j v ct hv hct => n2 j v ct hv ?_).grow (by omega) hL
    rw [← hct, h2, hl, g3, hl, ← Nat.add_mul, Nat.mul_comm, Nat.mul_add_mod]
   ·injection ha with ha
    subst ha
    exact ⟨rfl, mm, q, g2, g3, g4⟩
 ·have hcap := grownCap_ge w (n + m) c e
  have hold : (Builtin.firstCells i.size n (.slice A n c)).run P w.drew = .ok olds.toArray w.drew := by
   cases A with
   | none =>
    obtain ⟨q1, q2⟩ := o4 rfl
    subst q1
    have : olds = [] := List.length_eq_zero_iff.1 (by simpa using o1)
    subst this
    exact run_firstCells_none w.drew _ _ _ _
   | some x => exact run_firstCells_some w.drew _ _ _ _ _ _ (by rw [h2]; exact o1) (by simpa using o3 x rfl)
  have hrun := run_append_grow_src w T T' ty e i z hu h1 h3 A n c olds hold (.slice B m c') m news hsrc (by omega) (by unfold capMax at hnm; omega) (by
   have := nextcap_le (need := n + m) (c := c) (by omega)
   unfold capMax at hnm
   have h6 : Builtin.nextslicecap (n + m) c * i.bytes ≤ (2 * (n + m) + 512) * 500 := Nat.mul_le_mul this (h5.resolve_right (by omega))
   refine Nat.le_trans h6 ?_
   generalize n + m = k at hnm ⊢
   have h7 : 2 * k + 512 ≤ 549755814400 := by omega
   exact Nat.le_trans (Nat.mul_le_mul_right 500 h7) (by decide))
  have hlist : ((olds ++ news).toArray ++ Builtin.zeroCells z.cells (grownCap w (n + m) c e - (n + m))).toList = (olds ++ news) ++ repL (r.lay.map zeroVal) (grownCap w (n + m) c e - (n + m)) := by
   rw [Array.toList_append, zeroCells_list h4 hp]
  have holn : (olds ++ news).length = (n + m) * r.lay.length := by
   rw [List.length_append, o1, n1, Nat.add_mul]
  have hsize : ((olds ++ news).toArray ++ Builtin.zeroCells z.cells (grownCap w (n + m) c e - (n + m))).size = grownCap w (n + m) c e * r.lay.length := by
   rw [← Array.length_toList, hlist, List.length_append, holn, repL_length, List.length_map, ← Nat.add_mul]
   congr 1
   omega
  have hfit : FitRow t σ L r.lay ((olds ++ news) ++ repL (r.lay.map zeroVal) (grownCap w (n + m) c e - (n + m))) := (o2.append o1 n2).append holn (zeroRow_fit _ _)
  have hId : Inv t σ β bx L w.drew := hI.drew
  have hsz : w.drew.heap.size = w.heap.size := rfl
  refine ⟨_, _, upd σ w.heap.size (some (r.lay, grownCap w (n + m) c e)), _, hrun, ?_, ?_, updSg_le hI.newNone, hcap, hlen, (fun h => by cases h), fun a ha => ?_⟩
  ·refine (hId.allocSig hp hsize fun j v ct hv hct => ?_).grow (by omega) hL
   refine hfit j v ct ?_ hct
   rw [← hlist, Array.getElem?_toList]
   exact hv
  ·refine Fr.next hI (Fr.refl _ _ _ _) rfl rfl rfl (by rw [alloc_size]; show _ ≤ w.heap.size + 1; omega) (updSg_le hI.newNone) (fun b x h => ?_) (LeB.refl _) (fun _ _ h => .inl h) ?_
   ·rw [upd_eq] at h
    split at h
    ·exact .inr (by omega)
    ·exact .inl h
   ·intro b' hb' _ _
    exact Deep.blk_alloc_lt w.drew _ _ hb'
  ·injection ha with ha
   subst ha
   exact ⟨rfl, _, 0, by rw [upd_same, hl], by simp, by omega⟩
theorem append_ok (hT : TabOk P E.t) {c : Call} (ho : o.op = .call c) (hc : c.callee = .builtin .append) (hI : Inv E.t σ β S.box S.L w) (hn : a.tmps.size = N) (hd : a.defers = [])
  (he : ∀ i, (S.env i).ok E.t σ β (a.tmps.getD i Go.undef)) (hdN : ∀ d', o.dst = some d' → d' < N) (h : (opR E o S).wp tc S o.dst K) : Stp P E.t N tc σ β w K (quietO S o.op) a o := by
 have hq : quietO S o.op = false := by simp [ho, quietO, hc]
 rw [hq]
 unfold opR at h
 simp only [ho, hc] at h
 split at h
 case h_2 => exact h.elim
 rename_i x y T T' e1 e2
 split at h
 case h_2 => exact h.elim
 rename_i e e' e3 e4
 split at h
 case h_2 => exact h.elim
 rename_i e5
 have e5 := Nat.eq_of_beq_eq_true e5
 subst e5
 have hx := look_ok he x
 have hy := look_ok he y
 have hyld : ∀ u w', (Builtin.append_ #[T, T'] o.type #[a.eval x, a.eval y]).run P w = .ok u w' → (execOp a.eval o).run P w = .ok (.value u) w' := by
  intro u w' hu
  simp only [execOp, ho, resolve, hc, Sem.run_bind, Sem.run_pure, Result.andThen_ok, invoke, builtin, arr2 e1, arr2 e2, List.map_toArray, List.map_cons, List.map_nil]
  rw [hu]
  rfl
 have key : ∀ {A B n cc m c'} (hv : a.eval x = .slice A n cc) (hv' : a.eval y = .slice B m c') (hs : SlOk E.t σ e A n cc) (hs' : SlOk E.t σ e B m c') (hnm : n + m ≤ capMax)
   (hk : opnV (.one (.c (.slice e (n + m)))) fun v => St.put ⟨S.env, S.box, max S.L (n + m)⟩ o.dst v K), Stp P E.t N tc σ β w K false a o := by
  intro A B n cc m c' hv hv' hs hs' hnm hk
  obtain ⟨A', cc', σ', w', k1, k2, k3, k4, k5⟩ := append_core (tc := tc) hT e3 e4 hI hs hs' hnm o.type
  refine .inl ⟨_, w', hyld _ _ (by rw [hv, hv']; exact k1), ?_, fun h => by cases h⟩
  exact cov_put (S := ⟨S.env, S.box, max S.L (n + m)⟩) k2 k3 hn hd (env_mono he k4 (LeB.refl _)) hdN (v := .one (.c (.slice e (n + m)))) ⟨_, _, rfl, k5⟩ hk
 unfold appendR at h
 split at h
 case h_2 => exact h.elim
 split at h
 ·rename_i F n G m f1 f2
  split at h
  case h_2 => exact h.elim
  rename_i f3
  rw [Bool.and_eq_true] at f3
  have g1 := Nat.eq_of_beq_eq_true f3.1
  have g2 := Nat.eq_of_beq_eq_true f3.2
  subst g1
  subst g2
  rw [f1] at hx
  rw [f2] at hy
  obtain ⟨A, c1, v1, s1⟩ := hx
  obtain ⟨B, c2, v2, s2⟩ := hy
  exact key v1 v2 s1 s2 h.1 h.2
 ·rename_i G m f1 f2
  split at h
  case h_2 => exact h.elim
  rename_i f3
  have g2 := Nat.eq_of_beq_eq_true f3
  subst g2
  rw [f1] at hx
  rw [f2] at hy
  obtain ⟨B, c2, v2, s2⟩ := hy
  have h0 : 0 + m = m := Nat.zero_add m
  refine key (n := 0) (cc := 0) (A := none) hx v2 ⟨Nat.le_refl _, Nat.zero_le _, fun _ => rfl, fun a h => by cases h⟩ s2 (by rw [h0]; exact h.1) ?_
  rw [h0]
  exact h.2
 ·exact h.elim
end
inductive Argv (t : Tab) (σ : Sg) (β : Bt) : List AV → List Value → Prop
 | nil : Argv t σ β [] []
 | cons {x : AV} {v : Value} {xs : List AV} {vs : List Value} (h : x.ok t σ β v) (hs : Argv t σ β xs vs) : Argv t σ β (x :: xs) (v :: vs)
theorem Argv.mono {t : Tab} {σ σ' : Sg} {β β' : Bt} {xs : List AV} {vs : List Value} (h : Argv t σ β xs vs) (hl : ∀ x v, AV.ok t σ β x v → AV.ok t σ' β' x v) : Argv t σ' β' xs vs := by
 induction h with
 | nil => exact .nil
 | cons h _ ih => exact .cons (hl _ _ h) ih
def Entr (P : Program) (f : FuncId) : Prop := ∃ fn, P.funcs[f]? = some fn ∧ fn.body.isSome = true ∧ (fn.name == "runtime.NumGoroutine") = false
def Sat (P : Program) (t : Tab) (f : FuncId) (s : Spec) : Prop :=
 Entr P f ∧ ∀ avs bx L K, s.wp avs bx L K → ∀ (σ : Sg) (β : Bt) (w : World) (args : Array Value), Inv t σ β bx L w → (∀ id b, β id = some b → memb id s.reads = true) → (∀ id, memb id s.reads = true → ∃ b, β id = some b) → Argv t σ β avs args.toList →
  Calls P f args w fun e w' => ∃ v, e = .returned v ∧ ∃ r bx' L' σ', K r bx' L' ∧ Inv t σ' β bx' L' w' ∧ Fr (fun id => memb id s.tc) σ β w σ' β w' ∧ AV.ok t σ' β r v
def SatAll (P : Program) (E : Env) : Prop := ∀ f s, assoc E.sp f = some s → Sat P E.t f s
section
variable {P : Program} {t : Tab} {N : Nat} {tc : Nat → Bool} {K : St → Prop} {a : Act} {w : World} {σ : Sg} {β : Bt} {q : Bool} {bx : Bx} {L : Nat}
variable {S : St} {o : Oper} {E : Env} {Q : Exit → Act → World → Prop}
theorem callFunc_run {f : FuncId} (h : Entr P f) (args : Array Value) : (callFunc f args).run P w = .ok (.enter f args) w := by
 obtain ⟨fn, h1, h2, h3⟩ := h
 obtain ⟨c, hc⟩ := Option.isSome_iff_exists.1 h2
 have h4 : fn.name ≠ "runtime.NumGoroutine" := by simpa using h3
 simp [callFunc, h1, hc, h4]
def keepB (l : List Nat) (β : Bt) : Bt := fun i => match memb i l with
 | true => β i
 | false => none
theorem keepB_some {l : List Nat} {i b : Nat} (h : keepB l β i = some b) : memb i l = true ∧ β i = some b := by
 unfold keepB at h
 cases hm : memb i l with
 | true => rw [hm] at h; exact ⟨rfl, h⟩
 | false => rw [hm] at h; cases h
theorem keepIds_some {l : List Nat} {i : Nat} {cs : List CV} (h : keepIds l bx i = some cs) : memb i l = true ∧ bx i = some cs := by
 unfold keepIds at h
 cases hm : memb i l with
 | true => rw [hm] at h; exact ⟨rfl, h⟩
 | false => rw [hm] at h; cases h
theorem cIn_ok {l : List Nat} {x : CV} {v : Value} (h : x.ok t σ β v) (hi : cIn l x = true) : x.ok t σ (keepB l β) v := by
 cases x with
 | loc id off =>
  obtain ⟨b, h1, h2⟩ := h
  refine ⟨b, ?_, h2⟩
  unfold keepB
  have hi : memb id l = true := hi
  rw [hi]
  exact h1
 | _ => exact h
theorem csIn_ok {l : List Nat} {xs : List CV} {vs : List Value} (h : Cells t σ β xs vs) (hi : csIn l xs = true) : Cells t σ (keepB l β) xs vs := by
 induction h with
 | nil => exact .nil
 | @cons x v xs vs h _ ih =>
  unfold csIn at hi
  cases hx : cIn l x with
  | false => rw [hx] at hi; cases hi
  | true => rw [hx] at hi; exact .cons (cIn_ok h hx) (ih hi)
theorem aIn_ok {l : List Nat} {x : AV} {v : Value} (h : x.ok t σ β v) (hi : aIn l x = true) : x.ok t σ (keepB l β) v := by
 rcases x with x | xs
 ·rcases x with x | xs
  ·exact cIn_ok (x := x) h hi
  ·obtain ⟨vs, h1, h2⟩ := h
   exact ⟨vs, h1, csIn_ok h2 hi⟩
 ·cases hi
theorem keepB_le (l : List Nat) : LeB (keepB l β) β := fun id b h => (keepB_some h).2
theorem boxesIn_ok {l : List Nat} : ∀ {is : List Nat}, boxesIn l bx is = true → ∀ i ∈ is, ∀ cs, bx i = some cs → csIn l cs = true
 | [], _, i, hi, _, _ => by cases hi
 | j :: is, h, i, hi, cs, hc => by
  unfold boxesIn at h
  rcases List.mem_cons.1 hi with rfl | hi
  ·rw [hc] at h
   simp only at h
   cases hx : csIn l cs with
   | true => rfl
   | false => rw [hx] at h; cases h
  ·cases hb : bx j with
   | none => rw [hb] at h; exact boxesIn_ok h i hi cs hc
   | some cs' =>
    rw [hb] at h
    simp only at h
    cases hx : csIn l cs' with
    | true => rw [hx] at h; exact boxesIn_ok h i hi cs hc
    | false => rw [hx] at h; cases h
theorem Inv.keep (hI : Inv t σ β bx L w) {l : List Nat} (hb : ∀ i, memb i l = true → ∀ cs, bx i = some cs → csIn l cs = true) : Inv t σ (keepB l β) (keepIds l bx) L w := by
 refine ⟨hI.hp, ?_, ?_, ?_, ?_, hI.lt, hI.lim⟩
 ·intro id cs hc
  obtain ⟨h1, h2⟩ := keepIds_some hc
  obtain ⟨b, vs, T, g1, g2, g3, g4⟩ := hI.box id cs h2
  refine ⟨b, vs, T, ?_, g2, csIn_ok g3 (hb id h1 cs h2), g4⟩
  unfold keepB
  rw [h1]
  exact g1
 ·intro id id' b h1 h2
  exact hI.inj _ _ _ (keepB_some h1).2 (keepB_some h2).2
 ·intro id b h1
  exact hI.apart _ _ (keepB_some h1).2
 ·intro id b h1
  obtain ⟨h2, h3⟩ := keepB_some h1
  obtain ⟨cs, hc⟩ := hI.dom id b h3
  refine ⟨cs, ?_⟩
  unfold keepIds
  rw [h2]
  exact hc
theorem Inv.over (hI : Inv t σ β S.box S.L w) {l tcs : List Nat} {σ' : Sg} {bx' : Bx} {L' : Nat} {w' : World} (hI' : Inv t σ' (keepB l β) bx' L' w') (hF : Fr (fun id => memb id tcs) σ (keepB l β) w σ' (keepB l β) w') (htc : ∀ id, memb id tcs = true → tc id = true) :
  Inv t σ' β (overIds l bx' S.box) L' w' ∧ Fr tc σ β w σ' β w' := by
 have hsame : ∀ id b, β id = some b → memb id l = false → w'.heap[b]? = w.heap[b]? := by
  intro id b h1 h2
  refine hF.old b (hI.boxLt h1) (hI.apart _ _ h1) ?_
  intro id' h3
  obtain ⟨h4, h5⟩ := keepB_some h3
  rw [hI.inj _ _ _ h5 h1, h2] at h4
  cases h4
 constructor
 ·refine ⟨hI'.hp, ?_, hI.inj, ?_, ?_, hI'.lt, hI'.lim⟩
  ·intro id cs hc
   unfold overIds at hc
   cases hm : memb id l with
   | true =>
    rw [hm] at hc
    obtain ⟨b, vs, T, g1, g2, g3, g4⟩ := hI'.box id cs hc
    exact ⟨b, vs, T, (keepB_some g1).2, g2, g3.mono (Le.refl _) (keepB_le l), g4⟩
   | false =>
    rw [hm] at hc
    obtain ⟨b, vs, T, g1, g2, g3, g4⟩ := hI.box id cs hc
    exact ⟨b, vs, T, g1, by rw [hsame id b g1 hm]; exact g2, g3.mono hF.sg (LeB.refl _), g4⟩
  ·intro id b hb
   cases hs : σ' b with
   | none => rfl
   | some x =>
    rcases hF.new b x hs with h1 | h1
    ·rw [hI.apart id b hb] at h1; cases h1
    ·have := hI.boxLt hb
     omega
  ·intro id b hb
   unfold overIds
   cases hm : memb id l with
   | true => exact hI'.dom id b (by unfold keepB; rw [hm]; exact hb)
   | false => exact hI.dom id b hb
 ·refine ⟨hF.os, hF.tape, hF.output, hF.size, hF.sg, hF.new, fun _ _ h => h, fun _ _ h => .inl h, ?_, ?_⟩
  ·intro b h1 h2 h3
   exact hF.old b h1 h2 fun id h4 => h3 id (keepB_some h4).2
  ·intro id b h1 h2
   cases hm : memb id l with
   | true =>
    refine hF.ro id b (by unfold keepB; rw [hm]; exact h1) ?_
    cases hx : memb id tcs with
    | false => rfl
    | true => rw [htc id hx] at h2; cases h2
   | false => exact hsame id b h1 hm
theorem all_memb {l : List Nat} (h : l.all tc = true) : ∀ id, memb id l = true → tc id = true := by
 intro id hid
 exact List.all_eq_true.1 h id ((memb_iff _ _).1 hid)
theorem argsOf_ok (he : ∀ i, (S.env i).ok t σ β (a.tmps.getD i Go.undef)) : ∀ l : List Operand, Argv t σ β (argsOf S l) (l.map a.eval)
 | [] => .nil
 | x :: l => .cons (look_ok he x) (argsOf_ok he l)
theorem asIn_ok {l : List Nat} {xs : List AV} {vs : List Value} (h : Argv t σ β xs vs) (hi : asIn l xs = true) : Argv t σ (keepB l β) xs vs := by
 induction h with
 | nil => exact .nil
 | @cons x v xs vs h _ ih =>
  unfold asIn at hi
  cases hx : aIn l x with
  | false => rw [hx] at hi; cases hi
  | true => rw [hx] at hi; exact .cons (aIn_ok h hx) (ih hi)
theorem heldIn_ok {t : Tab} {σ : Sg} {β : Bt} {bx : Bx} {L : Nat} {w : World} (hI : Inv t σ β bx L w) : ∀ {l : List Nat}, heldIn bx l = true → ∀ id, memb id l = true → ∃ b, β id = some b
 | [], _, id, h => by simp [memb] at h
 | i :: l, h, id, hm => by
  unfold heldIn at h
  split at h
  ·rename_i cs hc
   unfold memb at hm
   split at hm
   ·rename_i e
    rw [Nat.eq_of_beq_eq_true e]
    obtain ⟨b, _, _, hb, _⟩ := hI.box i cs hc
    exact ⟨b, hb⟩
   ·exact heldIn_ok hI h id hm
  ·cases h
end
section
variable {P : Program} {t : Tab} {N : Nat} {tc : Nat → Bool} {K : St → Prop} {a : Act} {w : World} {σ : Sg} {β : Bt} {q : Bool} {bx : Bx} {L : Nat}
variable {S : St} {o : Oper} {E : Env} {Q : Exit → Act → World → Prop}
theorem Stp.wp (h : Stp P t N tc σ β w K q a o) : o.wp P a w (Nxt t N tc σ β w K q) Q := by
 rcases h with ⟨u, w', h1, h2⟩ | ⟨w', h1, h2⟩
 ·unfold Oper.wp
  rw [h1]
  exact h2
 ·unfold Oper.wp
  rw [h1]
  exact h2
theorem call_ok (hS : SatAll P E) {c : Call} {f : FuncId} (ho : o.op = .call c) (hc : c.callee = .value (.func f)) (hI : Inv E.t σ β S.box S.L w) (hn : a.tmps.size = N) (hd : a.defers = [])
  (he : ∀ i, (S.env i).ok E.t σ β (a.tmps.getD i Go.undef)) (hdN : ∀ d', o.dst = some d' → d' < N) (h : (opR E o S).wp tc S o.dst K) : o.wp P a w (Nxt E.t N tc σ β w K (quietO S o.op)) Q := by
 have hq : quietO S o.op = false := by simp [ho, quietO, hc]
 rw [hq]
 unfold opR at h
 simp only [ho, hc] at h
 split at h
 case h_2 => exact h.elim
 rename_i s hs
 simp only [OR.wp] at h
 split at h
 case h_2 => exact h.elim
 rename_i hchk
 rw [Bool.and_eq_true, Bool.and_eq_true, Bool.and_eq_true] at hchk
 obtain ⟨c1, c0, c2, c3⟩ := hchk
 obtain ⟨hE, hsat⟩ := hS f s hs
 have hrun : (execOp a.eval o).run P w = .ok (.enter f (c.args.map a.eval)) w := by
  have h1 : execOp a.eval o = callFunc f (#[] ++ c.args.map a.eval ++ #[]) := by
   unfold execOp
   simp only [ho, resolve, hc]
   rfl
  rw [h1, callFunc_run hE]
  simp
 unfold Oper.wp
 rw [hrun]
 show Calls P f _ w _
 have hargs := asIn_ok (argsOf_ok he c.args.toList) c2
 have hk : Inv E.t σ (keepB s.reads β) (keepIds s.reads S.box) S.L w := hI.keep fun i hi cs hcs => boxesIn_ok c3 i ((memb_iff _ _).1 hi) cs hcs
 refine Calls.mono (hsat _ _ _ _ h σ (keepB s.reads β) w _ hk (fun id b hb => (keepB_some hb).1) (fun id hid => by
  obtain ⟨b, hb⟩ := heldIn_ok hI c0 id hid
  refine ⟨b, ?_⟩
  unfold keepB
  rw [hid]
  exact hb) (by simpa using hargs)) ?_
 rintro e w' ⟨v, rfl, r, bx', L', σ', k1, k2, k3, k4⟩
 obtain ⟨g1, g2⟩ := hI.over k2 k3 (all_memb c1)
 refine ⟨?_, fun h => by cases h⟩
 exact cov_put (S := ⟨S.env, overIds s.reads bx' S.box, L'⟩) g1 g2 hn hd (env_mono he k3.sg (LeB.refl _)) hdN (AV.ok_mono k4 (Le.refl _) (keepB_le _)) k1
theorem op_ok (hT : TabOk P E.t) (hE : EqOk P E.t E.eqs) (hS : SatAll P E) (hI : Inv E.t σ β S.box S.L w) (hn : a.tmps.size = N) (hd : a.defers = [])
  (he : ∀ i, (S.env i).ok E.t σ β (a.tmps.getD i Go.undef)) (hdN : ∀ d', o.dst = some d' → d' < N) (h : (opR E o S).wp tc S o.dst K) : o.wp P a w (Nxt E.t N tc σ β w K (quietO S o.op)) Q := by
 have g : Gam E.t N tc σ β w S a w := ⟨σ, β, hI, Fr.refl _ _ _ _, hn, hd, he⟩
 have pure : (∃ u, Yld P a o u ∧ Cov E.t N tc σ β w K (a.put o.dst u) w) → o.wp P a w (Nxt E.t N tc σ β w K (quietO S o.op)) Q := by
  rintro ⟨u, h1, h2⟩
  exact (Stp.pure h1 h2).wp
 cases ho : o.op with
 | move x =>
  rw [← ho]
  have h' := h
  unfold opR at h'
  simp only [ho] at h'
  exact pure ⟨_, move_ok (.inl ho) g hdN h'⟩
 | assign x =>
  rw [← ho]
  have h' := h
  unfold opR at h'
  simp only [ho] at h'
  exact pure ⟨_, move_ok (.inr ho) g hdN h'⟩
 | pick c x y => rw [← ho]; exact pure (pick_ok ho g hdN h)
 | alloc T => rw [← ho]; exact (alloc_ok hT ho hI hn hd he hdN h).wp
 | box T x => rw [← ho]; exact (box_ok ho hI hn hd he hdN h).wp
 | build T ps => rw [← ho]; exact pure (build_ok hT ho g hdN h)
 | buildSlice T n ps => rw [← ho]; exact (buildSlice_ok hT ho hI hn hd he hdN h).wp
 | load T x => rw [← ho]; exact (load_ok hT ho hI hn hd he hdN h).wp
 | store T x y => rw [← ho]; exact (store_ok hT ho hI hn hd he hdN h).wp
 | nilCheck x => rw [← ho]; exact pure (nilCheck_ok ho g hdN h)
 | binOp op T x y T' => rw [← ho]; exact pure (bin_ok hE ho g hdN h)
 | unOp op T x => rw [← ho]; exact pure (not_ok ho g hdN h)
 | convert U T x => rw [← ho]; exact pure (convert_ok hT ho g hdN h)
 | slice T x lo hi mx => rw [← ho]; exact pure (slice_ok hT ho g hdN h)
 | fieldAddr T x f => rw [← ho]; exact pure (fieldAddr_ok hT ho g hdN h)
 | field T x f => rw [← ho]; exact pure (field_ok hT ho g hdN h)
 | indexAddr T x i => rw [← ho]; exact pure (indexAddr_ok hT ho g hdN h)
 | extract x i => rw [← ho]; exact pure (extract_ok ho g hdN h)
 | call c =>
  rw [← ho]
  cases hc : c.callee with
  | value x =>
   cases x with
   | func f => exact call_ok hS ho hc hI hn hd he hdN h
   | _ =>
    unfold opR at h
    simp only [ho, hc] at h
    exact h.elim
  | builtin b =>
   cases b with
   | len => exact pure (len_ok hT ho hc g hdN h)
   | max => exact pure (max_ok ho hc g hdN h)
   | append => exact (append_ok hT ho hc hI hn hd he hdN h).wp
   | _ =>
    unfold opR at h
    simp only [ho, hc] at h
    exact h.elim
  | invoke r m =>
   unfold opR at h
   simp only [ho, hc] at h
   exact h.elim
 | _ =>
  unfold opR at h
  simp only [ho] at h
  exact h.elim
theorem skip_ok (hI : Inv t σ β S.box S.L w) (hn : a.tmps.size = N) (hd : a.defers = []) (he : ∀ i, (S.env i).ok t σ β (a.tmps.getD i Go.undef)) (hdN : ∀ d', o.dst = some d' → d' < N)
  (h : (OR.det (.one (.c .undef))).wp tc S o.dst K) : Nxt t N tc σ β w K q (a.put o.dst Go.undef) w :=
 ⟨cov_put hI (Fr.refl _ _ _ _) hn hd he hdN (v := .one (.c .undef)) rfl h, fun _ => ⟨rfl, fun _ _ _ => rfl⟩⟩
def opW (P : Program) (ops : Array Oper) (o : Oper) (a : Act) (w : World) (X : Act → World → Prop) (Q : Exit → Act → World → Prop) : Prop :=
 (Region.wanted o (yielded ops a.tmps) = true → o.wp P a w X Q) ∧ (Region.wanted o (yielded ops a.tmps) = false → X (a.put o.dst Go.undef) w)
theorem getD_some {A : Array Value} {g : Nat} (h : g < A.size) : A[g]? = some (A.getD g Go.undef) := by
 simp [Array.getD_eq_getD_getElem?, h]
theorem dst_lt {ops : Array Oper} (hall : ∀ o ∈ ops, ∀ d', o.dst = some d' → d' < N) {j g : Nat} (hj : dstOf ops.toList j = some g) : g < N := by
 unfold dstOf at hj
 rw [nth_eq, Array.getElem?_toList] at hj
 split at hj
 ·rename_i o' ho'
  exact hall o' (Array.mem_of_getElem? ho') g hj
 ·cases hj
theorem yielded_of {ops : Array Oper} {j g : Nat} (hj : dstOf ops.toList j = some g) (hg : g < a.tmps.size) : yielded ops a.tmps j = match a.tmps.getD g Go.undef with | .bool b => some b | _ => none := by
 have hj' : (ops[j]?).bind (·.dst) = some g := by
  unfold dstOf at hj
  rw [nth_eq, Array.getElem?_toList] at hj
  split at hj
  ·rename_i o' ho'
   rw [ho']
   exact hj
  ·cases hj
 unfold yielded
 rw [hj']
 simp only [Option.bind_some, getD_some hg]
 cases a.tmps.getD g Go.undef <;> rfl
theorem opG_ok {ops : Array Oper} (hT : TabOk P E.t) (hE : EqOk P E.t E.eqs) (hS : SatAll P E) (hI : Inv E.t σ β S.box S.L w) (hn : a.tmps.size = N) (hd : a.defers = [])
  (he : ∀ i, (S.env i).ok E.t σ β (a.tmps.getD i Go.undef)) (hall : ∀ o ∈ ops, ∀ d', o.dst = some d' → d' < N) (hm : o ∈ ops) (h : (opG E ops.toList o S).wp tc S o.dst K) :
  opW P ops o a w (Nxt E.t N tc σ β w K (quietO S o.op)) Q := by
 have hdN := hall o hm
 unfold opG at h
 split at h
 ·rename_i hg
  have hw : Region.wanted o (yielded ops a.tmps) = true := by simp [Region.wanted, hg]
  exact ⟨fun _ => op_ok hT hE hS hI hn hd he hdN h, fun h' => by rw [hw] at h'; cases h'⟩
 ·rename_i j want hg
  split at h
  case h_2 => exact h.elim
  rename_i g hj
  have hyl := yielded_of (a := a) (ops := ops) hj (hn ▸ dst_lt hall hj)
  have heg := he g
  split at h
  ·rename_i p e
   rw [e] at heg
   obtain ⟨b, hb, hbp⟩ := heg
   rw [hb] at hyl
   have hw : Region.wanted o (yielded ops a.tmps) = (b == want) := by simp [Region.wanted, hg, hyl]
   unfold opW
   rw [hw]
   split at h
   ·obtain ⟨h1, h2⟩ := h
    cases b with
    | true => exact ⟨fun _ => op_ok hT hE hS hI hn hd he hdN (h1 (hbp.1 rfl)), fun h => by cases h⟩
    | false => exact ⟨fun h => (by cases h), fun _ => skip_ok hI hn hd he hdN (h2 fun hp => by cases hbp.2 hp)⟩
   ·obtain ⟨h1, h2⟩ := h
    cases b with
    | true => exact ⟨fun h => (by cases h), fun _ => skip_ok hI hn hd he hdN (h1 (hbp.1 rfl))⟩
    | false => exact ⟨fun _ => op_ok hT hE hS hI hn hd he hdN (h2 fun hp => by cases hbp.2 hp), fun h => by cases h⟩
  ·rename_i e
   rw [e] at heg
   have hv : a.tmps.getD g Go.undef = Go.undef := heg
   rw [hv] at hyl
   have hyl' : yielded ops a.tmps j = none := by rw [hyl]; rfl
   have hw : Region.wanted o (yielded ops a.tmps) = false := by simp [Region.wanted, hg, hyl']
   exact ⟨fun h' => (by rw [hw] at h'; cases h'), fun _ => skip_ok hI hn hd he hdN h⟩
  ·exact h.elim
theorem Fr.trans {σ₀ : Sg} {β₀ : Bt} {w₀ : World} {σ' : Sg} {β' : Bt} {w' : World} (hI : Inv t σ β bx L w) (h : Fr tc σ₀ β₀ w₀ σ β w) (h' : Fr tc σ β w σ' β' w') : Fr tc σ₀ β₀ w₀ σ' β' w' := by
 refine Fr.next hI h h'.os h'.tape h'.output h'.size h'.sg h'.new h'.sh h'.own fun b h1 h2 h3 => ?_
 by_cases hb : ∃ id, β id = some b
 ·obtain ⟨id, hid⟩ := hb
  exact h'.ro id b hid (h3 id hid)
 ·exact h'.old b h1 h2 fun id hid => hb ⟨id, hid⟩
theorem Cov.trans {σ₀ : Sg} {β₀ : Bt} {w₀ : World} {a' : Act} {w' : World} (hI : Inv t σ β bx L w) (h : Fr tc σ₀ β₀ w₀ σ β w) (h' : Cov t N tc σ β w K a' w') : Cov t N tc σ₀ β₀ w₀ K a' w' := by
 obtain ⟨S', hk, σ', β', hI', hF', hn, hd, he⟩ := h'
 exact ⟨S', hk, σ', β', hI', h.trans hI hF', hn, hd, he⟩
theorem Oper.wp_mono' {X X' : Act → World → Prop} (h : o.wp P a w X Q) (hx : ∀ a w, X a w → X' a w) : o.wp P a w X' Q := by
 unfold Oper.wp at *
 generalize (execOp a.eval o).run P w = r at h ⊢
 cases r with
 | ok n w' =>
  cases n with
  | value v => exact hx _ _ h
  | skip => exact hx _ _ h
  | defer d => exact hx _ _ h
  | enter f args =>
   refine Calls.mono h fun e w' he => ?_
   cases e with
   | returned v => exact hx _ _ he
   | panicked c => exact he
   | outgrown => exact he
  | row r args => exact Rows.mono h fun v w' he => hx _ _ he
  | _ => exact h.elim
 | halt x w' =>
  cases x with
  | panic v => exact h
  | _ => exact h.elim
theorem rvc_ok {ops : Array Oper} (hT : TabOk P E.t) (hE : EqOk P E.t E.eqs) (hS : SatAll P E) (hall : ∀ o ∈ ops, ∀ d', o.dst = some d' → d' < N) {σ₀ : Sg} {β₀ : Bt} {w₀ : World}
  (hQ : ∀ a w, Cov E.t N tc σ₀ β₀ w₀ K a w → Q .normal a w) :
  ∀ (l : List Oper), (∀ o ∈ l, o ∈ ops) → ∀ (S : St) (a : Act) (w : World), rvc E tc ops.toList l S K → Gam E.t N tc σ₀ β₀ w₀ S a w → wpList P ops Q l a w
 | [], _, S, a, w, h, g => hQ _ _ ⟨S, h, g⟩
 | o :: l, hl, S, a, w, h, g => by
  obtain ⟨σ, β, hI, hF, hn, hd, he⟩ := g
  obtain ⟨h1, h2⟩ := opG_ok (Q := Q) hT hE hS hI hn hd he hall (hl o (by simp)) h
  have hx : ∀ a' w', Nxt E.t N tc σ β w (fun S => rvc E tc ops.toList l S K) (quietO S o.op) a' w' → wpList P ops Q l a' w' := by
   rintro a' w' ⟨h3, _⟩
   obtain ⟨S', hk, g'⟩ := Cov.trans hI hF h3
   exact rvc_ok hT hE hS hall hQ l (fun o ho => hl o (by simp [ho])) S' a' w' hk g'
  unfold wpList
  split
  ·rename_i hw
   exact .inl (Oper.wp_mono' (h1 hw) hx)
  ·rename_i hw
   exact hx _ _ (h2 (by simpa using hw))
end
end Tv
end Go.Proofs.YtpabdmcbahmjnaaGreat
