/- Maps of the heap as association lists: the laws of the operations. No program in sight. -/
import Derived.WalkKit
import Derived.MapKept
import Derived.Maps.RangeRun
namespace Go.Proofs.Ytagfghihnkkfiaa
set_option linter.unusedVariables false
set_option linter.unusedSimpArgs false
set_option linter.unusedSectionVars false
open Go.RowKit Go.MapKept
open Go.ChangeMaps (setBlock)

section Assoc
variable {κ β : Type} [DecidableEq κ]
def alook : List (κ × β) → κ → Option β
  | [], _ => none
  | (a, b) :: r, k => if a = k then some b else alook r k
def aset : List (κ × β) → κ → β → List (κ × β)
  | [], k, v => [(k, v)]
  | (a, b) :: r, k, v => if a = k then (k, v) :: r else (a, b) :: aset r k v
def adel : List (κ × β) → κ → List (κ × β)
  | [], _ => []
  | (a, b) :: r, k => if a = k then r else (a, b) :: adel r k

theorem alook_none {L : List (κ × β)} {k : κ} (h : ∀ p ∈ L, p.1 ≠ k) : alook L k = none := by
  induction L with
  | nil => rfl
  | cons p r ih =>
    obtain ⟨a, b⟩ := p
    have h1 : a ≠ k := h (a, b) (.head _)
    simp only [alook, if_neg h1]
    exact ih fun q hq => h q (.tail _ hq)
theorem aset_new {L : List (κ × β)} {k : κ} {v : β} (h : ∀ p ∈ L, p.1 ≠ k) : aset L k v = L ++ [(k, v)] := by
  induction L with
  | nil => rfl
  | cons p r ih =>
    obtain ⟨a, b⟩ := p
    have h1 : a ≠ k := h (a, b) (.head _)
    simp only [aset, if_neg h1, List.cons_append]
    rw [ih fun q hq => h q (.tail _ hq)]
theorem adel_none {L : List (κ × β)} {k : κ} (h : ∀ p ∈ L, p.1 ≠ k) : adel L k = L := by
  induction L with
  | nil => rfl
  | cons p r ih =>
    obtain ⟨a, b⟩ := p
    have h1 : a ≠ k := h (a, b) (.head _)
    simp only [adel, if_neg h1]
    rw [ih fun q hq => h q (.tail _ hq)]
theorem assoc_at {L : List (κ × β)} (hn : (L.map (·.1)).Nodup) {k : κ} {b : β} : ∀ {j : Nat}, L[j]? = some (k, b) →
    alook L k = some b ∧ (∀ v, aset L k v = L.set j (k, v)) ∧ adel L k = L.eraseIdx j := by
  induction L with
  | nil => intro j h; simp at h
  | cons p r ih =>
    obtain ⟨a, b'⟩ := p
    intro j h
    simp only [List.map_cons, List.nodup_cons] at hn
    cases j with
    | zero =>
      simp only [List.getElem?_cons_zero, Option.some.injEq, Prod.mk.injEq] at h
      obtain ⟨rfl, rfl⟩ := h
      simp [alook, aset, adel]
    | succ j =>
      simp only [List.getElem?_cons_succ] at h
      have hne : a ≠ k := fun he => hn.1 (he ▸ List.mem_map.2 ⟨(k, b), List.mem_of_getElem? h, rfl⟩)
      obtain ⟨i1, i2, i3⟩ := ih hn.2 h
      simp only [alook, aset, adel, if_neg hne, List.set_cons_succ, List.eraseIdx_cons_succ]
      exact ⟨i1, fun v => by rw [i2], by rw [i3]⟩
end Assoc

section
variable {κ β : Type} [DecidableEq κ]
/-- block r is a map that holds the list L, in the order of the insertions -/
def MapIs (w : World) (r : Nat) (d : TypeDesc) (kk : κ → Value) (f : β → Value) (L : List (κ × β)) : Prop :=
  ∃ es clock, w.heap[r]? = some (.map es clock) ∧ Stamped es clock ∧ (∀ x ∈ es.toList, IsKey d x.key) ∧ es.toList.map (fun e => (e.key, e.val)) = L.map (fun p => (kk p.1, f p.2))

variable {P : Program} {w : World} {r : Nat} {d : TypeDesc} {kk : κ → Value} {f : β → Value} {L : List (κ × β)}

theorem MapIs.lt (h : MapIs w r d kk f L) : r < w.heap.size := by
  obtain ⟨es, clock, hb, _⟩ := h
  exact (Array.getElem?_eq_some_iff.1 hb).1
theorem MapIs.of_block {w' : World} (h : MapIs w r d kk f L) (hb : w'.heap[r]? = w.heap[r]?) : MapIs w' r d kk f L := by
  obtain ⟨es, clock, h1, h2⟩ := h
  exact ⟨es, clock, hb.trans h1, h2⟩
theorem MapIs.made (w : World) (d : TypeDesc) (kk : κ → Value) (f : β → Value) : MapIs (w.alloc (.map #[] 0)) w.heap.size d kk f [] :=
  ⟨#[], 0, (heap_alloc w _).1, stamped_empty _, by simp, by simp⟩
theorem MapIs.nodup (inj : ∀ x y, kk x = kk y → x = y) (h : MapIs w r d kk f L) : (L.map (·.1)).Nodup := by
  obtain ⟨es, clock, hb, hs, hk, hL⟩ := h
  have h3 : (es.toList.map (·.key)).Nodup := hs.2.2
  have e1 : es.toList.map (·.key) = (L.map (·.1)).map kk := by
    have := congrArg (List.map Prod.fst) hL
    simpa [List.map_map, Function.comp_def] using this
  rw [e1] at h3
  have hp : ∀ l : List κ, (l.map kk).Nodup → l.Nodup := by
    intro l
    induction l with
    | nil => intro _; exact List.nodup_nil
    | cons a t ih =>
      intro h
      simp only [List.map_cons, List.nodup_cons] at h ⊢
      exact ⟨fun hm => h.1 (List.mem_map.2 ⟨a, hm, rfl⟩), ih h.2⟩
  exact hp _ h3
theorem MapIs.find (hkk : ∀ x, IsKey d (kk x)) (inj : ∀ x y, kk x = kk y → x = y) {es : Array MapEntry} (hk : ∀ x ∈ es.toList, IsKey d x.key)
    (hL : es.toList.map (fun e => (e.key, e.val)) = L.map (fun p => (kk p.1, f p.2))) (k : κ) :
    (Instr.findNow d (kk k) es.toList 0 = some none ∧ (∀ x ∈ es.toList, x.key ≠ kk k) ∧ ∀ p ∈ L, p.1 ≠ k) ∨
    ∃ j e b, Instr.findNow d (kk k) es.toList 0 = some (some (j, f b)) ∧ es[j]? = some e ∧ e.key = kk k ∧ e.val = f b ∧ L[j]? = some (k, b) := by
  rcases findNow_spec (hkk k) es.toList 0 hk with ⟨h1, h2⟩ | ⟨j, e, h1, h2, h3⟩
  · refine .inl ⟨h1, h2, fun p hp he => ?_⟩
    have hm : (kk p.1, f p.2) ∈ es.toList.map (fun e => (e.key, e.val)) := hL ▸ List.mem_map.2 ⟨p, hp, rfl⟩
    obtain ⟨x, hx, hxe⟩ := List.mem_map.1 hm
    simp only [Prod.mk.injEq] at hxe
    exact h2 x hx (by rw [hxe.1, he])
  · have hg := congrArg (fun l => l[j]?) hL
    simp only [List.getElem?_map, h2, Option.map_some] at hg
    cases hl : L[j]? with
    | none => rw [hl] at hg; simp at hg
    | some p =>
      rw [hl] at hg
      simp only [Option.map_some, Option.some.injEq, Prod.mk.injEq] at hg
      have hp : p.1 = k := inj _ _ (hg.1.symm.trans h3)
      obtain ⟨a, b⟩ := p
      simp only at hp hg
      subst hp
      exact .inr ⟨j, e, b, by rw [h1, Nat.zero_add, hg.2], by simpa using h2, h3, hg.2, hl⟩

/-- what a look-up hands out -/
def outOf (z : Value) (f : β → Value) : Option β → Value
  | none => z
  | some b => f b

theorem MapIs.lookup (hkk : ∀ x, IsKey d (kk x)) (inj : ∀ x y, kk x = kk y → x = y) {mt kt et : TypeId} (hm : P.underlying mt = some (.map kt et)) (hd : P.underlying kt = some d) {z : Value} (hz : (zeroValue et).run P w = .ok z w)
    (h : MapIs w r d kk f L) (k : κ) (c : Bool) :
    (Instr.lookup mt (.map (some r)) (kk k) c).run P w = .ok (if c then .tuple #[outOf z f (alook L k), .bool (alook L k).isSome] else outOf z f (alook L k)) w := by
  have hn := h.nodup inj
  obtain ⟨es, clock, hb, hs, hk, hL⟩ := h
  rcases MapIs.find hkk inj hk hL k with ⟨h1, h2, h3⟩ | ⟨j, e, b, h1, h2, h3, h4, h5⟩
  · rw [alook_none h3]
    cases c <;> simp [Instr.lookup, run_underlying hm, MapKept.run_getObj_map hb, run_checkKey hd (hkk k), run_findKey hd h1, hz, outOf, Result.andThen]
  · rw [(assoc_at hn h5).1]
    cases c <;> simp [Instr.lookup, run_underlying hm, MapKept.run_getObj_map hb, run_checkKey hd (hkk k), run_findKey hd h1, outOf, Result.andThen]

theorem MapIs.update (hkk : ∀ x, IsKey d (kk x)) (inj : ∀ x y, kk x = kk y → x = y) {mt kt et : TypeId} (hm : P.underlying mt = some (.map kt et)) (hd : P.underlying kt = some d)
    (h : MapIs w r d kk f L) (k : κ) (v : β) :
    ∃ o, (Instr.mapUpdate mt (.map (some r)) (kk k) (f v)).run P w = .ok () (setBlock w r o) ∧ MapIs (setBlock w r o) r d kk f (aset L k v) := by
  have hn := h.nodup inj
  obtain ⟨es, clock, hb, hs, hk, hL⟩ := h
  rcases MapIs.find hkk inj hk hL k with ⟨h1, h2, h3⟩ | ⟨j, e, b, h1, h2, h3, h4, h5⟩
  · refine ⟨.map (es.push { key := kk k, val := f v, born := clock }) (clock + 1), ?_, ?_⟩
    · simp [Instr.mapUpdate, run_underlying hm, MapKept.run_getObj_map hb, run_checkKey hd (hkk k), run_findKey hd h1, run_setObj_map _ hb, Result.andThen, setBlock]
    · rw [aset_new h3]
      refine ⟨_, _, (heap_set hb).1, stamped_push hs h2, ?_, ?_⟩
      · intro x hx
        simp only [Array.toList_push, List.mem_append, List.mem_singleton] at hx
        rcases hx with hx | rfl
        · exact hk x hx
        · exact hkk k
      · simp [hL]
  · refine ⟨.map (es.modify j fun e => { e with key := kk k, val := f v }) clock, ?_, ?_⟩
    · simp [Instr.mapUpdate, run_underlying hm, MapKept.run_getObj_map hb, run_checkKey hd (hkk k), run_findKey hd h1, h2, h3, run_keyThatStays (hkk k), run_setObj_map _ hb, Result.andThen, setBlock]
    · have hkey : ∀ e', es[j]? = some e' → ({ e' with key := kk k, val := f v } : MapEntry).key = e'.key := fun e' he' => by rw [h2] at he'; cases he'; exact h3.symm
      refine ⟨_, _, (heap_set hb).1, stamped_modify hs _ _ (fun _ _ => rfl) (fun e' _ he' => hkey e' he'), isKey_modify hk _ _ hkey, ?_⟩
      rw [(assoc_at hn h5).2.1 v]
      apply List.ext_getElem?
      intro i
      have hi := congrArg (fun l => l[i]?) hL
      simp only [List.getElem?_map, Array.getElem?_toList] at hi
      simp only [List.getElem?_map, Array.getElem?_toList, Array.getElem?_modify, List.getElem?_set]
      by_cases hij : j = i
      · subst hij
        have hlt : j < L.length := (List.getElem?_eq_some_iff.1 h5).1
        simp [h2, hlt]
      · simp [hij, hi]

theorem MapIs.delete (hkk : ∀ x, IsKey d (kk x)) (inj : ∀ x y, kk x = kk y → x = y) {mt kt et : TypeId} (hm : P.underlying mt = some (.map kt et)) (hd : P.underlying kt = some d)
    (h : MapIs w r d kk f L) (k : κ) (ty : TypeId) :
    ∃ o, (Builtin.delete_ #[mt, kt] ty #[.map (some r), kk k]).run P w = .ok (.tuple #[]) (setBlock w r o) ∧ MapIs (setBlock w r o) r d kk f (adel L k) := by
  have hn := h.nodup inj
  obtain ⟨es, clock, hb, hs, hk, hL⟩ := h
  rcases MapIs.find hkk inj hk hL k with ⟨h1, h2, h3⟩ | ⟨j, e, b, h1, h2, h3, h4, h5⟩
  · refine ⟨.map es clock, ?_, ?_⟩
    · simp [Builtin.delete_, run_underlying hm, MapKept.run_getObj_map hb, run_checkKey hd (hkk k), run_findKey hd h1, run_setObj_map _ hb, Result.andThen, setBlock]
    · rw [adel_none h3]
      exact ⟨_, _, (heap_set hb).1, hs, hk, hL⟩
  · refine ⟨.map (es.eraseIdxIfInBounds j) clock, ?_, ?_⟩
    · simp [Builtin.delete_, run_underlying hm, MapKept.run_getObj_map hb, run_checkKey hd (hkk k), run_findKey hd h1, run_setObj_map _ hb, Result.andThen, setBlock]
    · have hlt : j < es.size := (Array.getElem?_eq_some_iff.1 h2).1
      have e1 : (es.eraseIdxIfInBounds j).toList = es.toList.eraseIdx j := by
        unfold Array.eraseIdxIfInBounds
        rw [dif_pos hlt, Array.toList_eraseIdx]
      refine ⟨_, _, (heap_set hb).1, stamped_erase hs _, ?_, ?_⟩
      · intro x hx
        rw [e1] at hx
        exact hk x ((List.eraseIdx_sublist _ _).subset hx)
      · rw [e1, (assoc_at hn h5).2.2]
        have hm2 : ∀ {α γ : Type} (g : α → γ) (l : List α) (i : Nat), (l.eraseIdx i).map g = (l.map g).eraseIdx i := by
          intro α γ g l
          induction l with
          | nil => intro i; simp
          | cons a t ih => intro i; cases i <;> simp [ih]
        rw [hm2, hm2, hL]

theorem MapIs.clear {mt kt et : TypeId} (hm : P.underlying mt = some (.map kt et)) (h : MapIs w r d kk f L) (ty : TypeId) :
    ∃ o, (Builtin.clear_ #[mt] ty #[.map (some r)]).run P w = .ok (.tuple #[]) (setBlock w r o) ∧ MapIs (setBlock w r o) r d kk f ([] : List (κ × β)) := by
  obtain ⟨es, clock, hb, hs, hk, hL⟩ := h
  refine ⟨.map #[] clock, ?_, ?_⟩
  · simp [Builtin.clear_, run_underlying hm, MapKept.run_getObj_map hb, run_setObj_map _ hb, Result.andThen, setBlock]
  · exact ⟨_, _, (heap_set hb).1, stamped_empty _, by simp, by simp⟩

theorem MapIs.len {mt kt et : TypeId} (hm : P.underlying mt = some (.map kt et)) (h : MapIs w r d kk f L) (ty : TypeId) :
    (Builtin.len_ #[mt] ty #[.map (some r)]).run P w = .ok (.int .i64 L.length) w := by
  obtain ⟨es, clock, hb, hs, hk, hL⟩ := h
  have e : es.size = L.length := by
    have := congrArg List.length hL
    simpa using this
  simp [Builtin.len_, run_underlying hm, MapKept.run_getObj_map hb, Result.andThen, e, goInt]
end

/-! ### at the operation, for the walk -/
section
variable {κ β : Type} [DecidableEq κ] {P : Program} (w : World) {ops : Array Oper} {rest : List Oper} {o : Oper} {a : Act} {Q : Exit → Act → World → Prop}
variable {r : Nat} {d : TypeDesc} {kk : κ → Value} {f : β → Value} {L : List (κ × β)}
/-- what a write into the map of block r leaves -/
structure Turned (r : Nat) (w w1 : World) : Prop where
  cell : ∀ c j, c ≠ r → w1.cell? ⟨c, j, none⟩ = w.cell? ⟨c, j, none⟩
  frozen : ∀ c j, c ≠ r → w1.frozen? ⟨c, j, none⟩ = w.frozen? ⟨c, j, none⟩
  size : w1.heap.size = w.heap.size
  block : ∀ c, c ≠ r → w1.heap[c]? = w.heap[c]?
  os : w1.os = w.os
  tape : w1.tape = w.tape
  output : w1.output = w.output
theorem Turned.mk' {w : World} (r : Nat) (o : Obj) : Turned r w (setBlock w r o) := by
  have hb : ∀ c, c ≠ r → (setBlock w r o).heap[c]? = w.heap[c]? := fun c hc => by
    show (w.heap.setIfInBounds r o)[c]? = _
    rw [Array.getElem?_setIfInBounds_ne (Ne.symm hc)]
  exact ⟨fun c j hc => World.cell?_of_block (hb c hc), fun c j hc => World.frozen?_of_block (hb c hc), by show (w.heap.setIfInBounds r o).size = _; rw [Array.size_setIfInBounds], hb, rfl, rfl, rfl⟩
theorem wpList_update_is (hg : o.guard = none) (m x v : Operand) (t : TypeId) (hop : o.op = Op.mapUpdate t m x v) (k e : TypeId) (ht : P.underlying t = some (.map k e)) (hd : P.underlying k = some d)
    (hkk : ∀ x, IsKey d (kk x)) (inj : ∀ x y, kk x = kk y → x = y) (hmi : MapIs w r d kk f L) (hm : a.eval m = .map (some r)) (key : κ) (hx : a.eval x = kk key) (b : β) (hv : a.eval v = f b)
    (hK : ∀ w1, MapIs w1 r d kk f (aset L key b) → Turned r w w1 → wpList P ops Q rest (a.put o.dst undef) w1) :
    wpList P ops Q (o :: rest) a w := by
  refine wpList_plain hg fun K' hK' => ?_
  obtain ⟨ob, hrun, r1⟩ := hmi.update hkk inj ht hd key b
  unfold Oper.wp
  simp [execOp, hop, hm, hx, hv, hrun, Result.andThen]
  exact hK' _ _ (hK _ r1 (Turned.mk' r ob))
theorem wpList_delete_is (hg : o.guard = none) (m x : Operand) (t k : TypeId) (hop : o.op = Op.call { callee := Callee.builtin Builtin.delete, args := #[m, x], argTypes := #[t, k] }) (e : TypeId) (ht : P.underlying t = some (.map k e)) (hd : P.underlying k = some d)
    (hkk : ∀ x, IsKey d (kk x)) (inj : ∀ x y, kk x = kk y → x = y) (hmi : MapIs w r d kk f L) (hm : a.eval m = .map (some r)) (key : κ) (hx : a.eval x = kk key)
    (hK : ∀ w1, MapIs w1 r d kk f (adel L key) → Turned r w w1 → wpList P ops Q rest (a.put o.dst (.tuple #[])) w1) :
    wpList P ops Q (o :: rest) a w := by
  refine wpList_plain hg fun K' hK' => ?_
  obtain ⟨ob, hrun, r1⟩ := hmi.delete hkk inj ht hd key o.type
  unfold Oper.wp
  simp [execOp, hop, resolve, invoke, builtin, hm, hx, hrun, Result.andThen]
  exact hK' _ _ (hK _ r1 (Turned.mk' r ob))
theorem wpList_clear_is (hg : o.guard = none) (m : Operand) (t k : TypeId) (hop : o.op = Op.call { callee := Callee.builtin Builtin.clear, args := #[m], argTypes := #[t] }) (e : TypeId) (ht : P.underlying t = some (.map k e))
    (hmi : MapIs w r d kk f L) (hm : a.eval m = .map (some r))
    (hK : ∀ w1, MapIs w1 r d kk f ([] : List (κ × β)) → Turned r w w1 → wpList P ops Q rest (a.put o.dst (.tuple #[])) w1) :
    wpList P ops Q (o :: rest) a w := by
  refine wpList_plain hg fun K' hK' => ?_
  obtain ⟨ob, hrun, r1⟩ := hmi.clear ht o.type
  unfold Oper.wp
  simp [execOp, hop, resolve, invoke, builtin, hm, hrun, Result.andThen]
  exact hK' _ _ (hK _ r1 (Turned.mk' r ob))
end

/-! ### ranging over a map that does not change -/
/-- block it is an iterator over the map in block r; the entries of 'rem' are still to come -/
def IterIs (w : World) (it r : Nat) (es : Array MapEntry) (clock : Nat) (rem : List MapEntry) : Prop :=
  ∃ seen, w.heap[it]? = some (.mapIter (some r) clock seen clock) ∧ w.heap[r]? = some (.map es clock) ∧ Stamped es clock ∧ rem = es.toList.filter (fun e => !seen.contains e.born)
theorem IterIs.start {w : World} {r : Nat} {es : Array MapEntry} {clock : Nat} (hb : w.heap[r]? = some (.map es clock)) (hs : Stamped es clock) :
    IterIs (w.alloc (.mapIter (some r) clock #[] clock)) w.heap.size r es clock es.toList := by
  have hnil : es.toList = es.toList.filter (fun e => !(#[] : Array Nat).contains e.born) := (List.filter_eq_self.2 (by simp)).symm
  have hlt : r < w.heap.size := (Array.getElem?_eq_some_iff.1 hb).1
  exact ⟨#[], (heap_alloc w _).1, ((heap_alloc w _).2 r hlt).trans hb, hs, hnil⟩
theorem IterIs.next {P : Program} {w : World} {it r : Nat} {es : Array MapEntry} {clock : Nat} {rem : List MapEntry} (h : IterIs w it r es clock rem) (ty : TypeId) :
    (rem = [] ∧ (Instr.next (.pointer (some ⟨it, 0, none⟩)) false ty).run P w = .ok (.tuple #[.bool false]) w) ∨
    ∃ e w3, e ∈ rem ∧ (Instr.next (.pointer (some ⟨it, 0, none⟩)) false ty).run P w = .ok (.tuple #[.bool true, e.key, e.val]) w3 ∧
      (Instr.entry (.pointer (some ⟨it, 0, none⟩))).run P w3 = .ok (.tuple #[e.key, e.val]) w3 ∧
      IterIs w3 it r es clock (rem.filter (fun x => x.born != e.born)) ∧ Turned it w w3 := by
  obtain ⟨seen, h1, h2, h3, h4⟩ := h
  have hl : (leftOf es seen).toList = rem := by rw [h4]; unfold leftOf; rw [Array.toList_filter]
  rcases run_next_at (P := P) w ty it r clock clock seen es clock h1 h2 h3.1 (Nat.le_refl _) with ⟨h5, h6⟩ | ⟨e, he, w1, hw1, hrun⟩
  · refine .inl ⟨?_, h6⟩
    rw [← hl]
    exact List.eq_nil_of_length_eq_zero (by simpa using h5)
  · rw [hl] at he
    have hne : r ≠ it := by rintro rfl; rw [h1] at h2; simp at h2
    have i1 : w1.heap[it]? = some (.mapIter (some r) clock seen clock) := by rcases hw1 with rfl | rfl <;> exact h1
    have i2 : w1.heap[r]? = some (.map es clock) := by rcases hw1 with rfl | rfl <;> exact h2
    have j1 : (setBlock w1 it (.mapIter (some r) clock (seen.push e.born) clock)).heap[it]? = some (.mapIter (some r) clock (seen.push e.born) clock) := (heap_set i1).1
    have j2 : (setBlock w1 it (.mapIter (some r) clock (seen.push e.born) clock)).heap[r]? = some (.map es clock) := ((heap_set i1).2 r hne).trans i2
    have hmem : e ∈ es.toList := by rw [h4] at he; exact (List.mem_filter.1 he).1
    refine .inr ⟨e, _, he, hrun, run_entry_at _ it r clock seen es clock e j1 j2 hmem h3.2.1, ⟨seen.push e.born, j1, j2, h3, ?_⟩, ?_⟩
    · rw [h4, List.filter_filter]
      apply List.filter_congr
      intro x hx
      simp only [Array.contains_push, Bool.not_or]
      cases h : (x.born == e.born) <;> simp [bne, h]
    · have ht := Turned.mk' (w := w1) it (.mapIter (some r) clock (seen.push e.born) clock)
      rcases hw1 with rfl | rfl
      · exact ht
      · exact ⟨ht.cell, ht.frozen, ht.size, ht.block, ht.os, ht.tape, ht.output⟩
end Go.Proofs.Ytagfghihnkkfiaa
