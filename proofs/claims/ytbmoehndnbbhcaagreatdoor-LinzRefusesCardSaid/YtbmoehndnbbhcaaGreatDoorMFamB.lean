/- Maps of the heap as association lists: the laws of the operations. No program in sight. The family of maps of package model: its state in plain Lean, and how it lies in memory. How a change of one part leaves a family; small facts on blocks. -/
import Derived.WalkKit
import Derived.MapKept
import Derived.Maps.RangeRun
import Derived.Test.YtbmoehndnbbhcaaGreatDoorProg
import Derived.Test.YtbmoehndnbbhcaaGreatDoorMOrder
import Derived.KernelRfl
import Derived.Deep.Draws
namespace Go.Proofs.YtbmoehndnbbhcaaGreatDoor
set_option linter.unusedVariables false
set_option linter.unusedSimpArgs false
set_option linter.unusedSectionVars false
open Go.RowKit Go.MapKept
open Go.ChangeMaps (setBlock)

section Assoc
variable {κ β : Type} [DecidableEq κ]
def alook : List (κ × β) → κ → Option β
  | [], _ => none
  | (a, b) :: r, k => if a = k then some b else alook r k
def aset : List (κ × β) → κ → β → List (κ × β)
  | [], k, v => [(k, v)]
  | (a, b) :: r, k, v => if a = k then (k, v) :: r else (a, b) :: aset r k v
def adel : List (κ × β) → κ → List (κ × β)
  | [], _ => []
  | (a, b) :: r, k => if a = k then r else (a, b) :: adel r k

theorem alook_none {L : List (κ × β)} {k : κ} (h : ∀ p ∈ L, p.1 ≠ k) : alook L k = none := by
  induction L with
  | nil => rfl
  | cons p r ih =>
    obtain ⟨a, b⟩ := p
    have h1 : a ≠ k := h (a, b) (.head _)
    simp only [alook, if_neg h1]
    exact ih fun q hq => h q (.tail _ hq)
theorem aset_new {L : List (κ × β)} {k : κ} {v : β} (h : ∀ p ∈ L, p.1 ≠ k) : aset L k v = L ++ [(k, v)] := by
  induction L with
  | nil => rfl
  | cons p r ih =>
    obtain ⟨a, b⟩ := p
    have h1 : a ≠ k := h (a, b) (.head _)
    simp only [aset, if_neg h1, List.cons_append]
    rw [ih fun q hq => h q (.tail _ hq)]
theorem adel_none {L : List (κ × β)} {k : κ} (h : ∀ p ∈ L, p.1 ≠ k) : adel L k = L := by
  induction L with
  | nil => rfl
  | cons p r ih =>
    obtain ⟨a, b⟩ := p
    have h1 : a ≠ k := h (a, b) (.head _)
    simp only [adel, if_neg h1]
    rw [ih fun q hq => h q (.tail _ hq)]
theorem assoc_at {L : List (κ × β)} (hn : (L.map (·.1)).Nodup) {k : κ} {b : β} : ∀ {j : Nat}, L[j]? = some (k, b) →
    alook L k = some b ∧ (∀ v, aset L k v = L.set j (k, v)) ∧ adel L k = L.eraseIdx j := by
  induction L with
  | nil => intro j h; simp at h
  | cons p r ih =>
    obtain ⟨a, b'⟩ := p
    intro j h
    simp only [List.map_cons, List.nodup_cons] at hn
    cases j with
    | zero =>
      simp only [List.getElem?_cons_zero, Option.some.injEq, Prod.mk.injEq] at h
      obtain ⟨rfl, rfl⟩ := h
      simp [alook, aset, adel]
    | succ j =>
      simp only [List.getElem?_cons_succ] at h
      have hne : a ≠ k := fun he => hn.1 (he ▸ List.mem_map.2 ⟨(k, b), List.mem_of_getElem? h, rfl⟩)
      obtain ⟨i1, i2, i3⟩ := ih hn.2 h
      simp only [alook, aset, adel, if_neg hne, List.set_cons_succ, List.eraseIdx_cons_succ]
      exact ⟨i1, fun v => by rw [i2], by rw [i3]⟩
end Assoc

section
variable {κ β : Type} [DecidableEq κ]
/-- block r is a map that holds the list L, in the order of the insertions -/
def MapIs (w : World) (r : Nat) (d : TypeDesc) (kk : κ → Value) (f : β → Value) (L : List (κ × β)) : Prop :=
  ∃ es clock, w.heap[r]? = some (.map es clock) ∧ Stamped es clock ∧ (∀ x ∈ es.toList, IsKey d x.key) ∧ es.toList.map (fun e => (e.key, e.val)) = L.map (fun p => (kk p.1, f p.2))

variable {P : Program} {w : World} {r : Nat} {d : TypeDesc} {kk : κ → Value} {f : β → Value} {L : List (κ × β)}

theorem MapIs.lt (h : MapIs w r d kk f L) : r < w.heap.size := by
  obtain ⟨es, clock, hb, _⟩ := h
  exact (Array.getElem?_eq_some_iff.1 hb).1
theorem MapIs.of_block {w' : World} (h : MapIs w r d kk f L) (hb : w'.heap[r]? = w.heap[r]?) : MapIs w' r d kk f L := by
  obtain ⟨es, clock, h1, h2⟩ := h
  exact ⟨es, clock, hb.trans h1, h2⟩
theorem MapIs.made (w : World) (d : TypeDesc) (kk : κ → Value) (f : β → Value) : MapIs (w.alloc (.map #[] 0)) w.heap.size d kk f [] :=
  ⟨#[], 0, (heap_alloc w _).1, stamped_empty _, by simp, by simp⟩
theorem MapIs.nodup (inj : ∀ x y, kk x = kk y → x = y) (h : MapIs w r d kk f L) : (L.map (·.1)).Nodup := by
  obtain ⟨es, clock, hb, hs, hk, hL⟩ := h
  have h3 : (es.toList.map (·.key)).Nodup := hs.2.2
  have e1 : es.toList.map (·.key) = (L.map (·.1)).map kk := by
    have := congrArg (List.map Prod.fst) hL
    simpa [List.map_map, Function.comp_def] using this
  rw [e1] at h3
  have hp : ∀ l : List κ, (l.map kk).Nodup → l.Nodup := by
    intro l
    induction l with
    | nil => intro _; exact List.nodup_nil
    | cons a t ih =>
      intro h
      simp only [List.map_cons, List.nodup_cons] at h ⊢
      exact ⟨fun hm => h.1 (List.mem_map.2 ⟨a, hm, rfl⟩), ih h.2⟩
  exact hp _ h3
theorem MapIs.find (hkk : ∀ x, IsKey d (kk x)) (inj : ∀ x y, kk x = kk y → x = y) {es : Array MapEntry} (hk : ∀ x ∈ es.toList, IsKey d x.key)
    (hL : es.toList.map (fun e => (e.key, e.val)) = L.map (fun p => (kk p.1, f p.2))) (k : κ) :
    (Instr.findNow d (kk k) es.toList 0 = some none ∧ (∀ x ∈ es.toList, x.key ≠ kk k) ∧ ∀ p ∈ L, p.1 ≠ k) ∨
    ∃ j e b, Instr.findNow d (kk k) es.toList 0 = some (some (j, f b)) ∧ es[j]? = some e ∧ e.key = kk k ∧ e.val = f b ∧ L[j]? = some (k, b) := by
  rcases findNow_spec (hkk k) es.toList 0 hk with ⟨h1, h2⟩ | ⟨j, e, h1, h2, h3⟩
  · refine .inl ⟨h1, h2, fun p hp he => ?_⟩
    have hm : (kk p.1, f p.2) ∈ es.toList.map (fun e => (e.key, e.val)) := hL ▸ List.mem_map.2 ⟨p, hp, rfl⟩
    obtain ⟨x, hx, hxe⟩ := List.mem_map.1 hm
    simp only [Prod.mk.injEq] at hxe
    exact h2 x hx (by rw [hxe.1, he])
  · have hg := congrArg (fun l => l[j]?) hL
    simp only [List.getElem?_map, h2, Option.map_some] at hg
    cases hl : L[j]? with
    | none => rw [hl] at hg; simp at hg
    | some p =>
      rw [hl] at hg
      simp only [Option.map_some, Option.some.injEq, Prod.mk.injEq] at hg
      have hp : p.1 = k := inj _ _ (hg.1.symm.trans h3)
      obtain ⟨a, b⟩ := p
      simp only at hp hg
      subst hp
      exact .inr ⟨j, e, b, by rw [h1, Nat.zero_add, hg.2], by simpa using h2, h3, hg.2, hl⟩

/-- what a look-up hands out -/
def outOf (z : Value) (f : β → Value) : Option β → Value
  | none => z
  | some b => f b

theorem MapIs.lookup (hkk : ∀ x, IsKey d (kk x)) (inj : ∀ x y, kk x = kk y → x = y) {mt kt et : TypeId} (hm : P.underlying mt = some (.map kt et)) (hd : P.underlying kt = some d) {z : Value} (hz : (zeroValue et).run P w = .ok z w)
    (h : MapIs w r d kk f L) (k : κ) (c : Bool) :
    (Instr.lookup mt (.map (some r)) (kk k) c).run P w = .ok (if c then .tuple #[outOf z f (alook L k), .bool (alook L k).isSome] else outOf z f (alook L k)) w := by
  have hn := h.nodup inj
  obtain ⟨es, clock, hb, hs, hk, hL⟩ := h
  rcases MapIs.find hkk inj hk hL k with ⟨h1, h2, h3⟩ | ⟨j, e, b, h1, h2, h3, h4, h5⟩
  · rw [alook_none h3]
    cases c <;> simp [Instr.lookup, run_underlying hm, MapKept.run_getObj_map hb, run_checkKey hd (hkk k), run_findKey hd h1, hz, outOf, Result.andThen]
  · rw [(assoc_at hn h5).1]
    cases c <;> simp [Instr.lookup, run_underlying hm, MapKept.run_getObj_map hb, run_checkKey hd (hkk k), run_findKey hd h1, outOf, Result.andThen]

theorem MapIs.update (hkk : ∀ x, IsKey d (kk x)) (inj : ∀ x y, kk x = kk y → x = y) {mt kt et : TypeId} (hm : P.underlying mt = some (.map kt et)) (hd : P.underlying kt = some d)
    (h : MapIs w r d kk f L) (k : κ) (v : β) :
    ∃ o, (Instr.mapUpdate mt (.map (some r)) (kk k) (f v)).run P w = .ok () (setBlock w r o) ∧ MapIs (setBlock w r o) r d kk f (aset L k v) := by
  have hn := h.nodup inj
  obtain ⟨es, clock, hb, hs, hk, hL⟩ := h
  rcases MapIs.find hkk inj hk hL k with ⟨h1, h2, h3⟩ | ⟨j, e, b, h1, h2, h3, h4, h5⟩
  · refine ⟨.map (es.push { key := kk k, val := f v, born := clock }) (clock + 1), ?_, ?_⟩
    · simp [Instr.mapUpdate, run_underlying hm, MapKept.run_getObj_map hb, run_checkKey hd (hkk k), run_findKey hd h1, run_setObj_map _ hb, Result.andThen, setBlock]
    · rw [aset_new h3]
      refine ⟨_, _, (heap_set hb).1, stamped_push hs h2, ?_, ?_⟩
      · intro x hx
        simp only [Array.toList_push, List.mem_append, List.mem_singleton] at hx
        rcases hx with hx | rfl
        · exact hk x hx
        · exact hkk k
      · simp [hL]
  · refine ⟨.map (es.modify j fun e => { e with key := kk k, val := f v }) clock, ?_, ?_⟩
    · simp [Instr.mapUpdate, run_underlying hm, MapKept.run_getObj_map hb, run_checkKey hd (hkk k), run_findKey hd h1, h2, h3, run_keyThatStays (hkk k), run_setObj_map _ hb, Result.andThen, setBlock]
    · have hkey : ∀ e', es[j]? = some e' → ({ e' with key := kk k, val := f v } : MapEntry).key = e'.key := fun e' he' => by rw [h2] at he'; cases he'; exact h3.symm
      refine ⟨_, _, (heap_set hb).1, stamped_modify hs _ _ (fun _ _ => rfl) (fun e' _ he' => hkey e' he'), isKey_modify hk _ _ hkey, ?_⟩
      rw [(assoc_at hn h5).2.1 v]
      apply List.ext_getElem?
      intro i
      have hi := congrArg (fun l => l[i]?) hL
      simp only [List.getElem?_map, Array.getElem?_toList] at hi
      simp only [List.getElem?_map, Array.getElem?_toList, Array.getElem?_modify, List.getElem?_set]
      by_cases hij : j = i
      · subst hij
        have hlt : j < L.length := (List.getElem?_eq_some_iff.1 h5).1
        simp [h2, hlt]
      · simp [hij, hi]

theorem MapIs.delete (hkk : ∀ x, IsKey d (kk x)) (inj : ∀ x y, kk x = kk y → x = y) {mt kt et : TypeId} (hm : P.underlying mt = some (.map kt et)) (hd : P.underlying kt = some d)
    (h : MapIs w r d kk f L) (k : κ) (ty : TypeId) :
    ∃ o, (Builtin.delete_ #[mt, kt] ty #[.map (some r), kk k]).run P w = .ok (.tuple #[]) (setBlock w r o) ∧ MapIs (setBlock w r o) r d kk f (adel L k) := by
  have hn := h.nodup inj
  obtain ⟨es, clock, hb, hs, hk, hL⟩ := h
  rcases MapIs.find hkk inj hk hL k with ⟨h1, h2, h3⟩ | ⟨j, e, b, h1, h2, h3, h4, h5⟩
  · refine ⟨.map es clock, ?_, ?_⟩
    · simp [Builtin.delete_, run_underlying hm, MapKept.run_getObj_map hb, run_checkKey hd (hkk k), run_findKey hd h1, run_setObj_map _ hb, Result.andThen, setBlock]
    · rw [adel_none h3]
      exact ⟨_, _, (heap_set hb).1, hs, hk, hL⟩
  · refine ⟨.map (es.eraseIdxIfInBounds j) clock, ?_, ?_⟩
    · simp [Builtin.delete_, run_underlying hm, MapKept.run_getObj_map hb, run_checkKey hd (hkk k), run_findKey hd h1, run_setObj_map _ hb, Result.andThen, setBlock]
    · have hlt : j < es.size := (Array.getElem?_eq_some_iff.1 h2).1
      have e1 : (es.eraseIdxIfInBounds j).toList = es.toList.eraseIdx j := by
        unfold Array.eraseIdxIfInBounds
        rw [dif_pos hlt, Array.toList_eraseIdx]
      refine ⟨_, _, (heap_set hb).1, stamped_erase hs _, ?_, ?_⟩
      · intro x hx
        rw [e1] at hx
        exact hk x ((List.eraseIdx_sublist _ _).subset hx)
      · rw [e1, (assoc_at hn h5).2.2]
        have hm2 : ∀ {α γ : Type} (g : α → γ) (l : List α) (i : Nat), (l.eraseIdx i).map g = (l.map g).eraseIdx i := by
          intro α γ g l
          induction l with
          | nil => intro i; simp
          | cons a t ih => intro i; cases i <;> simp [ih]
        rw [hm2, hm2, hL]

theorem MapIs.clear {mt kt et : TypeId} (hm : P.underlying mt = some (.map kt et)) (h : MapIs w r d kk f L) (ty : TypeId) :
    ∃ o, (Builtin.clear_ #[mt] ty #[.map (some r)]).run P w = .ok (.tuple #[]) (setBlock w r o) ∧ MapIs (setBlock w r o) r d kk f ([] : List (κ × β)) := by
  obtain ⟨es, clock, hb, hs, hk, hL⟩ := h
  refine ⟨.map #[] clock, ?_, ?_⟩
  · simp [Builtin.clear_, run_underlying hm, MapKept.run_getObj_map hb, run_setObj_map _ hb, Result.andThen, setBlock]
  · exact ⟨_, _, (heap_set hb).1, stamped_empty _, by simp, by simp⟩

theorem MapIs.len {mt kt et : TypeId} (hm : P.underlying mt = some (.map kt et)) (h : MapIs w r d kk f L) (ty : TypeId) :
    (Builtin.len_ #[mt] ty #[.map (some r)]).run P w = .ok (.int .i64 L.length) w := by
  obtain ⟨es, clock, hb, hs, hk, hL⟩ := h
  have e : es.size = L.length := by
    have := congrArg List.length hL
    simpa using this
  simp [Builtin.len_, run_underlying hm, MapKept.run_getObj_map hb, Result.andThen, e, goInt]
end

/-! ### at the operation, for the walk -/
section
variable {κ β : Type} [DecidableEq κ] {P : Program} (w : World) {ops : Array Oper} {rest : List Oper} {o : Oper} {a : Act} {Q : Exit → Act → World → Prop}
variable {r : Nat} {d : TypeDesc} {kk : κ → Value} {f : β → Value} {L : List (κ × β)}
/-- what a write into the map of block r leaves -/
structure Turned (r : Nat) (w w1 : World) : Prop where
  cell : ∀ c j, c ≠ r → w1.cell? ⟨c, j, none⟩ = w.cell? ⟨c, j, none⟩
  frozen : ∀ c j, c ≠ r → w1.frozen? ⟨c, j, none⟩ = w.frozen? ⟨c, j, none⟩
  size : w1.heap.size = w.heap.size
  block : ∀ c, c ≠ r → w1.heap[c]? = w.heap[c]?
  os : w1.os = w.os
  tape : w1.tape = w.tape
  output : w1.output = w.output
theorem Turned.mk' {w : World} (r : Nat) (o : Obj) : Turned r w (setBlock w r o) := by
  have hb : ∀ c, c ≠ r → (setBlock w r o).heap[c]? = w.heap[c]? := fun c hc => by
    show (w.heap.setIfInBounds r o)[c]? = _
    rw [Array.getElem?_setIfInBounds_ne (Ne.symm hc)]
  exact ⟨fun c j hc => World.cell?_of_block (hb c hc), fun c j hc => World.frozen?_of_block (hb c hc), by show (w.heap.setIfInBounds r o).size = _; rw [Array.size_setIfInBounds], hb, rfl, rfl, rfl⟩
theorem wpList_update_is (hg : o.guard = none) (m x v : Operand) (t : TypeId) (hop : o.op = Op.mapUpdate t m x v) (k e : TypeId) (ht : P.underlying t = some (.map k e)) (hd : P.underlying k = some d)
    (hkk : ∀ x, IsKey d (kk x)) (inj : ∀ x y, kk x = kk y → x = y) (hmi : MapIs w r d kk f L) (hm : a.eval m = .map (some r)) (key : κ) (hx : a.eval x = kk key) (b : β) (hv : a.eval v = f b)
    (hK : ∀ w1, MapIs w1 r d kk f (aset L key b) → Turned r w w1 → wpList P ops Q rest (a.put o.dst undef) w1) :
    wpList P ops Q (o :: rest) a w := by
  refine wpList_plain hg fun K' hK' => ?_
  obtain ⟨ob, hrun, r1⟩ := hmi.update hkk inj ht hd key b
  unfold Oper.wp
  simp [execOp, hop, hm, hx, hv, hrun, Result.andThen]
  exact hK' _ _ (hK _ r1 (Turned.mk' r ob))
theorem wpList_delete_is (hg : o.guard = none) (m x : Operand) (t k : TypeId) (hop : o.op = Op.call { callee := Callee.builtin Builtin.delete, args := #[m, x], argTypes := #[t, k] }) (e : TypeId) (ht : P.underlying t = some (.map k e)) (hd : P.underlying k = some d)
    (hkk : ∀ x, IsKey d (kk x)) (inj : ∀ x y, kk x = kk y → x = y) (hmi : MapIs w r d kk f L) (hm : a.eval m = .map (some r)) (key : κ) (hx : a.eval x = kk key)
    (hK : ∀ w1, MapIs w1 r d kk f (adel L key) → Turned r w w1 → wpList P ops Q rest (a.put o.dst (.tuple #[])) w1) :
    wpList P ops Q (o :: rest) a w := by
  refine wpList_plain hg fun K' hK' => ?_
  obtain ⟨ob, hrun, r1⟩ := hmi.delete hkk inj ht hd key o.type
  unfold Oper.wp
  simp [execOp, hop, resolve, invoke, builtin, hm, hx, hrun, Result.andThen]
  exact hK' _ _ (hK _ r1 (Turned.mk' r ob))
theorem wpList_clear_is (hg : o.guard = none) (m : Operand) (t k : TypeId) (hop : o.op = Op.call { callee := Callee.builtin Builtin.clear, args := #[m], argTypes := #[t] }) (e : TypeId) (ht : P.underlying t = some (.map k e))
    (hmi : MapIs w r d kk f L) (hm : a.eval m = .map (some r))
    (hK : ∀ w1, MapIs w1 r d kk f ([] : List (κ × β)) → Turned r w w1 → wpList P ops Q rest (a.put o.dst (.tuple #[])) w1) :
    wpList P ops Q (o :: rest) a w := by
  refine wpList_plain hg fun K' hK' => ?_
  obtain ⟨ob, hrun, r1⟩ := hmi.clear ht o.type
  unfold Oper.wp
  simp [execOp, hop, resolve, invoke, builtin, hm, hrun, Result.andThen]
  exact hK' _ _ (hK _ r1 (Turned.mk' r ob))
end

/-! ### ranging over a map that does not change -/
/-- block it is an iterator over the map in block r; the entries of 'rem' are still to come -/
def IterIs (w : World) (it r : Nat) (es : Array MapEntry) (clock : Nat) (rem : List MapEntry) : Prop :=
  ∃ seen, w.heap[it]? = some (.mapIter (some r) clock seen clock) ∧ w.heap[r]? = some (.map es clock) ∧ Stamped es clock ∧ rem = es.toList.filter (fun e => !seen.contains e.born)
theorem IterIs.start {w : World} {r : Nat} {es : Array MapEntry} {clock : Nat} (hb : w.heap[r]? = some (.map es clock)) (hs : Stamped es clock) :
    IterIs (w.alloc (.mapIter (some r) clock #[] clock)) w.heap.size r es clock es.toList := by
  have hnil : es.toList = es.toList.filter (fun e => !(#[] : Array Nat).contains e.born) := (List.filter_eq_self.2 (by simp)).symm
  have hlt : r < w.heap.size := (Array.getElem?_eq_some_iff.1 hb).1
  exact ⟨#[], (heap_alloc w _).1, ((heap_alloc w _).2 r hlt).trans hb, hs, hnil⟩
theorem IterIs.next {P : Program} {w : World} {it r : Nat} {es : Array MapEntry} {clock : Nat} {rem : List MapEntry} (h : IterIs w it r es clock rem) (ty : TypeId) :
    (rem = [] ∧ (Instr.next (.pointer (some ⟨it, 0, none⟩)) false ty).run P w = .ok (.tuple #[.bool false]) w) ∨
    ∃ e w3, e ∈ rem ∧ (Instr.next (.pointer (some ⟨it, 0, none⟩)) false ty).run P w = .ok (.tuple #[.bool true, e.key, e.val]) w3 ∧
      (Instr.entry (.pointer (some ⟨it, 0, none⟩))).run P w3 = .ok (.tuple #[e.key, e.val]) w3 ∧
      IterIs w3 it r es clock (rem.filter (fun x => x.born != e.born)) ∧ Turned it w w3 := by
  obtain ⟨seen, h1, h2, h3, h4⟩ := h
  have hl : (leftOf es seen).toList = rem := by rw [h4]; unfold leftOf; rw [Array.toList_filter]
  rcases run_next_at (P := P) w ty it r clock clock seen es clock h1 h2 h3.1 (Nat.le_refl _) with ⟨h5, h6⟩ | ⟨e, he, w1, hw1, hrun⟩
  · refine .inl ⟨?_, h6⟩
    rw [← hl]
    exact List.eq_nil_of_length_eq_zero (by simpa using h5)
  · rw [hl] at he
    have hne : r ≠ it := by rintro rfl; rw [h1] at h2; simp at h2
    have i1 : w1.heap[it]? = some (.mapIter (some r) clock seen clock) := by rcases hw1 with rfl | rfl <;> exact h1
    have i2 : w1.heap[r]? = some (.map es clock) := by rcases hw1 with rfl | rfl <;> exact h2
    have j1 : (setBlock w1 it (.mapIter (some r) clock (seen.push e.born) clock)).heap[it]? = some (.mapIter (some r) clock (seen.push e.born) clock) := (heap_set i1).1
    have j2 : (setBlock w1 it (.mapIter (some r) clock (seen.push e.born) clock)).heap[r]? = some (.map es clock) := ((heap_set i1).2 r hne).trans i2
    have hmem : e ∈ es.toList := by rw [h4] at he; exact (List.mem_filter.1 he).1
    refine .inr ⟨e, _, he, hrun, run_entry_at _ it r clock seen es clock e j1 j2 hmem h3.2.1, ⟨seen.push e.born, j1, j2, h3, ?_⟩, ?_⟩
    · rw [h4, List.filter_filter]
      apply List.filter_congr
      intro x hx
      simp only [Array.contains_push, Bool.not_or]
      cases h : (x.born == e.born) <;> simp [bne, h]
    · have ht := Turned.mk' (w := w1) it (.mapIter (some r) clock (seen.push e.born) clock)
      rcases hw1 with rfl | rfl
      · exact ht
      · exact ⟨ht.cell, ht.frozen, ht.size, ht.block, ht.os, ht.tape, ht.output⟩
end Go.Proofs.YtbmoehndnbbhcaaGreatDoor
namespace Go.Proofs.YtbmoehndnbbhcaaGreatDoor
set_option linter.unusedVariables false
set_option linter.unusedSimpArgs false
open Go.RowKit Go.MapKept
open Go.ChangeMaps (setBlock)

/-! ### what may change -/
structure Only (S : Nat → Prop) (w w' : World) : Prop where
  os : w'.os = w.os
  tape : w'.tape = w.tape
  output : w'.output = w.output
  size : w.heap.size ≤ w'.heap.size
  block : ∀ k, k < w.heap.size → ¬ S k → w'.heap[k]? = w.heap[k]?
theorem Only.refl (S : Nat → Prop) (w : World) : Only S w w := ⟨rfl, rfl, rfl, Nat.le_refl _, fun _ _ _ => rfl⟩
theorem Only.trans {S T : Nat → Prop} {a b c : World} (h : Only S a b) (k : Only T b c) (hs : ∀ i, T i → S i ∨ a.heap.size ≤ i) : Only S a c :=
  ⟨k.os.trans h.os, k.tape.trans h.tape, k.output.trans h.output, Nat.le_trans h.size k.size, fun i hi hn =>
    (k.block i (Nat.lt_of_lt_of_le hi h.size) (fun ht => (hs i ht).elim hn (fun hh => absurd hi (by omega)))).trans (h.block i hi hn)⟩
theorem Only.mono {S T : Nat → Prop} {a b : World} (h : Only S a b) (hs : ∀ i, S i → T i) : Only T a b :=
  ⟨h.os, h.tape, h.output, h.size, fun i hi hn => h.block i hi fun hh => hn (hs i hh)⟩
theorem Only.drew {S : Nat → Prop} {a b : World} (h : Only S a b) : Only S a b.drew := ⟨h.os, h.tape, h.output, h.size, h.block⟩
theorem Only.drewN {S : Nat → Prop} {a b : World} (h : Only S a b) (n : Nat) : Only S a (b.drewN n) := ⟨h.os, h.tape, h.output, h.size, h.block⟩
theorem Only.alloc {S : Nat → Prop} {a b : World} (h : Only S a b) (o : Obj) : Only S a (b.alloc o) :=
  ⟨h.os, h.tape, h.output, by show a.heap.size ≤ (b.heap.push o).size; rw [Array.size_push]; have := h.size; omega, fun i hi hn =>
    (Below.heap_alloc b o i (Nat.lt_of_lt_of_le hi h.size)).trans (h.block i hi hn)⟩
theorem Only.setCell {S : Nat → Prop} {a b : World} (h : Only S a b) {p : Addr} (hp : S p.block ∨ a.heap.size ≤ p.block) (u : Value) : Only S a (b.setCell p u) :=
  ⟨h.os, h.tape, h.output, by show a.heap.size ≤ (b.heap.modify _ _).size; rw [Array.size_modify]; exact h.size, fun i hi hn =>
    (Below.heap_setCell b p u i (fun e => by subst e; rcases hp with hp | hp; exact hn hp; omega)).trans (h.block i hi hn)⟩
theorem Only.setBlock {S : Nat → Prop} {a b : World} (h : Only S a b) {r : Nat} (hp : S r ∨ a.heap.size ≤ r) (o : Obj) : Only S a (setBlock b r o) :=
  ⟨h.os, h.tape, h.output, by show a.heap.size ≤ (b.heap.setIfInBounds r o).size; rw [Array.size_setIfInBounds]; exact h.size, fun i hi hn => by
    have hne : r ≠ i := fun e => by subst e; rcases hp with hp | hp; exact hn hp; omega
    show (b.heap.setIfInBounds r o)[i]? = _
    rw [Array.getElem?_setIfInBounds_ne hne]
    exact h.block i hi hn⟩
theorem Only.of_below {S : Nat → Prop} {a b : World} (h : Below a.heap.size a b) : Only S a b := ⟨h.os, h.tape, h.output, h.size, fun i hi _ => h.block i hi⟩
theorem Only.below {S : Nat → Prop} {a b : World} (h : Only S a b) {B : Nat} (hB : B ≤ a.heap.size) (hs : ∀ i, S i → B ≤ i) : Below B a b :=
  ⟨h.os, h.tape, h.output, h.size, fun i hi => h.block i (by omega) fun hh => by have := hs i hh; omega⟩
theorem Only.of_grown {S : Nat → Prop} {a b : World} {row : Option Nat} (h : a.grownBy b row) (hr : ∀ k, row = some k → S k ∨ a.heap.size ≤ k) : Only S a b :=
  ⟨h.os, h.tape, h.output, h.size, fun i hi hn => h.block i hi fun e => (hr i e.symm).elim hn (fun hh => by omega)⟩

theorem Only.turned {S : Nat → Prop} {a b c : World} (h : Only S a b) {r : Nat} (ht : Turned r b c) (hp : S r ∨ a.heap.size ≤ r) : Only S a c :=
  ⟨ht.os.trans h.os, ht.tape.trans h.tape, ht.output.trans h.output, by rw [ht.size]; exact h.size, fun i hi hn =>
    (ht.block i (fun e => by subst e; rcases hp with hp | hp; exact hn hp; omega)).trans (h.block i hi hn)⟩
theorem MapIs.alloc {κ β : Type} [DecidableEq κ] {w : World} {r : Nat} {d : TypeDesc} {kk : κ → Value} {f : β → Value} {L : List (κ × β)} (h : MapIs w r d kk f L) (o : Obj) : MapIs (w.alloc o) r d kk f L := h.of_block (Below.heap_alloc w o r h.lt)
theorem MapIs.drew {κ β : Type} [DecidableEq κ] {w : World} {r : Nat} {d : TypeDesc} {kk : κ → Value} {f : β → Value} {L : List (κ × β)} (h : MapIs w r d kk f L) : MapIs w.drew r d kk f L := h

theorem MapIs.setCell {κ β : Type} [DecidableEq κ] {w : World} {r : Nat} {d : TypeDesc} {kk : κ → Value} {f : β → Value} {L : List (κ × β)} (h : MapIs w r d kk f L) {p : Addr} (hp : r ≠ p.block) (u : Value) : MapIs (w.setCell p u) r d kk f L := h.of_block (Below.heap_setCell w p u r hp)

theorem MapIs.setAt {κ β : Type} [DecidableEq κ] {w : World} {r : Nat} {d : TypeDesc} {kk : κ → Value} {f : β → Value} {L : List (κ × β)} (h : MapIs w r d kk f L) {b j : Nat} (hp : r ≠ b) (u : Value) : MapIs (w.setCell ⟨b, j, none⟩ u) r d kk f L := h.setCell hp u
theorem Only.setAt {S : Nat → Prop} {a c : World} (h : Only S a c) {b j : Nat} (hp : a.heap.size ≤ b) (u : Value) : Only S a (c.setCell ⟨b, j, none⟩ u) := h.setCell (Or.inr hp) u

theorem Only.setOwn {S : Nat → Prop} {a c : World} (h : Only S a c) {b j : Nat} (hp : S b) (u : Value) : Only S a (c.setCell ⟨b, j, none⟩ u) := h.setCell (Or.inl hp) u

/-! ### the state -/
structure MapD where
  ref : Nat
  vals : List (ByteArray × Int)
  ro : Bool
structure IterD where
  thread : Int
  number : Int
  pos : Int
structure FamD where
  mask : Int
  maps : List (Int × MapD)
  iters : List (Int × IterD)
structure OpD where
  kind : Int
  handle : Int
  key : ByteArray
  value : Int
  expect : Int
structure ResD where
  err : Int := 0
  found : Bool := false
  value : Int := 0
  key : ByteArray := ⟨#[]⟩
  count : Int := 0
def OpD.val (o : OpD) : Value := .agg #[.int .i64 o.kind, .int .i64 o.handle, .string o.key, .int .u64 o.value, .int .u64 o.expect]
def ResD.cells (r : ResD) : Array Value := #[.int .i64 r.err, .bool r.found, .int .u64 r.value, .string r.key, .int .i64 r.count, .int .i64 0, .int .i64 0, .bool false]
def mapV (d : MapD) : Value := .agg #[.map (some d.ref), .bool d.ro]
def itV (i : IterD) : Value := .agg #[.int .i64 i.thread, .int .i64 i.number, .int .i64 i.pos]

def numberOf (t i : Int) : Int := if t < 0 ∨ 8 ≤ t ∨ i < 0 ∨ 16 ≤ i then -1 else 1 + t * 16 + i

/-- how a family lies in memory -/
structure FamIs (w : World) (bf bm bi : Nat) (F : FamD) : Prop where
  cells : w.heap[bf]? = some (.cells #[.int .u64 F.mask, .map (some bm), .map (some bi)] 103 (0, 0))
  maps : MapIs w bm (.int .i64) (Value.int .i64) mapV F.maps
  iters : MapIs w bi (.int .i64) (Value.int .i64) itV F.iters
  vals : ∀ p ∈ F.maps, MapIs w p.2.ref .string Value.string (Value.int .u64) p.2.vals
  nodup : (bm :: bi :: F.maps.map (fun p => p.2.ref)).Nodup
/-- the blocks of a family -/
def FamD.own (F : FamD) (bf bm bi : Nat) (k : Nat) : Prop := k = bf ∨ k = bm ∨ k = bi ∨ ∃ p ∈ F.maps, p.2.ref = k

theorem FamIs.lt {w : World} {bf bm bi : Nat} {F : FamD} (h : FamIs w bf bm bi F) {k : Nat} (hk : F.own bf bm bi k) : k < w.heap.size := by
  rcases hk with rfl | rfl | rfl | ⟨p, hp, rfl⟩
  · exact (Array.getElem?_eq_some_iff.1 h.cells).1
  · exact h.maps.lt
  · exact h.iters.lt
  · exact (h.vals p hp).lt
theorem FamIs.keep {w w' : World} {bf bm bi : Nat} {F : FamD} (h : FamIs w bf bm bi F) (hb : ∀ k, F.own bf bm bi k → w'.heap[k]? = w.heap[k]?) : FamIs w' bf bm bi F :=
  ⟨(hb bf (Or.inl rfl)).trans h.cells, h.maps.of_block (hb bm (Or.inr (Or.inl rfl))), h.iters.of_block (hb bi (Or.inr (Or.inr (Or.inl rfl)))),
   fun p hp => (h.vals p hp).of_block (hb _ (Or.inr (Or.inr (Or.inr ⟨p, hp, rfl⟩)))), h.nodup⟩
theorem FamIs.only {w w' : World} {bf bm bi : Nat} {F : FamD} {S : Nat → Prop} (h : FamIs w bf bm bi F) (ho : Only S w w') (hs : ∀ k, F.own bf bm bi k → ¬ S k) : FamIs w' bf bm bi F :=
  h.keep fun k hk => ho.block k (h.lt hk) (hs k hk)
theorem FamIs.below {w w' : World} {bf bm bi : Nat} {F : FamD} (h : FamIs w bf bm bi F) (ho : Below w.heap.size w w') : FamIs w' bf bm bi F :=
  h.keep fun k hk => ho.block k (h.lt hk)
theorem FamIs.cell {w : World} {bf bm bi : Nat} {F : FamD} (h : FamIs w bf bm bi F) :
    w.cell? ⟨bf, 0, none⟩ = some (.int .u64 F.mask) ∧ w.cell? ⟨bf, 1, none⟩ = some (.map (some bm)) ∧ w.cell? ⟨bf, 2, none⟩ = some (.map (some bi)) := by
  have hc := h.cells
  refine ⟨?_, ?_, ?_⟩ <;> simp [World.cell?, hc]

theorem key_int (x : Int) : IsKey (.int .i64) (Value.int .i64 x) := rfl
theorem key_str (x : ByteArray) : IsKey .string (Value.string x) := trivial
theorem inj_int (x y : Int) (h : Value.int .i64 x = Value.int .i64 y) : x = y := by injection h
theorem inj_str (x y : ByteArray) (h : Value.string x = Value.string y) : x = y := by injection h
theorem zero_map (w : World) : (zeroValue 99).run Tryz.prog w = .ok (.agg #[.map none, .bool false]) w := by kernel_rfl
theorem zero_it (w : World) : (zeroValue 109).run Tryz.prog w = .ok (.agg #[.int .i64 0, .int .i64 0, .int .i64 0]) w := by kernel_rfl
theorem zero_u64 (w : World) : (zeroValue 22).run Tryz.prog w = .ok (.int .u64 0) w := by kernel_rfl

/-- the look-ups, in every world in which the map's block is as it was -/
theorem FamIs.look_maps {w : World} {bf bm bi : Nat} {F : FamD} (h : FamIs w bf bm bi F) (k : Int) (c : Bool) (W : World) (hW : W.heap[bm]? = w.heap[bm]?) :
    (Instr.lookup 100 (.map (some bm)) (.int .i64 k) c).run Tryz.prog W = .ok (if c then .tuple #[outOf (.agg #[.map none, .bool false]) mapV (alook F.maps k), .bool (alook F.maps k).isSome] else outOf (.agg #[.map none, .bool false]) mapV (alook F.maps k)) W :=
  (h.maps.of_block hW).lookup key_int inj_int Tryz.underlying100 Tryz.underlying3 (zero_map W) k c
theorem FamIs.look_iters {w : World} {bf bm bi : Nat} {F : FamD} (h : FamIs w bf bm bi F) (k : Int) (c : Bool) (W : World) (hW : W.heap[bi]? = w.heap[bi]?) :
    (Instr.lookup 101 (.map (some bi)) (.int .i64 k) c).run Tryz.prog W = .ok (if c then .tuple #[outOf (.agg #[.int .i64 0, .int .i64 0, .int .i64 0]) itV (alook F.iters k), .bool (alook F.iters k).isSome] else outOf (.agg #[.int .i64 0, .int .i64 0, .int .i64 0]) itV (alook F.iters k)) W :=
  (h.iters.of_block hW).lookup key_int inj_int Tryz.underlying101 Tryz.underlying3 (zero_it W) k c

theorem FamIs.ask_maps {w : World} {bf bm bi : Nat} {F : FamD} (h : FamIs w bf bm bi F) (k : Int) :
    ∃ x y, ∀ W : World, W.heap[bm]? = w.heap[bm]? → (Instr.lookup 100 (.map (some bm)) (.int .i64 k) true).run Tryz.prog W = .ok (.tuple #[.agg #[.map x, .bool y], .bool (alook F.maps k).isSome]) W := by
  cases hn : alook F.maps k with
  | none => exact ⟨none, false, fun W hW => by have := h.look_maps k true W hW; rw [hn] at this; simpa [outOf] using this⟩
  | some d => exact ⟨some d.ref, d.ro, fun W hW => by have := h.look_maps k true W hW; rw [hn] at this; simpa [outOf, mapV] using this⟩
theorem FamIs.ask_iters {w : World} {bf bm bi : Nat} {F : FamD} (h : FamIs w bf bm bi F) (k : Int) :
    ∃ x y z, ∀ W : World, W.heap[bi]? = w.heap[bi]? → (Instr.lookup 101 (.map (some bi)) (.int .i64 k) true).run Tryz.prog W = .ok (.tuple #[.agg #[.int .i64 x, .int .i64 y, .int .i64 z], .bool (alook F.iters k).isSome]) W := by
  cases hn : alook F.iters k with
  | none => exact ⟨0, 0, 0, fun W hW => by have := h.look_iters k true W hW; rw [hn] at this; simpa [outOf] using this⟩
  | some d => exact ⟨d.thread, d.number, d.pos, fun W hW => by have := h.look_iters k true W hW; rw [hn] at this; simpa [outOf, itV] using this⟩
theorem blocks_alloc {w : World} {b : Nat} (hb : b < w.heap.size) :
    (∀ o, (w.alloc o).heap[b]? = w.heap[b]?) ∧ (∀ o o2, ((w.alloc o).alloc o2).heap[b]? = w.heap[b]?) ∧ (∀ o o2 o3, (((w.alloc o).alloc o2).alloc o3).heap[b]? = w.heap[b]?) := by
  have s : ∀ (W : World) o, b < W.heap.size → b < (W.alloc o).heap.size := fun W o h => by show b < (W.heap.push o).size; rw [Array.size_push]; omega
  refine ⟨fun o => Below.heap_alloc w o b hb, fun o o2 => ?_, fun o o2 o3 => ?_⟩
  · rw [Below.heap_alloc _ o2 b (s _ _ hb), Below.heap_alloc w o b hb]
  · rw [Below.heap_alloc _ o3 b (s _ _ (s _ _ hb)), Below.heap_alloc _ o2 b (s _ _ hb), Below.heap_alloc w o b hb]
theorem cells_alloc {w : World} {b : Nat} (hb : b < w.heap.size) :
    (∀ j o o2, ((w.alloc o).alloc o2).cell? ⟨b, j, none⟩ = w.cell? ⟨b, j, none⟩) ∧ (∀ j o o2 o3, (((w.alloc o).alloc o2).alloc o3).cell? ⟨b, j, none⟩ = w.cell? ⟨b, j, none⟩) := by
  obtain ⟨_, a2, a3⟩ := blocks_alloc hb
  exact ⟨fun j o o2 => World.cell?_of_block (a2 o o2), fun j o o2 o3 => World.cell?_of_block (a3 o o2 o3)⟩
theorem drew_heap (W : World) : W.drew.heap = W.heap := rfl

/-! ### what the operations do -/
/-- the refusals of an operation on a map -/
def unfitK (kind : Int) (key : ByteArray) (ro : Bool) : Int :=
  if kind ≤ 7 ∧ ¬ (key.size : Int) ≤ 64 then 1
  else if kind == 1 || (kind == 2 || (kind == 3 || (kind == 4 || (kind == 5 || (kind == 6 || kind == 10))))) then (if ro then 6 else 0)
  else if kind == 11 || kind == 12 then (if ro then 0 else 7)
  else 0
def unfitD (F : FamD) (o : OpD) : Int :=
  match alook F.maps o.handle with
  | none => 5
  | some d => unfitK o.kind o.key d.ro
def takenD (F : FamD) (n : Int) : Bool := (alook F.maps n).isSome || (alook F.iters n).isSome
def lostD (F : FamD) (t : Int) (h : Int) : Bool :=
  match alook F.iters h with
  | none => true
  | some it => it.thread != t
def refusalD (F : FamD) (t i : Int) (o : OpD) : Int :=
  if numberOf t i < 0 ∨ o.kind < 1 ∨ 13 < o.kind then 1
  else if o.kind == 13 then (if lostD F t o.handle then 5 else if takenD F (numberOf t i) then 8 else 0)
  else if unfitD F o != 0 then unfitD F o
  else if takenD F (numberOf t i) then 8 else 0
/-- the values of a map -/
abbrev ValsIs (w : World) (r : Nat) (L : List (ByteArray × Int)) : Prop := MapIs w r .string Value.string (Value.int .u64) L
theorem ValsIs.look {w : World} {r : Nat} {L : List (ByteArray × Int)} (h : ValsIs w r L) (k : ByteArray) (W : World) (hW : W.heap[r]? = w.heap[r]?) :
    (Instr.lookup 97 (.map (some r)) (.string k) true).run Tryz.prog W = .ok (.tuple #[.int .u64 ((alook L k).getD 0), .bool (alook L k).isSome]) W := by
  have := (h.of_block hW).lookup (P := Tryz.prog) key_str inj_str Tryz.underlying97 Tryz.underlying9 (zero_u64 W) k true
  rw [this]
  cases alook L k <;> rfl
def permK (kind expect : Int) (f : Option Int) : Bool :=
  if kind == 2 then !f.isSome else if kind == 3 then f.isSome else if kind == 4 then f.isSome && f.getD 0 == expect else true
def setV (L : List (ByteArray × Int)) (o : OpD) : List (ByteArray × Int) :=
  if permK o.kind o.expect (alook L o.key) then aset L o.key o.value else L
def setR (L : List (ByteArray × Int)) (o : OpD) : ResD :=
  { found := (alook L o.key).isSome, value := (alook L o.key).getD 0, count := if permK o.kind o.expect (alook L o.key) then 1 else 0 }
def dropK (kind expect : Int) (f : Option Int) : Bool := f.isSome && (kind == 5 || f.getD 0 == expect)
def removeV (L : List (ByteArray × Int)) (o : OpD) : List (ByteArray × Int) :=
  if dropK o.kind o.expect (alook L o.key) then adel L o.key else L
def removeR (L : List (ByteArray × Int)) (o : OpD) : ResD :=
  { found := (alook L o.key).isSome, value := (alook L o.key).getD 0, count := if dropK o.kind o.expect (alook L o.key) then 1 else 0 }
end Go.Proofs.YtbmoehndnbbhcaaGreatDoor
namespace Go.Proofs.YtbmoehndnbbhcaaGreatDoor
set_option linter.unusedVariables false
set_option linter.unusedSimpArgs false
open Go.RowKit Go.MapKept
theorem blk_cell {w : World} {g : Nat} {t : TypeId} {cs : Array Value} (h : w.heap[g]? = some (.cells cs t (0, 0))) (i : Nat) : w.cell? ⟨g, i, none⟩ = cs[i]? := by
  unfold World.cell?
  rw [h]
  simp
theorem alook_mem {κ β : Type} [DecidableEq κ] {L : List (κ × β)} {k : κ} {v : β} (h : alook L k = some v) : (k, v) ∈ L := by
  induction L with
  | nil => simp [alook] at h
  | cons p r ih =>
    obtain ⟨a, b⟩ := p
    simp only [alook] at h
    by_cases ha : a = k
    · rw [if_pos ha] at h
      simp only [Option.some.injEq] at h
      subst ha h
      exact .head _
    · rw [if_neg ha] at h
      exact .tail _ (ih h)
theorem map_not_cells {κ β : Type} [DecidableEq κ] {w : World} {r b : Nat} {d : TypeDesc} {kk : κ → Value} {f : β → Value} {L : List (κ × β)} (h : MapIs w r d kk f L) {c : Array Value} {t : TypeId} {q : Nat × Nat} (hb : w.heap[b]? = some (.cells c t q)) : b ≠ r := by
  rintro rfl
  obtain ⟨es, clock, h1, _⟩ := h
  rw [h1] at hb
  cases hb
theorem FamIs.set_iters {w w' : World} {bf bm bi : Nat} {F : FamD} {L : List (Int × IterD)} (h : FamIs w bf bm bi F) (hb : ∀ k, k < w.heap.size → k ≠ bi → w'.heap[k]? = w.heap[k]?) (hm : MapIs w' bi (.int .i64) (Value.int .i64) itV L) :
    FamIs w' bf bm bi { F with iters := L } := by
  have hn := h.nodup
  simp only [List.nodup_cons, List.mem_cons, not_or, List.mem_map, not_exists, not_and] at hn
  exact ⟨(hb bf (h.lt (Or.inl rfl)) (map_not_cells h.iters h.cells)).trans h.cells, h.maps.of_block (hb bm h.maps.lt hn.1.1), hm,
    fun p hp => (h.vals p hp).of_block (hb _ (h.vals p hp).lt (fun e => hn.2.1 p hp e)), h.nodup⟩
theorem map_ref_aset {L : List (Int × MapD)} {n : Int} {d d' : MapD} (hl : alook L n = some d) (hr : d'.ref = d.ref) (ho : d'.ro = d.ro) :
    (aset L n d').map (fun p => (Value.int .i64 p.1, mapV p.2)) = L.map (fun p => (Value.int .i64 p.1, mapV p.2)) ∧ (aset L n d').map (fun p => p.2.ref) = L.map (fun p => p.2.ref) := by
  induction L with
  | nil => simp [alook] at hl
  | cons p r ih =>
    obtain ⟨a, b⟩ := p
    by_cases ha : a = n
    · subst ha
      simp [alook] at hl
      subst hl
      simp [aset, mapV, hr, ho]
    · simp only [alook, if_neg ha] at hl
      obtain ⟨i1, i2⟩ := ih hl
      simp [aset, if_neg ha, i1, i2]
theorem aset_mem {κ β : Type} [DecidableEq κ] {L : List (κ × β)} {n : κ} {d : β} {p : κ × β} (h : p ∈ aset L n d) : p = (n, d) ∨ (p ∈ L ) := by
  induction L with
  | nil => simp [aset] at h; exact Or.inl h
  | cons q r ih =>
    obtain ⟨a, b⟩ := q
    by_cases ha : a = n
    · simp [aset, ha] at h
      rcases h with h | h
      · exact Or.inl h
      · exact Or.inr (.tail _ h)
    · simp [aset, ha] at h
      rcases h with h | h
      · exact Or.inr (h ▸ .head _)
      · rcases ih h with h | h
        · exact Or.inl h
        · exact Or.inr (.tail _ h)
theorem aset_split {L : List (Int × MapD)} {n : Int} {d d' : MapD} (hl : alook L n = some d) (hn : (L.map (fun p => p.2.ref)).Nodup) {p : Int × MapD} (hp : p ∈ aset L n d') : p = (n, d') ∨ (p ∈ L ∧ p.2.ref ≠ d.ref) := by
  induction L with
  | nil => simp [alook] at hl
  | cons q r ih =>
    obtain ⟨a, b⟩ := q
    simp only [List.map_cons, List.nodup_cons] at hn
    by_cases ha : a = n
    · subst ha
      simp [alook] at hl
      subst hl
      simp [aset] at hp
      rcases hp with hp | hp
      · exact Or.inl hp
      · exact Or.inr ⟨.tail _ hp, fun e => hn.1 (e ▸ List.mem_map.2 ⟨p, hp, rfl⟩)⟩
    · simp only [alook, if_neg ha] at hl
      simp [aset, ha] at hp
      rcases hp with hp | hp
      · subst hp
        exact Or.inr ⟨.head _, fun e => hn.1 (e ▸ List.mem_map.2 ⟨(n, d), alook_mem hl, rfl⟩)⟩
      · rcases ih hl hn.2 hp with h | ⟨h, k⟩
        · exact Or.inl h
        · exact Or.inr ⟨.tail _ h, k⟩
theorem FamIs.set_vals {w w' : World} {bf bm bi : Nat} {F : FamD} {n : Int} {d : MapD} {L : List (ByteArray × Int)} (h : FamIs w bf bm bi F) (hl : alook F.maps n = some d) (hb : ∀ k, k < w.heap.size → k ≠ d.ref → w'.heap[k]? = w.heap[k]?) (hm : ValsIs w' d.ref L) :
    FamIs w' bf bm bi { F with maps := aset F.maps n { d with vals := L } } := by
  have hn := h.nodup
  have hmem := alook_mem hl
  obtain ⟨r1, r2⟩ := map_ref_aset (d' := { d with vals := L }) hl rfl rfl
  have hn' := hn
  simp only [List.nodup_cons, List.mem_cons, not_or, List.mem_map, not_exists, not_and] at hn
  have nb : bm ≠ d.ref := fun e => hn.1.2 _ hmem e.symm
  have ni : bi ≠ d.ref := fun e => hn.2.1 _ hmem e.symm
  refine ⟨(hb bf (h.lt (Or.inl rfl)) (map_not_cells (h.vals _ hmem) h.cells)).trans h.cells, ?_, h.iters.of_block (hb bi h.iters.lt ni), ?_, ?_⟩
  · obtain ⟨es, clock, k1, k2, k3, k4⟩ := h.maps.of_block (hb bm h.maps.lt nb)
    exact ⟨es, clock, k1, k2, k3, k4.trans r1.symm⟩
  · intro p hp
    rcases aset_split hl (by simpa using hn.2.2) hp with rfl | ⟨h1, h2⟩
    · exact hm
    · exact (h.vals p h1).of_block (hb _ (h.vals p h1).lt h2)
  · show (bm :: bi :: (aset F.maps n { d with vals := L }).map (fun p => p.2.ref)).Nodup
    rw [r2]; exact hn'
theorem alook_new {κ β : Type} [DecidableEq κ] {L : List (κ × β)} {k : κ} (h : alook L k = none) : ∀ p ∈ L, p.1 ≠ k := by
  induction L with
  | nil => simp
  | cons q r ih =>
    obtain ⟨a, b⟩ := q
    by_cases ha : a = k
    · simp [alook, ha] at h
    · simp only [alook, if_neg ha] at h
      intro p hp
      rcases List.mem_cons.1 hp with rfl | hp
      · exact ha
      · exact ih h p hp
theorem FamIs.new_map {w w' : World} {bf bm bi : Nat} {F : FamD} {n : Int} {d : MapD} (h : FamIs w bf bm bi F) (hl : alook F.maps n = none) (hb : ∀ k, k < w.heap.size → k ≠ bm → w'.heap[k]? = w.heap[k]?) (hm : MapIs w' bm (.int .i64) (Value.int .i64) mapV (aset F.maps n d)) (hr : w.heap.size ≤ d.ref) (hv : ValsIs w' d.ref d.vals) :
    FamIs w' bf bm bi { F with maps := aset F.maps n d } := by
  have hn := h.nodup
  have hs := aset_new (v := d) (alook_new hl)
  simp only [List.nodup_cons, List.mem_cons, not_or, List.mem_map, not_exists, not_and] at hn
  have hmlt := h.maps.lt
  have hilt := h.iters.lt
  refine ⟨(hb bf (h.lt (Or.inl rfl)) (map_not_cells h.maps h.cells)).trans h.cells, hm, h.iters.of_block (hb bi h.iters.lt (fun e => hn.1.1 e.symm)), ?_, ?_⟩
  · intro p hp
    rcases aset_mem hp with rfl | hp
    · exact hv
    · exact (h.vals p hp).of_block (hb _ (h.vals p hp).lt (fun e => hn.1.2 p hp e))
  · show (bm :: bi :: (aset F.maps n d).map (fun p => p.2.ref)).Nodup
    rw [hs]
    simp only [List.map_append, List.map_cons, List.map_nil, List.nodup_cons, List.mem_cons, List.mem_append, List.mem_map, not_or, not_exists, not_and, List.nodup_append, List.not_mem_nil, not_false_eq_true, and_true, List.nodup_nil]
    refine ⟨⟨hn.1.1, hn.1.2, by omega⟩, ⟨hn.2.1, by omega⟩, hn.2.2, ?_⟩
    refine ⟨by simp, ?_⟩
    intro a ha b hb2
    obtain ⟨x, hx, rfl⟩ := ha
    have := (h.vals x hx).lt
    simp at hb2
    omega
theorem three_blocks (w : World) (o1 o2 o3 : Obj) : (((w.alloc o1).alloc o2).alloc o3).heap[w.heap.size]? = some o1 ∧ (((w.alloc o1).alloc o2).alloc o3).heap[w.heap.size + 1]? = some o2 := by
  refine ⟨?_, ?_⟩
  · rw [Below.heap_alloc _ _ _ (by simp <;> omega), Below.heap_alloc _ _ _ (by simp <;> omega)]; exact (heap_alloc w o1).1
  · rw [Below.heap_alloc _ _ _ (by simp <;> omega)]
    have := (heap_alloc (w.alloc o1) o2).1
    simpa using this
theorem four_blocks (w : World) (o1 o2 o3 o4 : Obj) : ((((w.alloc o1).alloc o2).alloc o3).alloc o4).heap[w.heap.size]? = some o1 ∧ ((((w.alloc o1).alloc o2).alloc o3).alloc o4).heap[w.heap.size + 1]? = some o2 ∧ ((((w.alloc o1).alloc o2).alloc o3).alloc o4).heap[w.heap.size + 1 + 1 + 1]? = some o4 := by
  obtain ⟨t1, t2⟩ := three_blocks w o1 o2 o3
  refine ⟨?_, ?_, ?_⟩
  · rw [Below.heap_alloc _ _ _ (by simp <;> omega)]; exact t1
  · rw [Below.heap_alloc _ _ _ (by simp <;> omega)]; exact t2
  · have := (heap_alloc (((w.alloc o1).alloc o2).alloc o3) o4).1
    simpa using this
theorem alloc_here (w : World) (o : Obj) : (w.alloc o).heap[w.heap.size]? = some o := (heap_alloc w o).1
theorem alloc_here' (w : World) (o : Obj) (k : Nat) (h : k = w.heap.size) : (w.alloc o).heap[k]? = some o := by subst h; exact (heap_alloc w o).1
theorem alloc_old (w : World) (o : Obj) (k : Nat) (h : k < w.heap.size) : (w.alloc o).heap[k]? = w.heap[k]? := Below.heap_alloc w o k h
end Go.Proofs.YtbmoehndnbbhcaaGreatDoor
