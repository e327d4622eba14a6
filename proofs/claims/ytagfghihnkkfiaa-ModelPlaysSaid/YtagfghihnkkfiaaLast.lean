/- A region that draws its order and ends in one operation that waits for all the others: the beginning is walked as a region of its own. -/
import Derived.Deep.RegionHeld3
namespace Go.Proofs.Ytagfghihnkkfiaa
set_option linter.unusedVariables false
set_option linter.unusedSimpArgs false
open Go
section
variable {P : Program} {ops : Array Oper} {o : Oper} {Q : Exit → Act → World → Prop} {md : Region.Mode} {S : World → Prop}
/-- the post of the beginning: the last operation comes behind it -/
def AtLast (P : Program) (o : Oper) (Q : Exit → Act → World → Prop) : Exit → Act → World → Prop
  | .normal, a, w => o.wp P a w (Q .normal) Q
  | e, a, w => Q e a w
theorem letsOut_last (h : LetsOut (AtLast P o Q)) : LetsOut Q := by
  obtain ⟨a, w, h⟩ := h
  exact ⟨a, w, h⟩
theorem wp_last_post {x : Oper} {a : Act} {w : World} {K : Act → World → Prop} (h : x.wp P a w K (AtLast P o Q)) : x.wp P a w K Q := by
  unfold Oper.wp at *
  generalize (execOp a.eval x).run P w = r at *
  cases r with
  | ok n w' =>
    cases n <;> simp only [Oper.upon] at h ⊢ <;>
      first
        | exact h
        | exact Calls.mono h (fun e w'' he => by cases e <;> first | exact he | exact letsOut_last he)
  | halt x w' => cases x <;> simp only [Oper.upon] at h ⊢ <;> exact h
/-- no guards; each operation waits for earlier ones alone; the last one waits for all -/
def lastB (md : Region.Mode) (ops : Array Oper) (o : Oper) : Bool :=
  (List.range ops.size).all (fun i => ((ops[i]?).map fun x => x.guard.isNone && x.after.all (fun e => decide (e.on < i))).getD false) &&
  o.guard.isNone && o.after.all (fun e => decide (e.on < ops.size)) && (List.range ops.size).all (fun i => o.after.any fun e => Region.binds md e && e.on == i)
structure LastOk (md : Region.Mode) (ops : Array Oper) (o : Oper) : Prop where
  one : ∀ (i : Nat) (x : Oper), ops[i]? = some x → x.guard = none ∧ ∀ e ∈ x.after, e.on < i
  guard : o.guard = none
  below : ∀ e ∈ o.after, e.on < ops.size
  waits : ∀ i, i < ops.size → ∃ e ∈ o.after, Region.binds md e = true ∧ e.on = i
theorem lastB_ok (h : lastB md ops o = true) : LastOk md ops o := by
  unfold lastB at h
  simp only [Bool.and_eq_true, List.all_eq_true, List.mem_range, Array.all_eq_true', Array.any_eq_true', decide_eq_true_eq, Option.isNone_iff_eq_none, beq_iff_eq] at h
  obtain ⟨⟨⟨h1, h2⟩, h3⟩, h4⟩ := h
  refine ⟨fun i x hx => ?_, h2, h3, fun i hi => ?_⟩
  · have hi := (Array.getElem?_eq_some_iff.1 hx).1
    have := h1 i hi
    rw [hx] at this
    simp only [Option.map_some, Option.getD_some, Bool.and_eq_true, Option.isNone_iff_eq_none, Array.all_eq_true', decide_eq_true_eq] at this
    exact this
  · obtain ⟨e, he, hb, hon⟩ := h4 i hi
    exact ⟨e, he, hb, hon⟩
theorem push_get {i : Nat} (h : i < ops.size) : (ops.push o)[i]? = ops[i]? := by
  rw [Array.getElem?_push]
  rw [if_neg (by omega)]
theorem push_old {l : Array Bool} {i : Nat} (h : i < l.size) (b : Bool) : (l.push false).getD i b = l.getD i b := by
  simp only [Array.getD_eq_getD_getElem?, Array.getElem?_push]
  rw [if_neg (by omega)]
theorem getD_in' {l : Array Bool} {i : Nat} (h : i < l.size) (b c : Bool) : l.getD i b = l.getD i c := by
  simp [Array.getD_eq_getD_getElem?, h]
theorem ready_push (ok : LastOk md ops o) {l : Array Bool} (hl : l.size = ops.size) {i : Nat} (h : i ∈ Region.ready md (ops.push o) (l.push false)) : i ∈ Region.ready md ops l ∨ (i = ops.size ∧ ∀ j, j < ops.size → l.getD j true = true) := by
  obtain ⟨hun, x, hx, hall⟩ := mem_ready.1 h
  by_cases hi : i < ops.size
  · rw [push_get hi] at hx
    rw [push_old (by omega)] at hun
    refine Or.inl (mem_ready.2 ⟨hun, x, hx, fun e he hb => ?_⟩)
    have := hall e he hb
    rwa [push_old (by have := (ok.one i x hx).2 e he; omega)] at this
  · have hs := (Array.getElem?_eq_some_iff.1 hx).1
    have hin : i = ops.size := by
      simp at hs
      omega
    subst hin
    obtain rfl : o = x := by simpa using hx
    refine Or.inr ⟨rfl, fun j hj => ?_⟩
    obtain ⟨e, he, hb, hon⟩ := ok.waits j hj
    have := hall e he hb
    rw [hon, push_old (by omega)] at this
    rw [getD_in' (by omega) true false]
    exact this
theorem all_listed (ok : LastOk md ops o) {l : Array Bool} (hl : l.size = ops.size) (h : Region.ready md ops l = []) : ∀ j, j < ops.size → l.getD j true = true := by
  intro j
  induction j using Nat.strongRecOn with
  | ind j ih =>
    intro hj
    cases hc : l.getD j true with
    | true => rfl
    | false =>
      have hx : ops[j]? = some ops[j] := Array.getElem?_eq_getElem hj
      have : j ∈ Region.ready md ops l := mem_ready.2 ⟨hc, _, hx, fun e he hb => by
        have hlt := (ok.one j _ hx).2 e he
        have := ih e.on hlt (by omega)
        rw [getD_in' (by omega) true false] at this
        exact this⟩
      rw [h] at this
      cases this
theorem last_ready (ok : LastOk md ops o) {l : Array Bool} (hl : l.size = ops.size) (h : ∀ j, j < ops.size → l.getD j true = true) : ops.size ∈ Region.ready md (ops.push o) (l.push false) := by
  refine mem_ready.2 ⟨?_, o, by simp, fun e he hb => ?_⟩
  · rw [Array.getD_eq_getD_getElem?, Array.getElem?_push, if_pos hl.symm]
    rfl
  · have hlt := ok.below e he
    rw [push_old (by omega), getD_in' (by omega) false true]
    exact h _ hlt
theorem wpAny_over {l : Array Bool} {a : Act} {w : World} (hr : Region.ready md ops l = []) (h : Q .normal a w) : ∀ fuel, wpAny P md ops Q fuel l a w
  | 0 => ⟨hr, h⟩
  | _ + 1 => ⟨fun _ => h, by rw [hr]; simp⟩
theorem wpOp_push (ok : LastOk md ops o) {i : Nat} (hi : i < ops.size) {K : Act → World → Prop} {a : Act} {w : World} (h : wpOp P ops (AtLast P o Q) i K a w) : wpOp P (ops.push o) Q i K a w := by
  unfold wpOp at h ⊢
  rw [push_get hi]
  have hx : ops[i]? = some ops[i] := Array.getElem?_eq_getElem hi
  rw [hx] at h ⊢
  have hg := (ok.one i _ hx).1
  have hw : ∀ y, Region.wanted ops[i] y = true := fun y => by simp [Region.wanted, hg]
  simp only [hw, if_true] at h ⊢
  rcases h with h | ⟨h1, h2⟩
  · exact Or.inl (wp_last_post h)
  · exact Or.inr ⟨h1, letsOut_last h2⟩
theorem none_ready {l : Array Bool} (h : ∀ j, j < ops.size → l.getD j true = true) : Region.ready md ops l = [] := by
  apply List.eq_nil_iff_forall_not_mem.2
  intro i hi
  obtain ⟨hun, x, hx, _⟩ := mem_ready.1 hi
  rw [h i (Array.getElem?_eq_some_iff.1 hx).1] at hun
  cases hun
theorem last_step (ok : LastOk md ops o) {l : Array Bool} (hl : l.size = ops.size) (h : ∀ j, j < ops.size → l.getD j true = true) (fuel : Nat) {a : Act} {w : World} (hn : o.wp P a w (Q .normal) Q) : wpOp P (ops.push o) Q ops.size (wpAny P md (ops.push o) Q fuel ((l.push false).setIfInBounds ops.size true)) a w := by
  unfold wpOp
  have hx : (ops.push o)[ops.size]? = some o := by simp
  have hw : ∀ y, Region.wanted o y = true := fun y => by simp [Region.wanted, ok.guard]
  rw [hx]
  simp only [hw, if_true]
  refine Or.inl (Oper.wp_mono (fun a' w' h' => wpAny_over (none_ready fun j hj => ?_) h' fuel) hn)
  by_cases hj' : j < ops.size
  · have := h j hj'
    simp only [Array.getD_eq_getD_getElem?] at this ⊢
    rw [Array.getElem?_setIfInBounds_ne (by omega), Array.getElem?_push, if_neg (by omega)]
    exact this
  · have : j = ops.size := by simp at hj; omega
    subst this
    simp [Array.getD_eq_getD_getElem?, Array.getElem?_setIfInBounds_self, hl]
theorem wpAny_of_last (ok : LastOk md ops o) : ∀ (fuel : Nat) (l : Array Bool) (a : Act) (w : World), l.size = ops.size → wpAnyH P md ops (AtLast P o Q) S fuel l a w → wpAny P md (ops.push o) Q (fuel + 1) (l.push false) a w := by
  intro fuel
  induction fuel with
  | zero =>
    intro l a w hl h
    have hall := all_listed ok hl h.1
    refine ⟨fun hr => ?_, fun i hi => ?_⟩
    · have := last_ready ok hl hall
      rw [hr] at this
      cases this
    · rcases ready_push ok hl hi with hi | ⟨rfl, _⟩
      · rw [h.1] at hi
        cases hi
      · exact last_step ok hl hall 0 h.2
  | succ fuel ih =>
    intro l a w hl h
    refine ⟨fun hr => ?_, fun i hi => ?_⟩
    · have hn : Region.ready md ops l = [] := by
        apply List.eq_nil_iff_forall_not_mem.2
        intro i hi
        obtain ⟨hun, x, hx, hall⟩ := mem_ready.1 hi
        have hi' := (Array.getElem?_eq_some_iff.1 hx).1
        have : i ∈ Region.ready md (ops.push o) (l.push false) := mem_ready.2 ⟨by rw [push_old (by omega)]; exact hun, x, by rw [push_get hi']; exact hx, fun e he hb => by
          rw [push_old (by have := (ok.one i x hx).2 e he; omega)]
          exact hall e he hb⟩
        rw [hr] at this
        cases this
      have := last_ready ok hl (all_listed ok hl hn)
      rw [hr] at this
      cases this
    · rcases ready_push ok hl hi with hi | ⟨rfl, hall⟩
      · obtain ⟨hun, x, hx, _⟩ := mem_ready.1 hi
        have hi' := (Array.getElem?_eq_some_iff.1 hx).1
        have h1 := wpOp_push ok hi' (h.2 i hi)
        refine wpOp_mono (fun a' w' h' => ?_) h1
        have h2 := ih _ a' w' (by simp [hl]) h'.2
        have e : (l.setIfInBounds i true).push false = (l.push false).setIfInBounds i true := by
          apply Array.ext_getElem?
          intro j
          simp only [Array.getElem?_push, Array.getElem?_setIfInBounds, Array.size_setIfInBounds, Array.size_push]
          by_cases hj : i = j
          · subst hj
            rw [if_neg (by omega), if_pos rfl, if_pos rfl, if_pos (by omega), if_pos (by omega)]
          · rw [if_neg hj, if_neg hj]
        rw [← e]
        exact h2
      · exact last_step ok hl hall (fuel + 1) (h.1 (none_ready hall))
theorem wp_region_last {id : Nat} {a : Act} {w : World} {ops0 : Array Oper} (S : World → Prop) (hm : P.follows .mixedOrders = true) (h0 : ops = ops0.push o) (hB : lastB .any ops0 o = true) (hS : S w.drew)
    (h : S w.drew → wpAnyH P .any ops0 (AtLast P o Q) S ops0.size (Array.replicate ops0.size false) a w.drew) : (Code.region id ops true).wp P Q a w := by
  subst h0
  refine wp_region_any hm ?_
  have := wpAny_of_last (lastB_ok hB) _ _ _ _ (by simp) (h hS)
  have e : (Array.replicate ops0.size false).push false = Array.replicate (ops0.push o).size false := by
    rw [Array.size_push, Array.replicate_succ]
  rw [e] at this
  rw [show (ops0.push o).size = ops0.size + 1 by simp] at this ⊢
  exact this
theorem wp_region_last_lit {id : Nat} {a : Act} {w : World} {l : List Oper} (S : World → Prop) (n : Nat) (hm : P.follows .mixedOrders = true) (hn : l.length = n + 1) (h0 : l[n]? = some o) (hB : lastB .any l.dropLast.toArray o = true) (hS : S w.drew)
    (h : S w.drew → wpAnyH P .any l.dropLast.toArray (AtLast P o Q) S l.dropLast.length (Array.replicate l.dropLast.length false) a w.drew) : (Code.region id l.toArray true).wp P Q a w := by
  refine wp_region_last (o := o) (ops0 := l.dropLast.toArray) S hm ?_ hB hS h
  have : l = l.dropLast ++ [o] := by
    have hne : l ≠ [] := fun e => by rw [e] at hn; simp at hn
    have hl : l.getLast? = some o := by rw [List.getLast?_eq_getElem?, hn, Nat.add_sub_cancel, h0]
    rw [List.getLast?_eq_some_getLast hne] at hl
    rw [← Option.some.inj hl, List.dropLast_concat_getLast]
  rw [List.push_toArray, ← this]
/-- the moves over an array that is written out -/
theorem take_at {l : List Oper} {i : Nat} {oi : Oper} {v : Value} {fuel : Nat} {listed : Array Bool} {a : Act} {w : World} (hi : l[i]? = some oi) (hs : Region.noSelect l.toArray = true) (hf : Region.free md l.toArray listed i = true) (hr : (Region.ready md l.toArray listed).contains i = true)
    (hQ : ∀ c a w, Q (.panic c) (a.put oi.dst v) w → Q (.panic c) a w) (hw : Region.wanted oi (yielded l.toArray a.tmps) = true) (hy : ∀ w, S w → (execOp a.eval oi).run P w = .ok (.value v) w) (hS : S w)
    (h : wpAnyH P md l.toArray Q S fuel (listed.setIfInBounds i true) (a.put oi.dst v) w) : wpAnyH P md l.toArray Q S (fuel + 1) listed a w :=
  wpAnyH_take (by simpa using hi) hs hf hr hQ (Or.inl ⟨hw, hy⟩) hS h
theorem cons_at {l : List Oper} {fuel : Nat} {listed : Array Bool} {a : Act} {w : World} {i : Nat} {o : Oper} {rs : List Nat} (ho : l[i]? = some o)
    (h : ∀ K' : Act → World → Prop, Shut (∀ a w, S w → (S w → wpAnyH P md l.toArray Q S fuel (listed.setIfInBounds i true) a w) → K' a w) → if Region.wanted o (yielded l.toArray a.tmps) = true then Oper.wp P o a w K' Q else K' (a.put o.dst undef) w)
    (hs : AllReadyH P md l.toArray Q S fuel listed a w rs) : AllReadyH P md l.toArray Q S fuel listed a w (i :: rs) :=
  AllReadyH.cons (by simpa using ho) h hs
end
end Go.Proofs.Ytagfghihnkkfiaa
