/- Histories as plain data: the places of events. No program in sight. Maps of the heap whose keys are arrays or structs, as association lists. No walk in sight. Results compared: the law of '==' and '!=' at api.Result; numbers' rows that are made. No walk in sight. -/
import Derived.Test.YtbmoehndnbbhcaaGreatDoorMLtP
import Derived.Test.YtbmoehndnbbhcaaGreatDoorMZW
import Derived.Test.YtbmoehndnbbhcaaGreatDoorMFamB
import Derived.Test.YtbmoehndnbbhcaaGreatDoorMAbs
import Derived.WideKeyMaps2
import Derived.WideKeyPair
import Derived.Test.YtbmoehndnbbhcaaGreatDoorChecked
import Derived.DeepKeys
import Derived.DeepKeys5
import Derived.BigFrame
namespace Go.Proofs.YtbmoehndnbbhcaaGreatDoor
set_option linter.unusedVariables false
set_option linter.unusedSimpArgs false
theorem when_spec (l : List EvD) (a : OpP) (b : Bool) : (whenP l a b = -1 ∧ ∀ (k : Nat) (x : EvD), l[k]? = some x → ¬ x.is a b) ∨ ∃ (i : Nat) (e : EvD), l[i]? = some e ∧ e.is a b ∧ whenP l a b = (i : Nat) ∧ ∀ (k : Nat) (x : EvD), k < i → l[k]? = some x → ¬ x.is a b := by
  by_cases h : ∃ (i : Nat) (e : EvD), l[i]? = some e ∧ e.is a b
  · right
    have key : ∀ (n i : Nat) (e : EvD), l[i]? = some e → e.is a b → i ≤ n → ∃ (i : Nat) (e : EvD), l[i]? = some e ∧ e.is a b ∧ ∀ (k : Nat) (x : EvD), k < i → l[k]? = some x → ¬ x.is a b := by
      intro n
      induction n with
      | zero => exact fun i e hi he hn => ⟨i, e, hi, he, fun k x hk => by omega⟩
      | succ n ih =>
        intro i e hi he hn
        by_cases hx : ∃ (k : Nat) (x : EvD), k < i ∧ l[k]? = some x ∧ x.is a b
        · obtain ⟨k, x, hk, hx, hxx⟩ := hx
          exact ih k x hx hxx (by omega)
        · exact ⟨i, e, hi, he, fun k x hk hx' hxx => hx ⟨k, x, hk, hx', hxx⟩⟩
    obtain ⟨i, e, hi, he⟩ := h
    obtain ⟨j, f, hj, hf, hm⟩ := key i i e hi he (Nat.le_refl _)
    exact ⟨j, f, hj, hf, when_hit hj hf hm, hm⟩
  · left
    have hn : ∀ (k : Nat) (x : EvD), l[k]? = some x → ¬ x.is a b := fun k x hx hxx => h ⟨k, x, hx, hxx⟩
    exact ⟨when_miss fun k x _ hx => hn k x hx, hn⟩
theorem when_lo (l : List EvD) (a : OpP) (b : Bool) : -1 ≤ whenP l a b := by
  rcases when_spec l a b with ⟨h, _⟩ | ⟨i, e, _, _, h, _⟩ <;> rw [h] <;> omega
theorem when_hi (l : List EvD) (a : OpP) (b : Bool) : whenP l a b < l.length := by
  rcases when_spec l a b with ⟨h, _⟩ | ⟨i, e, hi, _, h, _⟩
  · rw [h]; omega
  · rw [h]; have := (List.getElem?_eq_some_iff.1 hi).1; omega
theorem EvD.is_self (e : EvD) : e.is e.op e.ret := ⟨rfl, rfl, rfl⟩
theorem EvD.is.is_op {e : EvD} {a : OpP} {b : Bool} (h : e.is a b) : e.op = a := Prod.ext h.1 h.2.1
theorem when_of {ops : List Nat} {l : List EvD} (hp : ProperP ops l) {i : Nat} {e : EvD} (hi : l[i]? = some e) {a : OpP} {b : Bool} (h : e.is a b) : whenP l a b = i := by
  rcases when_spec l a b with ⟨_, hn⟩ | ⟨j, f, hj, hf, hw, _⟩
  · exact absurd h (hn i e hi)
  · rw [hw, hp.uniq hj hi (hf.is_op.trans h.is_op.symm) (hf.2.2.trans h.2.2.symm)]
theorem when_nat {l : List EvD} {a : OpP} {b : Bool} (h : whenP l a b ≠ -1) : ∃ (i : Nat) (e : EvD), l[i]? = some e ∧ e.is a b ∧ whenP l a b = (i : Nat) := by
  rcases when_spec l a b with ⟨h', _⟩ | ⟨i, e, hi, he, hw, _⟩
  · exact absurd h' h
  · exact ⟨i, e, hi, he, hw⟩
/-- the beginnings of a proper history -/
theorem when_take {ops : List Nat} {l : List EvD} (hp : ProperP ops l) {j : Nat} {e : EvD} (hj : l[j]? = some e) (a : OpP) (b : Bool) [Decidable (e.is a b)] :
    whenP (l.take (j + 1)) a b = if e.is a b then (j : Int) else whenP (l.take j) a b := by
  have hlt := (List.getElem?_eq_some_iff.1 hj).1
  have tk : ∀ {m k : Nat} {x : EvD}, (l.take m)[k]? = some x → k < m ∧ l[k]? = some x := fun {m k x} h => by
    rw [List.getElem?_take] at h
    split at h
    · exact ⟨by assumption, h⟩
    · exact absurd h (by simp)
  have kt : ∀ {m k : Nat} {x : EvD}, k < m → l[k]? = some x → (l.take m)[k]? = some x := fun {m k x} hk h => by rw [List.getElem?_take, if_pos hk]; exact h
  by_cases h : e.is a b
  · rw [if_pos h]
    refine when_hit (kt (by omega) hj) h fun k x hk hx hxx => ?_
    have := hp.uniq (tk hx).2 hj (hxx.is_op.trans h.is_op.symm) (hxx.2.2.trans h.2.2.symm)
    omega
  · rw [if_neg h]
    rcases when_spec (l.take j) a b with ⟨hw, hn⟩ | ⟨i, f, hi, hf, hw, hm⟩
    · rw [hw]
      refine when_miss fun k x _ hx hxx => ?_
      obtain ⟨hk, hx'⟩ := tk hx
      by_cases hkj : k = j
      · subst hkj
        rw [hj] at hx'
        obtain rfl := Option.some.inj hx'
        exact h hxx
      · exact hn k x (kt (by omega) hx') hxx
    · rw [hw]
      have hi' := tk hi
      exact when_hit (kt (by omega) hi'.2) hf fun k x hk hx => hm k x hk (kt (by omega) (tk hx).2)
theorem result_take {ops : List Nat} {l : List EvD} (hp : ProperP ops l) {j : Nat} {e : EvD} (hj : l[j]? = some e) (a : OpP) [Decidable (e.is a true)] :
    resultP (l.take (j + 1)) a = if e.is a true then some e.res else resultP (l.take j) a := by
  have hlt := (List.getElem?_eq_some_iff.1 hj).1
  unfold resultP
  rw [when_take hp hj a true]
  by_cases h : e.is a true
  · rw [if_pos h, if_pos h, if_neg (by omega)]
    have : (l.take (j + 1))[(j : Int).toNat]? = some e := by rw [Int.toNat_natCast, List.getElem?_take, if_pos (by omega)]; exact hj
    rw [this]; rfl
  · rw [if_neg h, if_neg h]
    by_cases hw : whenP (l.take j) a true < 0
    · rw [if_pos hw, if_pos hw]
    · rw [if_neg hw, if_neg hw]
      have := when_hi (l.take j) a true
      rw [List.length_take] at this
      rw [List.getElem?_take, List.getElem?_take, if_pos (by omega), if_pos (by omega)]
/-- an earlier event of the same thread -/
theorem cnt_prev {l : List EvD} {t : Int} : ∀ {i c : Nat}, cntT l i t = c + 1 → ∃ j e, j < i ∧ l[j]? = some e ∧ e.thread = t ∧ cntT l j t = c := by
  intro i
  induction i with
  | zero => intro c h; simp [cntT] at h
  | succ i ih =>
    intro c h
    cases hx : l[i]? with
    | none =>
      have : cntT l (i + 1) t = cntT l i t := by
        unfold cntT
        rw [List.take_add_one, hx]; simp
      rw [this] at h
      obtain ⟨j, e, hj, r⟩ := ih h
      exact ⟨j, e, by omega, r⟩
    | some e =>
      rw [cntT_succ hx] at h
      by_cases ht : e.thread = t
      · rw [if_pos ht] at h
        exact ⟨i, e, by omega, hx, ht, by omega⟩
      · rw [if_neg ht] at h
        obtain ⟨j, e, hj, r⟩ := ih (by omega)
        exact ⟨j, e, by omega, r⟩
/-- what has returned was invoked before -/
theorem ProperP.back {ops : List Nat} {l : List EvD} (hp : ProperP ops l) {i : Nat} {e : EvD} (hi : l[i]? = some e) (he : e.ret = true) : ∃ j f, j < i ∧ l[j]? = some f ∧ f.is e.op false := by
  have h := hp i e hi
  have hr : cntT l i e.thread % 2 = 1 := by
    have := h.ret
    rw [he] at this
    simpa using this.symm
  obtain ⟨j, f, hj, hf, ht, hc⟩ := cnt_prev (l := l) (t := e.thread) (i := i) (c := cntT l i e.thread - 1) (by omega)
  have g := hp j f hf
  refine ⟨j, f, hj, hf, ht, ?_, ?_⟩
  · rw [g.idx, ht, hc]
    show _ = e.index
    rw [h.idx]
    omega
  · rw [g.ret, ht, hc]
    have : (cntT l i e.thread - 1) % 2 = 0 := by omega
    rw [this]; rfl
theorem ProperP.when_back {ops : List Nat} {l : List EvD} (hp : ProperP ops l) {a : OpP} (h : whenP l a true ≠ -1) : 0 ≤ whenP l a false ∧ whenP l a false < whenP l a true := by
  obtain ⟨i, e, hi, he, hw⟩ := when_nat h
  obtain ⟨j, f, hj, hf, hfi⟩ := hp.back hi he.2.2
  rw [he.is_op] at hfi
  rw [hw, when_of hp hf hfi]
  omega
/-- an operation that has an event exists -/
def ExP (ops : List Nat) (a : OpP) : Prop := 0 ≤ a.1 ∧ 0 ≤ a.2 ∧ a.2 < ((ops[a.1.toNat]?.getD 0 : Nat) : Int)
instance (ops : List Nat) (a : OpP) : Decidable (ExP ops a) := by unfold ExP; infer_instance
theorem ProperP.ex {ops : List Nat} {l : List EvD} (hp : ProperP ops l) {a : OpP} {b : Bool} (h : whenP l a b ≠ -1) : ExP ops a := by
  obtain ⟨i, e, hi, he, hw⟩ := when_nat h
  have g := hp i e hi
  obtain rfl := he.is_op
  have h1 := g.t1
  have h0 := g.t0
  obtain ⟨n, hn⟩ : ∃ n, ops[e.thread.toNat]? = some n := ⟨_, List.getElem?_eq_getElem (by omega)⟩
  have := g.lim n hn
  refine ⟨h0, ?_, ?_⟩
  · show 0 ≤ e.index; rw [g.idx]; omega
  · show e.index < ((ops[e.thread.toNat]?.getD 0 : Nat) : Int); rw [g.idx, hn, Option.getD_some]; omega
theorem ExP.lt {ops : List Nat} {a : OpP} (h : ExP ops a) : a.1 < ops.length := by
  obtain ⟨h0, h1, h2⟩ := h
  by_cases hl : a.1 < ops.length
  · exact hl
  · rw [List.getElem?_eq_none (by omega)] at h2
    simp at h2; omega
theorem ProperP.take {ops : List Nat} {l : List EvD} (hp : ProperP ops l) (n : Nat) : ProperP ops (l.take n) := fun i e hi => by
  rw [List.getElem?_take] at hi
  split at hi
  · rename_i hin
    have g := hp i e hi
    have hc : ∀ t, cntT (l.take n) i t = cntT l i t := fun t => by unfold cntT; rw [List.take_take, Nat.min_eq_left (by omega)]
    exact ⟨g.t0, g.t1, by rw [hc]; exact g.idx, by rw [hc]; exact g.lim, by rw [hc]; exact g.ret, g.res⟩
  · exact absurd hi (by simp)
theorem mem_invoked {l : List EvD} {a : OpP} : a ∈ invokedP l ↔ whenP l a false ≠ -1 := by
  unfold invokedP
  rw [List.mem_filterMap]
  constructor
  · rintro ⟨i, _, h⟩
    split at h
    · split at h
      · rename_i e he hc
        obtain rfl := Option.some.inj h
        rw [hc.2]; omega
      · exact absurd h (by simp)
    · exact absurd h (by simp)
  · intro h
    obtain ⟨i, e, hi, he, hw⟩ := when_nat h
    have hlt := (List.getElem?_eq_some_iff.1 hi).1
    refine ⟨i, by simpa using hlt, ?_⟩
    have ho := he.is_op
    simp only [hi]
    rw [if_pos ⟨he.2.2, by rw [ho]; exact hw⟩, ho]
theorem result_none {l : List EvD} {a : OpP} : resultP l a = none ↔ whenP l a true = -1 := by
  unfold resultP
  have := when_lo l a true
  constructor
  · intro h
    by_cases hw : whenP l a true < 0
    · omega
    · rw [if_neg hw] at h
      obtain ⟨i, e, hi, _, hw'⟩ := when_nat (l := l) (a := a) (b := true) (by omega)
      rw [hw', Int.toNat_natCast, hi] at h
      exact absurd h (by simp)
  · intro h; rw [if_pos (by omega)]
theorem result_some {l : List EvD} {a : OpP} (h : whenP l a true ≠ -1) : ∃ r, resultP l a = some r := by
  cases hr : resultP l a with
  | none => exact absurd (result_none.1 hr) h
  | some r => exact ⟨r, rfl⟩
theorem refused_back {l : List EvD} {a : OpP} (h : refusedP l a = true) : whenP l a true ≠ -1 := fun hw => by
  unfold refusedP at h
  rw [result_none.2 hw] at h
  simp at h
end Go.Proofs.YtbmoehndnbbhcaaGreatDoor
namespace Go.Proofs.YtbmoehndnbbhcaaGreatDoor
set_option linter.unusedVariables false
set_option linter.unusedSimpArgs false
set_option linter.unusedSectionVars false
open Go Go.RowKit Go.MapKept Go.WideMaps
open Go.ChangeMaps (setBlock modify_eq_set)
section
variable {κ β : Type} [DecidableEq κ]
structure KeyOk (P : Program) (k : TypeId) (kk : κ → Value) (S : κ → Prop) : Prop where
  law : KeyLaw P k
  lit : ∀ x, S x → ∃ l, keyOf P k (kk x) = some l
  inj : ∀ x y, kk x = kk y → x = y
/-- block r is a map that holds the list L, in the order of the insertions -/
def MapW (w : World) (r : Nat) (kk : κ → Value) (f : β → Value) (S : κ → Prop) (L : List (κ × β)) : Prop :=
  ∃ es clock, w.heap[r]? = some (.map es clock) ∧ Stamped es clock ∧ (∀ p ∈ L, S p.1) ∧ es.toList.map (fun e => (e.key, e.val)) = L.map (fun p => (kk p.1, f p.2))
variable {P : Program} {w : World} {r : Nat} {k : TypeId} {kk : κ → Value} {f : β → Value} {S : κ → Prop} {L : List (κ × β)}
theorem MapW.lt (h : MapW w r kk f S L) : r < w.heap.size := by
  obtain ⟨es, clock, hb, _⟩ := h
  exact (Array.getElem?_eq_some_iff.1 hb).1
theorem MapW.of_block {w' : World} (h : MapW w r kk f S L) (hb : w'.heap[r]? = w.heap[r]?) : MapW w' r kk f S L := by
  obtain ⟨es, clock, h1, h2⟩ := h
  exact ⟨es, clock, hb.trans h1, h2⟩
theorem MapW.made (w : World) (kk : κ → Value) (f : β → Value) (S : κ → Prop) : MapW (w.alloc (.map #[] 0)) w.heap.size kk f S [] :=
  ⟨#[], 0, (heap_alloc w _).1, stamped_empty _, by simp, by simp⟩
theorem MapW.nodup (K : KeyOk P k kk S) (h : MapW w r kk f S L) : (L.map (·.1)).Nodup := by
  obtain ⟨es, clock, hb, hs, hk, hL⟩ := h
  have h3 : (es.toList.map (·.key)).Nodup := hs.2.2
  have e1 : es.toList.map (·.key) = (L.map (·.1)).map kk := by
    have := congrArg (List.map Prod.fst) hL
    simpa [List.map_map, Function.comp_def] using this
  rw [e1] at h3
  have hp : ∀ l : List κ, (l.map kk).Nodup → l.Nodup := by
    intro l
    induction l with
    | nil => intro _; exact List.nodup_nil
    | cons a t ih =>
      intro h
      simp only [List.map_cons, List.nodup_cons] at h ⊢
      exact ⟨fun hm => h.1 (List.mem_map.2 ⟨a, hm, rfl⟩), ih h.2⟩
  exact hp _ h3
theorem MapW.find (K : KeyOk P k kk S) (w : World) {es : Array MapEntry} (hS : ∀ p ∈ L, S p.1) (hL : es.toList.map (fun e => (e.key, e.val)) = L.map (fun p => (kk p.1, f p.2))) (x : κ) (hx : S x) :
    ((Instr.findKey k (kk x) es.toList).run P w = .ok none w ∧ (∀ e ∈ es.toList, e.key ≠ kk x) ∧ ∀ p ∈ L, p.1 ≠ x) ∨
    ∃ j e b, (Instr.findKey k (kk x) es.toList).run P w = .ok (some (j, f b)) w ∧ es[j]? = some e ∧ e.key = kk x ∧ e.val = f b ∧ L[j]? = some (x, b) := by
  obtain ⟨lx, hlx⟩ := K.lit x hx
  have hkeys : ∀ e ∈ es.toList, ∃ l, keyOf P k e.key = some l := fun e he => by
    have : (e.key, e.val) ∈ L.map (fun p => (kk p.1, f p.2)) := by rw [← hL]; exact List.mem_map.2 ⟨e, he, rfl⟩
    obtain ⟨p, hp, hpe⟩ := List.mem_map.1 this
    simp only [Prod.mk.injEq] at hpe
    rw [← hpe.1]
    exact K.lit p.1 (hS p hp)
  rcases K.law.find w hlx es.toList hkeys with ⟨h1, h2⟩ | ⟨j, e, h1, h2, h3⟩
  · refine .inl ⟨h1, h2, fun p hp he => ?_⟩
    have hm : (kk p.1, f p.2) ∈ es.toList.map (fun e => (e.key, e.val)) := hL ▸ List.mem_map.2 ⟨p, hp, rfl⟩
    obtain ⟨y, hy, hye⟩ := List.mem_map.1 hm
    simp only [Prod.mk.injEq] at hye
    exact h2 y hy (by rw [hye.1, he])
  · have hg := congrArg (fun l => l[j]?) hL
    simp only [List.getElem?_map, h2, Option.map_some] at hg
    cases hl : L[j]? with
    | none => rw [hl] at hg; simp at hg
    | some p =>
      rw [hl] at hg
      simp only [Option.map_some, Option.some.injEq, Prod.mk.injEq] at hg
      have hp : p.1 = x := K.inj _ _ (hg.1.symm.trans h3)
      obtain ⟨a, b⟩ := p
      simp only at hp hg
      subst hp
      exact .inr ⟨j, e, b, by rw [h1, hg.2], by simpa using h2, h3, hg.2, hl⟩
theorem MapW.lookup (K : KeyOk P k kk S) {mt et : TypeId} (hm : P.underlying mt = some (.map k et)) {z : Value} (hz : (zeroValue et).run P w = .ok z w)
    (h : MapW w r kk f S L) (x : κ) (hx : S x) (c : Bool) :
    (Instr.lookup mt (.map (some r)) (kk x) c).run P w = .ok (if c then .tuple #[outOf z f (alook L x), .bool (alook L x).isSome] else outOf z f (alook L x)) w := by
  have hn := h.nodup K
  obtain ⟨es, clock, hb, hs, hS, hL⟩ := h
  obtain ⟨lx, hlx⟩ := K.lit x hx
  rcases MapW.find K w hS hL x hx with ⟨h1, h2, h3⟩ | ⟨j, e, b, h1, h2, h3, h4, h5⟩
  · rw [alook_none h3]
    cases c <;> simp [Instr.lookup, run_underlying hm, MapKept.run_getObj_map hb, K.law.check w _ hlx, h1, hz, outOf, Result.andThen]
  · rw [(assoc_at hn h5).1]
    cases c <;> simp [Instr.lookup, run_underlying hm, MapKept.run_getObj_map hb, K.law.check w _ hlx, h1, outOf, Result.andThen]
theorem MapW.update (K : KeyOk P k kk S) {mt et : TypeId} (hm : P.underlying mt = some (.map k et)) (h : MapW w r kk f S L) (x : κ) (hx : S x) (v : β) :
    ∃ o, (Instr.mapUpdate mt (.map (some r)) (kk x) (f v)).run P w = .ok () (setBlock w r o) ∧ MapW (setBlock w r o) r kk f S (aset L x v) := by
  have hn := h.nodup K
  obtain ⟨es, clock, hb, hs, hS, hL⟩ := h
  obtain ⟨lx, hlx⟩ := K.lit x hx
  have hS' : ∀ p ∈ aset L x v, S p.1 := fun p hp => by
    rcases aset_mem hp with rfl | hp
    · exact hx
    · exact hS p hp
  rcases MapW.find K w hS hL x hx with ⟨h1, h2, h3⟩ | ⟨j, e, b, h1, h2, h3, h4, h5⟩
  · refine ⟨.map (es.push { key := kk x, val := f v, born := clock }) (clock + 1), ?_, ?_⟩
    · simp [Instr.mapUpdate, run_underlying hm, MapKept.run_getObj_map hb, K.law.check w false hlx, h1, MapKept.run_setObj_map _ hb, Result.andThen, setBlock]
    · rw [aset_new h3] at hS' ⊢
      exact ⟨_, _, (heap_set hb).1, stamped_push hs h2, hS', by simp [hL]⟩
  · have h2' : es.toList[j]? = some e := by simpa using h2
    have hkeyf : ∀ e', es[j]? = some e' → ({ e' with key := kk x, val := f v } : MapEntry).key = e'.key := fun e' he' => by rw [h2] at he'; cases he'; exact h3.symm
    refine ⟨.map (es.modify j (fun e' => { e' with key := kk x, val := f v })) clock, ?_, ?_⟩
    · simp [Instr.mapUpdate, run_underlying hm, MapKept.run_getObj_map hb, K.law.check w false hlx, h1, h2, h3, K.law.stays w hlx, MapKept.run_setObj_map _ hb, Result.andThen, setBlock]
    · rw [(assoc_at hn h5).2.1 v] at hS' ⊢
      refine ⟨_, _, (heap_set hb).1, stamped_modify hs _ _ (fun _ _ => rfl) (fun e' _ he' => hkeyf e' he'), hS', ?_⟩
      rw [Array.toList_modify, modify_eq_set _ _ _ _ h2', List.map_set, List.map_set, hL]
end
/-- pairs of numbers as keys -/
def opV (a : Int × Int) : Value := .agg #[.int .i64 a.1, .int .i64 a.2]
def OpFit (a : Int × Int) : Prop := (-9223372036854775808 ≤ a.1 ∧ a.1 ≤ 9223372036854775807) ∧ (-9223372036854775808 ≤ a.2 ∧ a.2 ≤ 9223372036854775807)
theorem arr_key : ArrKey Tryz.prog 37 3 2 := ⟨Tryz.underlying37, by kernel_rfl, by kernel_rfl, by kernel_rfl⟩
theorem wf_i64 {z : Int} (h : -9223372036854775808 ≤ z ∧ z ≤ 9223372036854775807) : (Lit.int .i64 z).wf = true := by simpa [Lit.wf, IntKind.min, IntKind.max, IntKind.signed, IntKind.bits] using h
theorem opKey : KeyOk Tryz.prog 37 opV OpFit where
  law := arr_key.law
  lit := fun x hx => ⟨_, keyOf_pair arr_key Tryz.underlying3 ⟨Tryz.prog.types.size - 1, by kernel_rfl⟩ (wf_i64 hx.1) (wf_i64 hx.2)⟩
  inj := fun x y h => by
    simp [opV] at h
    exact Prod.ext h.1 h.2
end Go.Proofs.YtbmoehndnbbhcaaGreatDoor
namespace Go.Proofs.YtbmoehndnbbhcaaGreatDoor
set_option linter.unusedVariables false
set_option linter.unusedSimpArgs false
open Go Go.RowKit Go.WideMaps Go.WideShapes
def I64 (z : Int) : Prop := -9223372036854775808 ≤ z ∧ z ≤ 9223372036854775807
structure ResF.Fit (r : ResF) : Prop where
  err : I64 r.err
  value : 0 ≤ r.value ∧ r.value ≤ 18446744073709551615
  key : r.key.size ≤ maxLen
  count : I64 r.count
  ref : I64 r.ref
  root : I64 r.root
theorem wf_u64 {z : Int} (h : 0 ≤ z ∧ z ≤ 18446744073709551615) : (Lit.int .u64 z).wf = true := by simpa [Lit.wf, IntKind.min, IntKind.max, IntKind.signed, IntKind.bits] using h
theorem res_types : Tryz.prog.types.size = (Tryz.prog.types.size - 5) + 1 + 1 + 1 + 1 + 1 := by kernel_rfl
def resV (r : ResF) : Value := .agg #[.int .i64 r.err, .bool r.found, .int .u64 r.value, .string r.key, .int .i64 r.count, .int .i64 r.ref, .int .i64 r.root, .bool r.ro]
theorem res_keyType : Tryz.prog.keyType 45 = true := by kernel_rfl
theorem resT_cells : Tryz.prog.cellsOf 45 = 8 := by kernel_rfl
theorem trie_cells : Tryz.prog.cellsOf 43 = 2 := by kernel_rfl
theorem err_cells : Tryz.prog.cellsOf 27 = 1 := by kernel_rfl
theorem ref_cells : Tryz.prog.cellsOf 40 = 1 := by kernel_rfl
theorem cell_cells : Tryz.prog.cellsOf 41 = 1 := by kernel_rfl
theorem bool_cells : Tryz.prog.cellsOf 4 = 1 := by kernel_rfl
theorem int_cells : Tryz.prog.cellsOf 3 = 1 := by kernel_rfl
theorem str_cells : Tryz.prog.cellsOf 9 = 1 := by kernel_rfl
theorem u64_cells : Tryz.prog.cellsOf 22 = 1 := by kernel_rfl
theorem kl_int {P : Program} {t : TypeId} {q : IntKind} (h : P.underlying t = some (.int q)) (d : Nat) {n : Int} (w : (Lit.int q n).wf = true) : P.keyLits (d + 1) t [.int q n] = some [.int q n] := by
  simp [Program.keyLits, h, w]
theorem kl_bool {P : Program} {t : TypeId} (h : P.underlying t = some .bool) (d : Nat) (b : Bool) : P.keyLits (d + 1) t [.bool b] = some [.bool b] := by
  simp [Program.keyLits, h]
theorem kl_str {P : Program} {t : TypeId} (h : P.underlying t = some .string) (d : Nat) (b : ByteArray) (hb : b.size ≤ maxLen) : P.keyLits (d + 1) t [.string b] = some [.string b.data.toList] := by
  unfold Program.keyLits
  simp only [h]
  rw [if_pos hb]
theorem kl_trie (d : Nat) {n : Int} (w : (Lit.int .i64 n).wf = true) (b : Bool) : Tryz.prog.keyLits (d + 1 + 1) 43 [.int .i64 n, .bool b] = some [.int .i64 n, .bool b] := by
  unfold Program.keyLits
  simp only [Tryz.underlying43]
  rw [if_pos ⟨by rw [trie_cells]; rfl, by kernel_rfl⟩]
  simp [cell_cells, bool_cells, kl_int Tryz.underlying41 _ w, kl_bool Tryz.underlying4]
theorem res_lit (r : ResF) (h : r.Fit) : ∃ l, keyOf Tryz.prog 45 (resV r) = some l := by
  have w0 := wf_i64 h.err
  have w1 := wf_u64 h.value
  have w2 := wf_i64 h.count
  have w3 := wf_i64 h.ref
  have w4 := wf_i64 h.root
  have w5 := h.key
  unfold resV keyOf
  simp only [Tryz.underlying45]
  rw [if_pos (by simp [res_keyType, Value.formed, Tryz.underlying45, resT_cells]), res_types]
  generalize Tryz.prog.types.size - 5 = D
  unfold Program.keyLits
  simp only [Tryz.underlying45, Value.cells]
  rw [if_pos ⟨by rw [resT_cells]; rfl, by kernel_rfl⟩]
  simp only [List.mapM_cons, List.mapM_nil, trie_cells, err_cells, ref_cells, cell_cells, bool_cells, int_cells, str_cells, u64_cells, List.drop_zero, List.drop_succ_cons, List.take_succ_cons, List.take_zero, kl_int Tryz.underlying27 _ w0, kl_bool Tryz.underlying4, kl_int Tryz.underlying22 _ w1, kl_str Tryz.underlying9 _ _ w5, kl_int Tryz.underlying3 _ w2, kl_int Tryz.underlying40 _ w3, kl_trie _ w4]
  simp
theorem resKey : KeyOk Tryz.prog 45 resV ResF.Fit where
  law := deep_law_gate (by kernel_rfl) (of_decide_eq_true (by kernel_rfl)) (of_decide_eq_true (by kernel_rfl)) res_keyType (by kernel_rfl)
  lit := res_lit
  inj := fun x y h => by
    obtain ⟨a0, a1, a2, a3, a4, a5, a6, a7⟩ := x
    obtain ⟨b0, b1, b2, b3, b4, b5, b6, b7⟩ := y
    simp only [resV, Value.agg.injEq, Array.mk.injEq, List.cons.injEq, Value.int.injEq, Value.bool.injEq, Value.string.injEq, true_and, and_true] at h
    obtain ⟨rfl, rfl, rfl, rfl, rfl, rfl, rfl, rfl⟩ := h
    rfl
theorem run_res (w : World) {r s : ResF} (hr : r.Fit) (hs : s.Fit) : (Op.equal 45 (resV r) (resV s)).run Tryz.prog w = .ok (decide (r = s)) w := by
  obtain ⟨lr, h1⟩ := res_lit r hr
  obtain ⟨ls, h2⟩ := res_lit s hs
  obtain ⟨b, hb, hi⟩ := run_equal_deep w (m := Tryz.prog.types.size + 1) (of_decide_eq_true (by kernel_rfl)) (k := 45) (by kernel_rfl) (by kernel_rfl) h1 h2
  rw [hb]
  have : b = decide (r = s) := by
    rw [Bool.eq_iff_iff, hi, decide_eq_true_eq]
    exact ⟨fun e => resKey.inj _ _ (resKey.law.inj h1 (e ▸ h2)), fun e => by subst e; rw [h1] at h2; exact Option.some.inj h2⟩
  rw [this]
theorem res_guard : Tryz.prog.eqGuardType Tryz.prog.depth 45 = false := by kernel_rfl
theorem run_guardR (op : BinOp) (w : World) (x y : Operand) (u v : Array Value) : (eqGuard op 45 x y (.agg u) (.agg v)).run Tryz.prog w = .ok () w := by
  cases op <;> simp [eqGuard, go_sem, res_guard]
/-- two results are compared -/
theorem wpList_res_ne {ops : Array Oper} {rest : List Oper} {o : Oper} {a : Act} {Q : Exit → Act → World → Prop} (w : World) (hgd : o.guard = none) (x y : Operand) (ho : o.op = .binOp .neq 45 x y 45) (r s : ResF) (hr : r.Fit) (hs : s.Fit) (hx : a.eval x = resV r) (hy : a.eval y = resV s)
    (h : wpList Tryz.prog ops Q rest (a.put o.dst (.bool (!decide (r = s)))) w) : wpList Tryz.prog ops Q (o :: rest) a w := by
  refine wpList_plain hgd fun K hK => ?_
  have e := run_res w hr hs
  unfold Oper.wp execOp
  unfold resV at hx hy e
  simp only [ho, hx, hy, run_guardR, binOp, Sem.run_bind, Sem.run_pure, Result.andThen_ok, e]
  exact hK _ _ h
/-- two results are compared, behind a guard that holds -/
theorem wpList_res_neG {ops : Array Oper} {rest : List Oper} {o : Oper} {a : Act} {Q : Exit → Act → World → Prop} (w : World) (x y : Operand) (ho : o.op = .binOp .neq 45 x y 45) (hgd : Region.wanted o (yielded ops a.tmps) = true) (r s : ResF) (hr : r.Fit) (hs : s.Fit) (hx : a.eval x = resV r) (hy : a.eval y = resV s)
    (h : wpList Tryz.prog ops Q rest (a.put o.dst (.bool (!decide (r = s)))) w) : wpList Tryz.prog ops Q (o :: rest) a w := by
  refine wpList_step fun K hK => ?_
  rw [if_pos hgd]
  have e := run_res w hr hs
  unfold Oper.wp execOp
  unfold resV at hx hy e
  simp only [ho, hx, hy, run_guardR, binOp, Sem.run_bind, Sem.run_pure, Result.andThen_ok, e]
  exact hK _ _ h
theorem zero_fit : ResF.zero.Fit := ⟨by unfold I64; decide, by decide, by unfold maxLen; decide, by unfold I64; decide, by unfold I64; decide, by unfold I64; decide⟩
end Go.Proofs.YtbmoehndnbbhcaaGreatDoor
