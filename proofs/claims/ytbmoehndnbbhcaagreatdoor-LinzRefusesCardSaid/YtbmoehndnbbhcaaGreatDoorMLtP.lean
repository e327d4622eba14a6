/- Histories as plain data: proper histories, places of events. No program in sight. Histories as plain data: Check, the operations' results, justified, members, order. No program in sight. The order of pairs. No walk in sight. -/
import Derived.Test.YtbmoehndnbbhcaaGreatDoorMAbs
namespace Go.Proofs.YtbmoehndnbbhcaaGreatDoor
set_option linter.unusedVariables false
set_option linter.unusedSimpArgs false
/-- a result, whole -/
structure ResF where
  err : Int
  found : Bool
  value : Int
  key : ByteArray
  count : Int
  ref : Int
  root : Int
  ro : Bool
  deriving DecidableEq
def ResF.zero : ResF := ⟨0, false, 0, ⟨#[]⟩, 0, 0, 0, false⟩
def ResD.full (r : ResD) : ResF := ⟨r.err, r.found, r.value, r.key, r.count, 0, 0, false⟩
/-- an event -/
structure EvD where
  thread : Int
  index : Int
  ret : Bool
  res : ResF
/-- an operation's place -/
abbrev OpP := Int × Int
def EvD.op (e : EvD) : OpP := (e.thread, e.index)
/-- how many of the first i events are of a thread -/
def cntT (l : List EvD) (i : Nat) (t : Int) : Nat := ((l.take i).filter (fun e => e.thread == t)).length
/-- an event that may stand at its place -/
structure EvOk (ops : List Nat) (l : List EvD) (i : Nat) (e : EvD) : Prop where
  t0 : 0 ≤ e.thread
  t1 : e.thread < ops.length
  idx : e.index = (cntT l i e.thread / 2 : Nat)
  lim : ∀ n, ops[e.thread.toNat]? = some n → cntT l i e.thread / 2 < n
  ret : e.ret = (cntT l i e.thread % 2 == 1)
  res : e.ret = false → e.res = ResF.zero
def ProperP (ops : List Nat) (l : List EvD) : Prop := ∀ i e, l[i]? = some e → EvOk ops l i e
theorem cntT_succ {l : List EvD} {i : Nat} {e : EvD} (h : l[i]? = some e) (t : Int) : cntT l (i + 1) t = cntT l i t + (if e.thread = t then 1 else 0) := by
  unfold cntT
  have hi := (List.getElem?_eq_some_iff.1 h).1
  rw [List.take_add_one, h]
  simp only [Option.toList_some, List.filter_append, List.length_append]
  by_cases ht : e.thread = t
  · simp [ht]
  · simp [ht]
theorem cntT_mono {l : List EvD} {i j : Nat} (h : i ≤ j) (t : Int) : cntT l i t ≤ cntT l j t := by
  unfold cntT
  have : (l.take i).Sublist (l.take j) := (List.take_prefix_take_left h).sublist
  exact (this.filter _).length_le
/-- an operation is invoked and returns at one place each -/
theorem ProperP.uniq {ops : List Nat} {l : List EvD} (hp : ProperP ops l) {i j : Nat} {e f : EvD} (hi : l[i]? = some e) (hj : l[j]? = some f) (ho : e.op = f.op) (hr : e.ret = f.ret) : i = j := by
  have key : ∀ {i j : Nat} {e f : EvD}, l[i]? = some e → l[j]? = some f → e.op = f.op → e.ret = f.ret → ¬ i < j := by
    intro i j e f hi hj ho hr hlt
    have a := hp i e hi
    have b := hp j f hj
    have ht : e.thread = f.thread := congrArg Prod.fst ho
    have hx : e.index = f.index := congrArg Prod.snd ho
    have c1 := cntT_succ hi e.thread
    rw [if_pos rfl] at c1
    have c2 := cntT_mono (l := l) (show i + 1 ≤ j from hlt) e.thread
    have i1 := a.idx
    have i2 := b.idx
    rw [← ht] at i2
    have r1 := a.ret
    have r2 := b.ret
    rw [← ht] at r2
    have hm : (cntT l i e.thread % 2 == 1) = (cntT l j e.thread % 2 == 1) := by rw [← r1, ← r2, hr]
    have hd : cntT l i e.thread / 2 = cntT l j e.thread / 2 := by omega
    have hm2 : (cntT l i e.thread % 2 = 1) ↔ (cntT l j e.thread % 2 = 1) := by
      have := congrArg (· = true) hm
      simpa using this
    omega
  exact Nat.le_antisymm (Nat.le_of_not_lt (key hj hi ho.symm hr.symm)) (Nat.le_of_not_lt (key hi hj ho hr))
/-- the place of the first event of an operation -/
def whenP (l : List EvD) (a : OpP) (back : Bool) : Int :=
  match l.findIdx? (fun e => e.thread == a.1 && e.index == a.2 && e.ret == back) with
  | some i => i
  | none => -1
/-- the place of the last one among the first n -/
def lastP (l : List EvD) (a : OpP) (back : Bool) : Nat → Int
  | 0 => -1
  | n + 1 => match l[n]? with
    | some e => if e.thread = a.1 ∧ e.index = a.2 ∧ e.ret = back then n else lastP l a back n
    | none => lastP l a back n
end Go.Proofs.YtbmoehndnbbhcaaGreatDoor
namespace Go.Proofs.YtbmoehndnbbhcaaGreatDoor
set_option linter.unusedVariables false
set_option linter.unusedSimpArgs false
def BigP (ops : List Nat) : Prop := 8 < ops.length ∨ ∃ n ∈ ops, 16 < n
open Classical in
noncomputable def checkP (ops : List Nat) (l : List EvD) : Int := if BigP ops then 3 else if ProperP ops l then 0 else 1
theorem check_big {ops : List Nat} {l : List EvD} (h : BigP ops) : checkP ops l = 3 := if_pos h
theorem check_bad {ops : List Nat} {l : List EvD} (h : ¬ BigP ops) (hp : ¬ ProperP ops l) : checkP ops l = 1 := by unfold checkP; rw [if_neg h, if_neg hp]
theorem check_ok {ops : List Nat} {l : List EvD} (h : ¬ BigP ops) (hp : ProperP ops l) : checkP ops l = 0 := by unfold checkP; rw [if_neg h, if_pos hp]
theorem check_zero {ops : List Nat} {l : List EvD} (h : checkP ops l = 0) : ¬ BigP ops ∧ ProperP ops l := by
  unfold checkP at h
  split at h
  · exact absurd h (by decide)
  · rename_i hb
    split at h
    · rename_i hp; exact ⟨hb, hp⟩
    · exact absurd h (by decide)
theorem check_bounds (ops : List Nat) (l : List EvD) : 0 ≤ checkP ops l ∧ checkP ops l ≤ 3 := by
  unfold checkP; split
  · decide
  · split <;> decide
/-- the counts of the threads' events among the first i -/
def cnts (n : Nat) (l : List EvD) (i : Nat) : List Nat := (List.range n).map fun (t : Nat) => cntT l i (t : Int)
theorem cnts_len (n : Nat) (l : List EvD) (i : Nat) : (cnts n l i).length = n := by simp [cnts]
theorem cnts_get {n : Nat} {l : List EvD} {i t : Nat} (ht : t < n) : (cnts n l i)[t]? = some (cntT l i (t : Int)) := by simp [cnts, ht]
theorem cnts_zero (n : Nat) (l : List EvD) : cnts n l 0 = List.replicate n 0 := by
  apply List.ext_getElem?
  intro i
  by_cases h : i < n
  · rw [cnts_get h, List.getElem?_replicate]; simp [h, cntT]
  · rw [List.getElem?_eq_none (by simp [cnts_len]; omega), List.getElem?_eq_none (by simp; omega)]
theorem cnts_succ {n : Nat} {l : List EvD} {i : Nat} {e : EvD} {t : Nat} (hi : l[i]? = some e) (he : e.thread = t) (ht : t < n) : cnts n l (i + 1) = (cnts n l i).set t (cntT l i t + 1) := by
  apply List.ext_getElem?
  intro k
  rw [List.getElem?_set]
  by_cases hk : k < n
  · rw [cnts_get hk, cntT_succ hi]
    by_cases hkt : t = k
    · subst hkt; simp [he, cnts_len, ht]
    · rw [if_neg hkt, cnts_get hk, if_neg (by rw [he]; omega)]; simp
  · rw [List.getElem?_eq_none (by simp [cnts_len]; omega)]
    by_cases hkt : t = k
    · omega
    · rw [if_neg hkt, List.getElem?_eq_none (by simp [cnts_len]; omega)]
theorem cntT_le (l : List EvD) (i : Nat) (t : Int) : cntT l i t ≤ i := by
  unfold cntT
  refine Nat.le_trans (List.length_filter_le _ _) ?_
  rw [List.length_take]; omega
/-- an operation's result, if it has returned -/
def resultP (l : List EvD) (a : OpP) : Option ResF := if whenP l a true < 0 then none else (l[(whenP l a true).toNat]?).map (·.res)
def beforeP (l : List EvD) (a b : OpP) : Bool := decide (0 ≤ whenP l a true) && decide (whenP l a true < whenP l b false)
def invokedP (l : List EvD) : List OpP := (List.range l.length).filterMap fun i => match l[i]? with
  | some e => if e.ret = false ∧ whenP l e.op false = i then some e.op else none
  | none => none
def refusedP (l : List EvD) (a : OpP) : Bool := match resultP l a with
  | some r => r.err == 5
  | none => false
def opAt (ts : List (List OpD)) (a : OpP) : OpD := ((ts[a.1.toNat]?.getD [])[a.2.toNat]?).getD ⟨0, 0, ⟨#[]⟩, 0, 0⟩
end Go.Proofs.YtbmoehndnbbhcaaGreatDoor
namespace Go.Proofs.YtbmoehndnbbhcaaGreatDoor
set_option linter.unusedVariables false
set_option linter.unusedSimpArgs false
open Go.RowKit Go.MapKept
theorem ltP_total {m : Int} {x y : ByteArray × Int} (h1 : ltP m x y = false) (h2 : ltP m y x = false) : x.1 = y.1 :=
  bytes_ext _ _ (less_total _ _ _ _ (hashM_bd _ _).1 (hashM_bd _ _).2 (hashM_bd _ _).1 (hashM_bd _ _).2 h1 h2).2
theorem ltP_irrefl (m : Int) (x : ByteArray × Int) : ltP m x x = false := less_irrefl _ _
theorem ltP_trans {m : Int} {x y z : ByteArray × Int} (h1 : ltP m x y = true) (h2 : ltP m y z = true) : ltP m x z = true := less_trans _ _ _ _ _ _ h1 h2
theorem ltP_asymm {m : Int} {x y : ByteArray × Int} (h1 : ltP m x y = true) : ltP m y x = false := less_asymm _ _ _ _ h1
theorem ltP_ntrans {m : Int} {x y z : ByteArray × Int} (h1 : ltP m x y = false) (h2 : ltP m y z = false) : ltP m x z = false := by
  cases h : ltP m x z with
  | false => rfl
  | true =>
    cases hyx : ltP m y x with
    | true => have := ltP_trans hyx h; rw [h2] at this; exact this.symm
    | false =>
      have e := ltP_total h1 hyx
      have : ltP m y z = ltP m x z := by unfold ltP; rw [e]
      rw [h2, h] at this
      exact this.symm
theorem sortedOf_sorted (m : Int) (L : List (ByteArray × Int)) : (sortedOf m L).Pairwise (fun a b => ltP m b a = false) := by
  have h := List.pairwise_mergeSort (le := fun a b : ByteArray × Int => !ltP m b a) (fun a b c h1 h2 => by
    simp only [Bool.not_eq_true'] at h1 h2 ⊢
    exact ltP_ntrans h2 h1) (fun a b => by
    cases hx : ltP m b a with
    | false => simp
    | true => simp [ltP_asymm hx]) L
  exact h.imp (fun hh => by simpa using hh)
end Go.Proofs.YtbmoehndnbbhcaaGreatDoor
