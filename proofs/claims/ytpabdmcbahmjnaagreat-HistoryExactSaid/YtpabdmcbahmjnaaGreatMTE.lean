/- Part of a proof: T18 T19 T20 TTab T21 T22. -/
import Derived.Test.YtpabdmcbahmjnaaGreatMTD
import Derived.Test.YtpabdmcbahmjnaaGreatMTA
import Derived.Test.YtpabdmcbahmjnaaGreatProg
import Derived.Laws.StructEq
namespace Go.Proofs.YtpabdmcbahmjnaaGreat
namespace Tv
open Go Go.RowKit
set_option linter.unusedSimpArgs false
set_option linter.unusedVariables false
def zeroIs : CT → Value → Bool
 | .int k, .int k' n => ikEq k k' && (n == 0)
 | .bool, .bool b => !b
 | .str, .string s => Nat.beq s.size 0
 | .slice _, .slice none n c => Nat.beq n 0 && Nat.beq c 0
 | .ptr, .pointer none => true
 | _, _ => false
def zerosIs : List CT → List Value → Bool
 | [], [] => true
 | x :: xs, v :: vs => zeroIs x v && zerosIs xs vs
 | _, _ => false
theorem zeroIs_eq {ct : CT} {v : Value} (h : zeroIs ct v = true) : v = zeroVal ct := by
 unfold zeroIs at h
 split at h
 ·rw [Bool.and_eq_true] at h
  rw [ikEq_eq h.1, eq_of_beq h.2]
  rfl
 ·simp at h
  subst h
  rfl
 ·rename_i s
  have h := Nat.eq_of_beq_eq_true h
  obtain ⟨d⟩ := s
  have h : d.size = 0 := h
  have : d = #[] := Array.eq_empty_of_size_eq_zero h
  subst this
  rfl
 ·rw [Bool.and_eq_true] at h
  rw [Nat.eq_of_beq_eq_true h.1, Nat.eq_of_beq_eq_true h.2]
  rfl
 ·rfl
 ·cases h
theorem zerosIs_eq : ∀ {cts : List CT} {vs : List Value}, zerosIs cts vs = true → vs = cts.map zeroVal
 | [], [], _ => rfl
 | [], _ :: _, h => by simp [zerosIs] at h
 | _ :: _, [], h => by simp [zerosIs] at h
 | x :: xs, v :: vs, h => by
  unfold zerosIs at h
  rw [Bool.and_eq_true] at h
  rw [zeroIs_eq h.1, zerosIs_eq h.2]
  rfl
def infoChk (P : Program) (T : TypeId) (r : Row) : Bool := match P.info? T with
 | some i => Nat.blt 0 r.lay.length && (Nat.beq i.size r.lay.length && ((Nat.ble i.bytes 500 || Nat.blt 32 r.lay.length) && match i.zero with | some z => zerosIs r.lay z.cells.toList | none => false))
 | none => false
def natPairs : List (Nat × Nat) → List (Nat × Nat) → Bool
 | [], [] => true
 | x :: xs, y :: ys => Nat.beq x.1 y.1 && (Nat.beq x.2 y.2 && natPairs xs ys)
 | _, _ => false
theorem natPairs_eq : ∀ {a b : List (Nat × Nat)}, natPairs a b = true → a = b
 | [], [], _ => rfl
 | [], _ :: _, h => by simp [natPairs] at h
 | _ :: _, [], h => by simp [natPairs] at h
 | x :: xs, y :: ys, h => by
  unfold natPairs at h
  rw [Bool.and_eq_true, Bool.and_eq_true] at h
  rw [natPairs_eq h.2.2]
  congr 1
  exact Prod.ext (Nat.eq_of_beq_eq_true h.1) (Nat.eq_of_beq_eq_true h.2.1)
def kindChk (P : Program) (T : TypeId) (r : Row) : Bool := match P.underlying T, r.agg, r.lay, r.fields with
 | some (.struct fs), true, _, fields => natPairs (fs.toList.map fun f => (f.offset, f.type)) fields
 | some (.int k), false, [.int k'], [] => ikEq k k'
 | some .bool, false, [.bool], [] => true
 | some .string, false, [.str], [] => true
 | some (.slice _), false, [.slice _], [] => true
 | some (.pointer _), false, [.ptr], [] => true
 | _, _, _, _ => false
def fieldChk (t : Tab) (r : Row) : List (Nat × TypeId) → Bool
 | [] => true
 | (o, ft) :: l => (match t.row ft with | some rf => Nat.ble (o + rf.lay.length) r.lay.length && ctsEq ((r.lay.drop o).take rf.lay.length) rf.lay | none => false) && fieldChk t r l
def tabChk (P : Program) (t : Tab) : Bool :=
 (t.rows.all fun x => infoChk P x.1 x.2 && (kindChk P x.1 x.2 && fieldChk t x.2 x.2.fields)) &&
 t.slices.all fun x => match P.underlying x.1, t.row x.2 with
  | some (.slice e), some r => Nat.beq e x.2 && Nat.ble r.lay.length 32
  | _, _ => false
theorem fieldChk_ok {t : Tab} {r : Row} : ∀ {l : List (Nat × TypeId)}, fieldChk t r l = true → ∀ o ft, (o, ft) ∈ l → ∃ rf, t.row ft = some rf ∧ o + rf.lay.length ≤ r.lay.length ∧ ∀ i, i < rf.lay.length → r.lay[o + i]? = rf.lay[i]?
 | [], _, _, _, h => by cases h
 | (o', ft') :: l, hk, o, ft, h => by
  unfold fieldChk at hk
  rw [Bool.and_eq_true] at hk
  rcases List.mem_cons.1 h with h | h
  ·injection h with h1 h2
   subst h1; subst h2
   have := hk.1
   split at this
   ·rename_i rf hrf
    rw [Bool.and_eq_true] at this
    refine ⟨rf, hrf, Nat.le_of_ble_eq_true this.1, fun i hi => ?_⟩
    have h2 := ctsEq_eq this.2
    rw [← h2, List.getElem?_take, List.getElem?_drop, if_pos]
    rw [← h2] at hi
    simp at hi ⊢
    omega
   ·cases this
  ·exact fieldChk_ok hk.2 o ft h
theorem tabChk_ok {P : Program} {t : Tab} (h : tabChk P t = true) : TabOk P t := by
 unfold tabChk at h
 rw [Bool.and_eq_true] at h
 obtain ⟨h1, h2⟩ := h
 constructor
 ·intro T r hr
  have := List.all_eq_true.1 h1 _ (assoc_mem hr)
  rw [Bool.and_eq_true, Bool.and_eq_true] at this
  obtain ⟨k1, k2, k3⟩ := this
  have hkind := k2
  unfold infoChk at k1
  split at k1
  case h_2 => cases k1
  rename_i i hi
  rw [Bool.and_eq_true, Bool.and_eq_true, Bool.and_eq_true] at k1
  obtain ⟨g1, g2, g3, g4⟩ := k1
  split at g4
  case h_2 => cases g4
  rename_i z hz
  refine ⟨by simpa using g1, ⟨i, z, hi, Nat.eq_of_beq_eq_true g2, hz, zerosIs_eq g4, by simpa using g3⟩, ?_, ?_, fieldChk_ok k3⟩
  ·intro ha
   unfold kindChk at k2
   split at k2
   ·rename_i fs hu _
    exact ⟨fs, hu, natPairs_eq k2⟩
   all_goals first | (rename_i e _; rw [ha] at e; cases e) | (rename_i e _ _; rw [ha] at e; cases e) | cases k2
  ·intro ha
   unfold kindChk at k2
   split at k2
   ·rename_i e; rw [ha] at e; cases e
   ·rename_i k k' hu e1 e2 e3
    exact ⟨e3, .int k', _, e2, hu, rfl, (fun k0 h0 => by injection h0 with h0; rw [← h0, ikEq_eq k2]), fun h => by cases h⟩
   ·rename_i hu e1 e2 e3
    exact ⟨e3, .bool, _, e2, hu, rfl, (fun k0 h0 => by cases h0), fun h => by cases h⟩
   ·rename_i hu e1 e2 e3
    exact ⟨e3, .str, _, e2, hu, rfl, (fun k0 h0 => by cases h0), fun h => rfl⟩
   ·rename_i hu e1 e2 e3
    exact ⟨e3, .slice _, _, e2, hu, rfl, (fun k0 h0 => by cases h0), fun h => by cases h⟩
   ·rename_i hu e1 e2 e3
    exact ⟨e3, .ptr, _, e2, hu, rfl, (fun k0 h0 => by cases h0), fun h => by cases h⟩
   ·cases k2
 ·intro T e he
  have := List.all_eq_true.1 h2 _ (assoc_mem he)
  simp only at this
  split at this
  ·rename_i e' r hu hr
   rw [Bool.and_eq_true] at this
   rw [Nat.eq_of_beq_eq_true this.1] at hu
   exact ⟨hu, r, hr, Nat.le_of_ble_eq_true this.2⟩
  ·cases this
def opnX : CV → (CV → Prop) → Prop
 | .sl E B, K => ∀ n : Nat, n ≤ B → n ≤ 140737488355328 → K (.slice E n)
 | x, K => K x
def opnS : List CV → (List CV → Prop) → Prop
 | [], K => K []
 | x :: xs, K => opnX x fun y => opnS xs fun ys => K (y :: ys)
def opnB : List (Nat × List CV) → (List (Nat × List CV) → Prop) → Prop
 | [], K => K []
 | (i, cs) :: l, K => opnS cs fun cs => opnB l fun l => K ((i, cs) :: l)
def OB (l : List (Nat × List CV)) (K : List (Nat × List CV) → Prop) : Prop := opnB l K ∨ K l
def opnA : List AV → (List AV → Prop) → Prop
 | [], K => K []
 | x :: xs, K => opnV x fun y => opnA xs fun ys => K (y :: ys)
theorem opnC_imp {x : CV} {K K' : CV → Prop} (h : ∀ y, K y → K' y) (hk : opnC x K) : opnC x K' := by
 cases x with
 | tint k => exact fun n hn => h _ (hk n hn)
 | tbool => exact fun p => h _ (hk p)
 | sl E B => exact fun n h1 h2 => h _ (hk n h1 h2)
 | _ => exact h _ hk
theorem opnL_imp : ∀ {xs : List CV} {K K' : List CV → Prop}, (∀ y, K y → K' y) → opnL xs K → opnL xs K'
 | [], _, _, h, hk => h _ hk
 | _ :: _, _, _, h, hk => opnC_imp (fun _ h1 => opnL_imp (fun _ h2 => h _ h2) h1) hk
theorem opnT_imp {x : TV} {K K' : TV → Prop} (h : ∀ y, K y → K' y) (hk : opnT x K) : opnT x K' := by
 cases x with
 | c x => exact opnC_imp (x := x) (fun _ h1 => h _ h1) hk
 | agg xs => exact opnL_imp (xs := xs) (fun _ h1 => h _ h1) hk
theorem opnP_imp : ∀ {xs : List TV} {K K' : List TV → Prop}, (∀ y, K y → K' y) → opnP xs K → opnP xs K'
 | [], _, _, h, hk => h _ hk
 | _ :: _, _, _, h, hk => opnT_imp (fun _ h1 => opnP_imp (fun _ h2 => h _ h2) h1) hk
theorem opnV_imp {x : AV} {K K' : AV → Prop} (h : ∀ y, K y → K' y) (hk : opnV x K) : opnV x K' := by
 cases x with
 | one x => exact opnT_imp (x := x) (fun _ h1 => h _ h1) hk
 | tup xs => exact opnP_imp (xs := xs) (fun _ h1 => h _ h1) hk
theorem opnA_imp : ∀ {xs : List AV} {K K' : List AV → Prop}, (∀ y, K y → K' y) → opnA xs K → opnA xs K'
 | [], _, _, h, hk => h _ hk
 | _ :: _, _, _, h, hk => opnV_imp (fun _ h1 => opnA_imp (fun _ h2 => h _ h2) h1) hk
structure Fs where
 α : Type
 δ : Type
 A : α → List AV
 B : α → List (Nat × List CV)
 L : α → Nat
 /-- the parameters, read off the arguments and the boxes -/
 get : List AV → Bx → Nat → Option α
 pre : α → Prop
 rel : α → δ → Prop
 R : α → δ → AV
 B' : α → δ → List (Nat × List CV)
 L' : α → δ → Nat
 reads : List Nat
 tc : List Nat
 /-- how the walk begins -/
 st : α → (List AV → List (Nat × List CV) → Nat → Prop) → Prop
 st_ok : ∀ p k, st p k → opnA (A p) fun avs => OB (B p) fun B => k avs B (L p)
 /-- what a caller gets, one thing after the other -/
 cps : α → (AV → List (Nat × List CV) → Nat → Prop) → Prop
 cur : ∀ p k, cps p k → ∀ q, rel p q → OB (B' p q) fun B => k (R p q) B (L' p q)
def wkT (x y : TV) : Prop :=
 match y with
 | .c y => match y with
  | .any => True
  | y => match x with
   | .c x => wkC x y
   | _ => False
 | .agg ys => match x with
  | .agg xs => wkL xs ys
  | _ => False
def wkP : List TV → List TV → Prop
 | [], [] => True
 | x :: xs, y :: ys => wkT x y ∧ wkP xs ys
 | _, _ => False
def wkR (x y : AV) : Prop :=
 match y with
 | .one y => match x with
  | .one x => wkT x y
  | _ => False
 | .tup ys => match x with
  | .tup xs => wkP xs ys
  | _ => False
def wkA : List AV → List AV → Prop
 | [], [] => True
 | x :: xs, y :: ys => wkV x y ∧ wkA xs ys
 | _, _ => False
def psIn (ks : List Nat) : List TV → Bool
 | [] => true
 | x :: xs => match tIn ks x with
  | true => psIn ks xs
  | false => false
def rIn (ks : List Nat) : AV → Bool
 | .one x => tIn ks x
 | .tup xs => psIn ks xs
def nodupN : List Nat → Bool
 | [] => true
 | x :: xs => match memb x xs with
  | true => false
  | false => nodupN xs
def Fs.spec (F : Fs) : Spec := ⟨F.reads, F.tc, fun avs bx L K => match F.get avs bx L with
 | some p => wkA avs (F.A p) ∧ wkB bx (F.B p) ∧ L = F.L p ∧ F.pre p ∧ F.cps p fun r b l => K r (assoc b) l
 | none => False⟩
def env0 (avs : List AV) : Nat → AV := fun i => match nth avs i with
 | some v => v
 | none => .one (.c .undef)
def takeO : List CT → List CV → Option (List CV)
 | [], _ => some []
 | _ :: _, [] => none
 | _ :: ts, c :: cs => match takeO ts cs with
  | some ys => some (c :: ys)
  | none => none
def cellR (t : Tab) (T : TypeId) (x : AV) (bx : Bx) : Option TV :=
 match x with
 | .one (.c (.loc id off)) => match bx id with
  | some cs => match t.row T with
   | some r => match r.agg with
    | true => match takeO r.lay (dropL off cs) with
     | some ys => some (.agg ys)
     | none => none
    | false => match nth cs off with
     | some y => some (.c y)
     | none => none
   | none => none
  | none => none
 | _ => none
def resVals (t : Tab) (S : St) : List ResultVar → Option (List TV)
 | [] => some []
 | .tmp i :: l => match S.env i with
  | .one x => match resVals t S l with
   | some xs => some (x :: xs)
   | none => none
  | _ => none
 | .cell i T :: l => match cellR t T (S.env i) S.box with
  | some x => match resVals t S l with
   | some xs => some (x :: xs)
   | none => none
  | none => none
def resOf (t : Tab) (S : St) (rv : List ResultVar) : Option AV := match resVals t S rv with
 | some [x] => some (.one x)
 | some xs => some (.tup xs)
 | none => none
def retP (t : Tab) (F : Fs) (p : F.α) (rv : List ResultVar) (S : St) : Prop :=
 ∃ q, F.rel p q ∧ (match resOf t S rv with | some r => wkR r (F.R p q) | none => False) ∧ wkB S.box (F.B' p q) ∧ S.L = F.L' p q
def tcOf (l : List Nat) : Nat → Bool := fun id => match memb id l with
 | true => true
 | false => Nat.blt id 1000
structure Fs.Fit (F : Fs) : Prop where
 args : ∀ p, asIn F.reads (F.A p) = true
 boxes : ∀ p, keysOf (F.B p) = F.reads ∧ celIn F.reads (F.B p) = true
 boxes' : ∀ p q, keysOf (F.B' p q) = F.reads ∧ celIn F.reads (F.B' p q) = true
 res : ∀ p q, rIn F.reads (F.R p q) = true
 high : F.reads.all (fun i => Nat.ble 1000 i) = true
 nd : nodupN F.reads = true
section
variable {t : Tab} {σ : Sg} {β : Bt} {bx : Bx} {L : Nat} {w : World} {ks : List Nat}
theorem wkT_ok {x y : TV} {v : Value} (h : x.ok t σ β v) (hk : wkT x y) (hi : tIn ks y = true) : y.ok t σ (keepB ks β) v := by
 rcases y with y | ys
 ·rcases x with x | xs
  ·refine wkC_ok (x := x) h ?_ hi
   cases y <;> exact hk
  ·cases y <;> first | trivial | exact hk.elim
 ·rcases x with x | xs
  ·exact hk.elim
  ·obtain ⟨vs, h1, h2⟩ := h
   exact ⟨vs, h1, wkL_ok h2 hk hi⟩
theorem wkP_ok {xs : List TV} {vs : List Value} (h : Parts t σ β xs vs) : ∀ {ys : List TV}, wkP xs ys → psIn ks ys = true → Parts t σ (keepB ks β) ys vs := by
 induction h with
 | nil =>
  intro ys hk hi
  cases ys with
  | nil => exact .nil
  | cons y ys => exact hk.elim
 | @cons x v xs vs h _ ih =>
  intro ys hk hi
  cases ys with
  | nil => exact hk.elim
  | cons y ys =>
   unfold psIn at hi
   cases hy : tIn ks y with
   | false => rw [hy] at hi; cases hi
   | true =>
    rw [hy] at hi
    exact .cons (wkT_ok h hk.1 hy) (ih hk.2 hi)
theorem wkR_ok {x y : AV} {v : Value} (h : x.ok t σ β v) (hk : wkR x y) (hi : rIn ks y = true) : y.ok t σ (keepB ks β) v := by
 rcases y with y | ys
 ·rcases x with x | xs
  ·exact wkT_ok (x := x) h hk hi
  ·exact hk.elim
 ·rcases x with x | xs
  ·exact hk.elim
  ·obtain ⟨vs, h1, h2⟩ := h
   exact ⟨vs, h1, wkP_ok h2 hk hi⟩
theorem wkA_ok {xs : List AV} {vs : List Value} (h : Argv t σ β xs vs) : ∀ {ys : List AV}, wkA xs ys → asIn ks ys = true → Argv t σ (keepB ks β) ys vs := by
 induction h with
 | nil =>
  intro ys hk hi
  cases ys with
  | nil => exact .nil
  | cons y ys => exact hk.elim
 | @cons x v xs vs h _ ih =>
  intro ys hk hi
  cases ys with
  | nil => exact hk.elim
  | cons y ys =>
   unfold asIn at hi
   cases hy : aIn ks y with
   | false => rw [hy] at hi; cases hi
   | true =>
    rw [hy] at hi
    exact .cons (wkV_ok h hk.1 hy) (ih hk.2 hi)
theorem opnA_ok {xs : List AV} {vs : List Value} (h : Argv t σ β xs vs) : ∀ {K : List AV → Prop}, opnA xs K → ∃ ys, K ys ∧ Argv t σ β ys vs := by
 induction h with
 | nil => exact fun hk => ⟨[], hk, .nil⟩
 | cons h _ ih =>
  intro K hk
  obtain ⟨y, hk1, hy⟩ := opnV_ok h hk
  obtain ⟨ys, hk2, hys⟩ := ih hk1
  exact ⟨_, hk2, .cons hy hys⟩
theorem opnX_ok {x : CV} {v : Value} (h : x.ok t σ β v) {K : CV → Prop} (hk : opnX x K) : ∃ y, K y ∧ y.ok t σ β v := by
 cases x with
 | sl E B => obtain ⟨A, n, c, h1, h2, h3⟩ := h; exact ⟨_, hk n h2 h3.2.1, A, c, h1, h3⟩
 | _ => exact ⟨_, hk, h⟩
theorem opnS_ok {xs : List CV} {vs : List Value} (h : Cells t σ β xs vs) : ∀ {K : List CV → Prop}, opnS xs K → ∃ ys, K ys ∧ Cells t σ β ys vs := by
 induction h with
 | nil => exact fun hk => ⟨[], hk, .nil⟩
 | cons h _ ih =>
  intro K hk
  obtain ⟨y, hk1, hy⟩ := opnX_ok h hk
  obtain ⟨ys, hk2, hys⟩ := ih hk1
  exact ⟨_, hk2, .cons hy hys⟩
def BoxV (t : Tab) (σ : Sg) (β : Bt) (w : World) (i : Nat) (cs : List CV) : Prop :=
 ∃ b vs T, β i = some b ∧ w.heap[b]? = some (.cells vs T (0, 0)) ∧ Cells t σ β cs vs.toList ∧ ∀ v ∈ vs.toList, v.oneCell' = true
theorem opnB_ok : ∀ {l : List (Nat × List CV)} {K : List (Nat × List CV) → Prop}, (∀ i cs, (i, cs) ∈ l → BoxV t σ β w i cs) → opnB l K → ∃ l', K l' ∧ keysOf l' = keysOf l ∧ ∀ i cs, (i, cs) ∈ l' → BoxV t σ β w i cs
 | [], K, h, hk => ⟨[], hk, rfl, h⟩
 | (i, cs) :: l, K, h, hk => by
  obtain ⟨b, vs, T, h1, h2, h3, h4⟩ := h i cs (by simp)
  obtain ⟨ys, k1, k2⟩ := opnS_ok h3 hk
  obtain ⟨l', k3, k4, k5⟩ := opnB_ok (fun j cs hj => h j cs (by simp [hj])) k1
  refine ⟨_, k3, by simp [keysOf, k4], fun j cs' hj => ?_⟩
  rcases List.mem_cons.1 hj with e | hj
  ·injection e with e1 e2
   subst e1; subst e2
   exact ⟨b, vs, T, h1, h2, k2, h4⟩
  ·exact k5 j cs' hj
theorem assoc_nodup {α : Type} : ∀ {l : List (Nat × α)} {i : Nat} {v : α} {f : List (Nat × α) → List Nat}, (∀ i v l, f ((i, v) :: l) = i :: f l) → nodupN (f l) = true → (∀ l i v, (i, v) ∈ l → memb i (f l) = true) → (i, v) ∈ l → assoc l i = some v
 | [], i, v, f, _, _, _, h => by cases h
 | (j, u) :: l, i, v, f, hf, hn, hm, h => by
  rw [hf] at hn
  unfold nodupN at hn
  split at hn
  ·cases hn
  ·rename_i hj
   unfold assoc
   rcases List.mem_cons.1 h with e | h'
   ·injection e with e1 e2
    subst e1; subst e2
    simp
   ·have hne : ¬ i = j := fun e => by
     subst e
     rw [hm l i v h'] at hj
     cases hj
    have : Nat.beq i j = false := by
     cases hb : Nat.beq i j with
     | false => rfl
     | true => exact absurd (Nat.eq_of_beq_eq_true hb) hne
    rw [this]
    exact assoc_nodup hf hn hm h'
theorem keysOf_memb : ∀ (l : List (Nat × List CV)) (i : Nat) (cs : List CV), (i, cs) ∈ l → memb i (keysOf l) = true
 | (j, u) :: l, i, cs, h => by
  unfold keysOf memb
  split
  ·rfl
  ·rename_i hb
   rcases List.mem_cons.1 h with e | h
   ·injection e with e1 e2
    subst e1
    simp at hb
   ·exact keysOf_memb l i cs h
theorem Inv.opn {l : List (Nat × List CV)} (hI : Inv t σ β (assoc l) L w) (hn : nodupN (keysOf l) = true) {K : List (Nat × List CV) → Prop} (hk : OB l K) : ∃ l', K l' ∧ Inv t σ β (assoc l') L w := by
 rcases hk with hk | hk
 case inr => exact ⟨l, hk, hI⟩
 obtain ⟨l', k1, k2, k3⟩ := opnB_ok (t := t) (σ := σ) (β := β) (w := w) (fun i cs hi => hI.box i cs (assoc_nodup (f := keysOf) (fun _ _ _ => rfl) hn keysOf_memb hi)) hk
 refine ⟨l', k1, hI.hp, fun id cs hc => k3 id cs (assoc_mem hc), hI.inj, hI.apart, fun id b hb => ?_, hI.lt, hI.lim⟩
 refine keysOf_iff.1 ?_
 rw [k2]
 exact keysOf_iff.2 (hI.dom id b hb)
theorem keepB_all (h : ∀ id b, β id = some b → memb id ks = true) : keepB ks β = β := by
 funext id
 unfold keepB
 cases hm : memb id ks with
 | true => rfl
 | false =>
  cases hb : β id with
  | none => rfl
  | some b => rw [h id b hb] at hm; cases hm
theorem Inv.weak (hI : Inv t σ β bx L w) {l : List (Nat × List CV)} (hk : keysOf l = ks) (h : wkB bx l) (hc : celIn ks l = true) : Inv t σ (keepB ks β) (assoc l) L w := by
 subst hk
 refine ⟨hI.hp, ?_, ?_, ?_, ?_, hI.lt, hI.lim⟩
 ·intro id cs hcs
  obtain ⟨xs, q1, q2⟩ := wkB_mem h id cs (assoc_mem hcs)
  obtain ⟨b, vs, T, g1, g2, g3, g4⟩ := hI.box id xs q1
  exact ⟨b, vs, T, keepB_of (keysOf_iff.2 ⟨cs, hcs⟩) g1, g2, wkL_ok g3 q2 (celIn_mem hc id cs (assoc_mem hcs)), g4⟩
 ·intro id id' b e1 e2
  exact hI.inj _ _ _ (keepB_some e1).2 (keepB_some e2).2
 ·intro id b e1
  exact hI.apart _ _ (keepB_some e1).2
 ·intro id b e1
  exact keysOf_iff.1 (keepB_some e1).1
theorem argv_get {xs : List AV} {vs : List Value} (h : Argv t σ β xs vs) : ∀ i, (match nth xs i with | some v => v | none => .one (.c .undef) : AV).ok t σ β (vs.getD i Go.undef) := by
 induction h with
 | nil => intro i; exact rfl
 | @cons x v xs vs h _ ih =>
  intro i
  cases i with
  | zero => exact h
  | succ i => simpa [nth] using ih i
theorem argv_length {xs : List AV} {vs : List Value} (h : Argv t σ β xs vs) : xs.length = vs.length := by
 induction h with
 | nil => rfl
 | cons _ _ ih => simp [ih]
theorem takeO_eq : ∀ {ts : List CT} {cs ys : List CV}, takeO ts cs = some ys → ts.length ≤ cs.length ∧ ys = cs.take ts.length
 | [], cs, ys, h => by
  injection h with h
  exact ⟨Nat.zero_le _, by rw [← h]; simp⟩
 | _ :: ts, [], ys, h => by simp [takeO] at h
 | _ :: ts, c :: cs, ys, h => by
  unfold takeO at h
  split at h
  ·rename_i zs hz
   injection h with h
   obtain ⟨h1, h2⟩ := takeO_eq hz
   exact ⟨by simpa using h1, by rw [← h, h2]; simp⟩
  ·cases h
theorem cellR_ok {P : Program} (hT : TabOk P t) (hI : Inv t σ β bx L w) {T : TypeId} {x : AV} {v : Value} {y : TV} (hx : x.ok t σ β v) (h : cellR t T x bx = some y) :
  ∃ u, (do loadVar T (← asAddr v) : Sem Value).run P w = .ok u w ∧ y.ok t σ β u := by
 unfold cellR at h
 split at h
 case h_2 => cases h
 rename_i id off
 obtain ⟨b, hb, hv⟩ := hx
 split at h
 case h_2 => cases h
 rename_i cs hc
 split at h
 case h_2 => cases h
 rename_i r hr
 obtain ⟨vs, T', h1, h2, h3⟩ := hI.boxAt hb hc
 have key : ∀ u, (Instr.loadAt T (.pointer (some ⟨b, off, none⟩))).run P w = .ok u w → (do loadVar T (← asAddr v) : Sem Value).run P w = .ok u w := by
  intro u hu
  rw [hv]
  simpa [Instr.loadAt, Instr.sureAddr, asAddr] using hu
 split at h
 ·rename_i ha
  split at h
  case h_2 => cases h
  rename_i ys hy
  injection h with h
  subst h
  obtain ⟨g1, g2⟩ := takeO_eq hy
  rw [dropL_eq] at g1 g2
  rw [List.length_drop] at g1
  have hl := box_len h2
  have hp := hT.pos hr
  refine ⟨_, key _ (loadAgg_run hT hr ha h1 (by omega)), _, rfl, ?_⟩
  rw [g2]
  exact h2.slice off r.lay.length
 ·rename_i ha
  split at h
  case h_2 => cases h
  rename_i y' hy
  injection h with h
  subst h
  rw [nth_eq] at hy
  obtain ⟨u, hu, hyu⟩ := h2.get hy
  exact ⟨u, key _ (loadOne_run hT hr ha h1 (by simpa using hu)), hyu⟩
theorem resVals_ok {P : Program} (hT : TabOk P t) {S : St} {a : Act} (hI : Inv t σ β S.box S.L w) (he : ∀ i, (S.env i).ok t σ β (a.tmps.getD i Go.undef)) : ∀ {l : List ResultVar} {xs : List TV}, resVals t S l = some xs →
  ∃ vs : List Value, Parts t σ β xs vs ∧ ∀ (g : ResultVar → Sem Value), (∀ i, g (.tmp i) = pure (a.tmps.getD i Go.undef)) → (∀ i T, g (.cell i T) = do loadVar T (← asAddr (a.tmps.getD i Go.undef))) → (l.mapM g).run P w = .ok vs w
 | [], xs, h => by
  injection h with h
  subst h
  exact ⟨[], .nil, fun g _ _ => by simp⟩
 | .tmp i :: l, xs, h => by
  unfold resVals at h
  split at h
  case h_2 => cases h
  rename_i x hx
  split at h
  case h_2 => cases h
  rename_i ys hys
  injection h with h
  subst h
  obtain ⟨vs, h1, h2⟩ := resVals_ok hT hI he hys
  have hi := he i
  rw [hx] at hi
  refine ⟨_ :: vs, .cons hi h1, fun g hg hg' => ?_⟩
  simp only [List.mapM_cons, Sem.run_bind, Sem.run_pure, Result.andThen_ok, hg, h2 g hg hg']
 | .cell i T :: l, xs, h => by
  unfold resVals at h
  split at h
  case h_2 => cases h
  rename_i x hx
  split at h
  case h_2 => cases h
  rename_i ys hys
  injection h with h
  subst h
  obtain ⟨vs, h1, h2⟩ := resVals_ok hT hI he hys
  obtain ⟨u, k1, k2⟩ := cellR_ok hT hI (he i) hx
  refine ⟨u :: vs, .cons k2 h1, fun g hg hg' => ?_⟩
  simp only [List.mapM_cons]
  rw [Sem.run_bind, hg', k1]
  simp only [Result.andThen_ok, Sem.run_bind, h2 g hg hg', Sem.run_pure]
theorem resOf_ok {P : Program} (hT : TabOk P t) {S : St} {a : Act} {fn : Func} {r : AV} (hI : Inv t σ β S.box S.L w) (he : ∀ i, (S.env i).ok t σ β (a.tmps.getD i Go.undef)) (h : resOf t S fn.results.toList = some r) :
  ∃ v, (results fn a.tmps).run P w = .ok v w ∧ r.ok t σ β v := by
 unfold resOf at h
 have key : ∀ xs, resVals t S fn.results.toList = some xs → ∃ vs : List Value, Parts t σ β xs vs ∧ (results fn a.tmps).run P w = .ok (if h : vs.toArray.size = 1 then vs.toArray[0] else .tuple vs.toArray) w := by
  intro xs hxs
  obtain ⟨vs, h1, h2⟩ := resVals_ok hT hI he hxs
  refine ⟨vs, h1, ?_⟩
  unfold results
  rw [Array.mapM_eq_mapM_toList, Sem.run_bind, Sem.run_map, h2 _ (fun i => rfl) (fun i T => rfl)]
  rfl
 split at h
 ·rename_i x hx
  injection h with h
  subst h
  obtain ⟨vs, h1, h2⟩ := key _ hx
  cases h1 with
  | cons g1 g2 =>
   cases g2
   exact ⟨_, h2, g1⟩
 ·rename_i xs hne hx
  injection h with h
  subst h
  obtain ⟨vs, h1, h2⟩ := key _ hx
  have hlen : xs.length = vs.length := by
   clear key hx hne h2
   induction h1 with
   | nil => rfl
   | cons _ _ ih => simp [ih]
  have hn : ¬ vs.toArray.size = 1 := by
   intro h3
   have : vs.length = 1 := by simpa using h3
   rw [← hlen] at this
   match xs, this with
   | [x], _ => exact hne x rfl
  rw [dif_neg hn] at h2
  exact ⟨_, h2, vs.toArray, rfl, by simpa using h1⟩
 ·cases h
end
section
variable {P : Program} {t : Tab}
theorem tcOf_low {l : List Nat} {id : Nat} (h : 1000 ≤ id) (hm : memb id l = false) : tcOf l id = false := by
 unfold tcOf
 rw [hm]
 simp only
 cases hb : Nat.blt id 1000 with
 | false => rfl
 | true =>
  simp only [Nat.blt_eq] at hb
  omega
theorem sat_of (E : Env) (plan : Nat → Pn) (hm : P.follows .mixedOrders = true) (hT : TabOk P E.t) (hE : EqOk P E.t E.eqs) (hS : SatAll P E) {f : FuncId} {fn : Func} {c : Code} (hf : P.funcs[f]? = some fn) (hb : fn.body = some c)
  (hname : (fn.name == "runtime.NumGoroutine") = false) (F : Fs) (hF : F.Fit) {N : Nat} (hN : fn.ntmps = N) (hc : codeOk N c = true) (hlen : ∀ p, (F.A p).length ≤ N)
  (h : ∀ p, F.pre p → F.st p fun avs B L => vc ⟨E, tcOf F.tc, F.reads, plan⟩ c ⟨env0 avs, assoc B, L⟩ ⟨retP E.t F p fn.results.toList, fun _ _ => False, retP E.t F p fn.results.toList⟩) :
  Sat P E.t f F.spec := by
 refine ⟨⟨fn, hf, by rw [hb]; rfl, hname⟩, ?_⟩
 intro avs bx L K hwp σ β w args hI hd hd' hargs
 have hwp : match F.get avs bx L with
  | some p => wkA avs (F.A p) ∧ wkB bx (F.B p) ∧ L = F.L p ∧ F.pre p ∧ F.cps p fun r b l => K r (assoc b) l
  | none => False := hwp
 split at hwp
 case h_2 => exact hwp.elim
 rename_i p _
 obtain ⟨h1, h2, h3, h4, h5'⟩ := hwp
 have h5 := F.cur p _ h5'
 have h := F.st_ok p _ (h p h4)
 have hd : ∀ id b, β id = some b → memb id F.reads = true := hd
 have hkeep : keepB F.reads β = β := keepB_all hd
 have hA := wkA_ok (ks := F.reads) hargs h1 (hF.args p)
 rw [hkeep] at hA
 obtain ⟨ys, hv0, hys⟩ := opnA_ok hA h
 have hbx0 := hI.weak (hF.boxes p).1 h2 (hF.boxes p).2
 rw [hkeep] at hbx0
 obtain ⟨lb, hv, hbx⟩ := hbx0.opn (by rw [(hF.boxes p).1]; exact hF.nd) hv0
 subst h3
 have hsz : args.size ≤ N := by
  have := argv_length hA
  have := hlen p
  simp at *
  omega
 refine calls_of_wp hf hb ?_
 have hg : Gam E.t N (tcOf F.tc) σ β w ⟨env0 ys, assoc lb, F.L p⟩ { tmps := args ++ Array.replicate (fn.ntmps - args.size) Go.undef, defers := [] } w := by
  refine ⟨σ, β, hbx, Fr.refl _ _ _ _, by simp [hN]; omega, rfl, fun i => ?_⟩
  have := argv_get hys i
  have hget : (args ++ Array.replicate (fn.ntmps - args.size) Go.undef).getD i Go.undef = args.toList.getD i Go.undef := by
   simp only [Array.getD_eq_getD_getElem?, List.getD_eq_getElem?_getD, Array.getElem?_toList, Array.getElem?_append]
   by_cases hi : i < args.size
   ·rw [if_pos hi]
   ·rw [if_neg hi, show args[i]? = none from Array.getElem?_eq_none (by omega)]
    simp only [Array.getElem?_replicate]
    split <;> rfl
  show (env0 ys i).ok E.t σ β _
  rw [hget]
  exact this
 have hw := vc_ok (P := P) (C := ⟨E, tcOf F.tc, F.reads, plan⟩) (N := N) hm hT hE hS (fun id b hb => (memb_iff _ _).1 (hd id b hb)) c _ _ _ _ hc hv hg
 have fin : ∀ a w', Cov E.t N (tcOf F.tc) σ β w (retP E.t F p fn.results.toList) a w' → a.defers = [] ∧ ∃ v, (results fn a.tmps).run P w' = .ok v w' ∧
   (∃ v', Ending.returned v = Ending.returned v' ∧ ∃ r bx' L' σ', K r bx' L' ∧ Inv E.t σ' β bx' L' w' ∧ Fr (fun id => memb id F.tc) σ β w σ' β w' ∧ AV.ok E.t σ' β r v') := by
  rintro a w' ⟨S, ⟨q, q1, q2, q3, q4⟩, σ', β', k1, k2, k3, k4, k5⟩
  split at q2
  case h_2 => exact q2.elim
  rename_i r hr
  obtain ⟨v, g1, g2⟩ := resOf_ok hT k1 k5 hr
  have hβ : keepB F.reads β' = β := by
   funext id
   unfold keepB
   cases hmem : memb id F.reads with
   | true =>
    obtain ⟨b, hb'⟩ := hd' id hmem
    rw [hb']
    exact k2.sh id b hb'
   | false =>
    cases hb' : β id with
    | none => rfl
    | some b => rw [hd id b hb'] at hmem; cases hmem
  have g3 := wkR_ok (ks := F.reads) g2 q2 (hF.res p q)
  have g4 := k1.weak (hF.boxes' p q).1 q3 (hF.boxes' p q).2
  rw [hβ] at g3 g4
  obtain ⟨lb', hK, g5⟩ := g4.opn (by rw [(hF.boxes' p q).1]; exact hF.nd) (h5 q q1)
  refine ⟨k4, v, g1, v, rfl, F.R p q, assoc lb', F.L' p q, σ', hK, by rw [← q4]; exact g5, ?_, g3⟩
  refine ⟨k2.os, k2.tape, k2.output, k2.size, k2.sg, k2.new, fun _ _ h => h, fun _ _ h => .inl h, k2.old, fun id b e1 e2 => k2.ro id b e1 ?_⟩
  refine tcOf_low ?_ e2
  have := List.all_eq_true.1 hF.high id ((memb_iff _ _).1 (hd id b e1))
  exact Nat.le_of_ble_eq_true this
 refine wp_mono hw fun e a' w' hq => ?_
 cases e with
 | normal =>
  obtain ⟨h1, v, h2, v', h3, h4⟩ := fin a' w' hq
  exact ⟨h1, v, h2, v', h3, h4⟩
 | ret =>
  obtain ⟨h1, v, h2, v', h3, h4⟩ := fin a' w' hq
  exact ⟨h1, v, h2, v', h3, h4⟩
 | exit id =>
  obtain ⟨S, h1, _⟩ := hq
  exact h1.elim
 | _ => exact hq.elim
theorem satall_cons {f : FuncId} {s : Spec} {l : List (Nat × Spec)} {e : List Nat} (h : Sat P t f s) (hl : SatAll P ⟨t, l, e⟩) : SatAll P ⟨t, (f, s) :: l, e⟩ := by
 intro g s' hg
 simp only [assoc] at hg
 split at hg
 ·rename_i hb
  injection hg with hg
  subst hg
  rw [Nat.eq_of_beq_eq_true hb]
  exact h
 ·exact hl g s' hg
end
end Tv
end Go.Proofs.YtpabdmcbahmjnaaGreat
namespace Go.Proofs.YtpabdmcbahmjnaaGreat
namespace Tv
open Go Go.RowKit
def tab : Tab := ⟨[
 (4, ⟨[.bool], false, []⟩),
 (3, ⟨[.int .i64], false, []⟩),
 (182, ⟨[.int .u64], false, []⟩),
 (5, ⟨[.int .u8], false, []⟩),
 (27, ⟨[.int .u64], false, []⟩),
 (9, ⟨[.str], false, []⟩),
 (22, ⟨[.slice 3], false, []⟩),
 (80, ⟨[.slice 4], false, []⟩),
 (108, ⟨[.slice 51], false, []⟩),
 (125, ⟨[.slice 52], false, []⟩),
 (111, ⟨[.slice 110], false, []⟩),
 (102, ⟨[.slice 139], false, []⟩),
 (81, ⟨[.slice 54], false, []⟩),
 (66, ⟨[.slice 68], false, []⟩),
 (101, ⟨[.slice 168], false, []⟩),
 (82, ⟨[.slice 104], false, []⟩),
 (24, ⟨[.int .i64], false, []⟩),
 (51, ⟨[.int .i64], false, []⟩),
 (52, ⟨[.int .i64], false, []⟩),
 (54, ⟨[.int .i64, .bool], true, [(0, 52), (1, 4)]⟩),
 (56, ⟨[.int .i64, .bool, .int .u64, .str, .int .i64, .int .i64, .int .i64, .bool], true, [(0, 24), (1, 4), (2, 27), (3, 9), (4, 3), (5, 51), (6, 54)]⟩),
 (68, ⟨[.int .i64, .int .i64, .str, .int .u64, .int .u64], true, [(0, 3), (1, 3), (2, 9), (3, 27), (4, 27)]⟩),
 (93, ⟨[.int .i64, .int .i64, .int .i64, .int .i64], true, [(0, 3), (1, 52), (2, 51), (3, 51)]⟩),
 (139, ⟨[.str, .int .u64], true, [(0, 9), (1, 27)]⟩),
 (110, ⟨[.int .i64, .int .i64, .int .i64, .int .u64, .slice 51, .int .u64, .str, .int .u64, .slice 139, .int .i64, .int .i64, .int .i64, .int .i64, .int .i64], true, [(0, 3), (1, 3), (2, 52), (3, 27), (4, 108), (5, 27), (6, 9), (7, 27), (8, 102), (9, 52), (10, 51), (11, 51), (12, 51), (13, 52)]⟩),
 (113, ⟨[.slice 110, .slice 51, .int .i64], true, [(0, 111), (1, 108), (2, 3)]⟩),
 (115, ⟨[.slice 110, .slice 51, .int .i64, .int .i64], true, [(0, 113), (3, 3)]⟩),
 (168, ⟨[.int .i64, .int .i64], true, [(0, 51), (1, 3)]⟩),
 (104, ⟨[.bool, .slice 168, .slice 139], true, [(0, 4), (1, 101), (2, 102)]⟩),
 (123, ⟨[.int .i64, .int .i64, .bool, .int .i64, .int .i64, .int .i64, .int .i64, .int .u64, .int .u64, .str, .int .u64, .int .u64, .int .i64, .bool, .bool, .slice 168, .slice 139, .int .i64, .bool, .int .u64, .str, .int .i64, .int .i64, .int .i64, .bool], true, [(0, 3), (1, 54), (3, 51), (4, 51), (5, 51), (6, 3), (7, 27), (8, 27), (9, 9), (10, 27), (11, 27), (12, 3), (13, 4), (14, 104), (17, 56)]⟩),
 (127, ⟨[.ptr, .int .i64, .int .i64, .bool, .int .i64, .int .i64, .int .i64, .int .i64, .int .u64, .int .u64, .str, .int .u64, .int .u64, .int .i64, .bool, .bool, .slice 168, .slice 139, .int .i64, .bool, .int .u64, .str, .int .i64, .int .i64, .int .i64, .bool, .slice 51, .slice 51, .slice 52, .slice 3, .int .i64, .int .i64, .int .i64, .int .i64, .int .i64, .bool, .int .i64, .int .i64, .int .i64, .int .i64, .bool, .int .i64, .bool, .int .u64, .str, .int .i64, .int .i64, .int .i64, .bool, .bool, .slice 168, .slice 139], true, [(0, 78), (1, 123), (26, 108), (27, 108), (28, 125), (29, 22), (30, 3), (31, 3), (32, 3), (33, 3), (34, 3), (35, 4), (36, 93), (40, 4), (41, 56), (49, 104)]⟩),
 (84, ⟨[.ptr, .int .u64, .slice 4, .slice 54, .slice 104, .slice 3, .slice 54, .slice 4, .slice 4, .slice 68], true, [(0, 78), (1, 27), (2, 80), (3, 81), (4, 82), (5, 22), (6, 81), (7, 80), (8, 80), (9, 66)]⟩),
 (78, ⟨[.ptr], false, []⟩),
 (90, ⟨[.ptr], false, []⟩)],
 [(22, 3), (80, 4), (108, 51), (125, 52), (111, 110), (102, 139), (81, 54), (66, 68), (101, 168), (82, 104)]⟩
end Tv
end Go.Proofs.YtpabdmcbahmjnaaGreat
namespace Go.Proofs.YtpabdmcbahmjnaaGreat
namespace Tv
open Go Go.RowKit
set_option linter.unusedSimpArgs false
set_option linter.unusedVariables false
theorem tab_ok : TabOk Tryz.prog tab := tabChk_ok (by kernel_rfl)
theorem mixed_ok : Tryz.prog.follows .mixedOrders = true := by kernel_rfl
theorem eq_nil : EqOk Tryz.prog tab [] := fun T h => by cases h
theorem sat_nil {P : Program} {t : Tab} {e : List Nat} : SatAll P ⟨t, [], e⟩ := fun f s h => by simp [assoc] at h
theorem pair_eq_run {P : Program} {T t0 t1 : TypeId} (ht : P.underlying T = some (.struct (P.fieldsOf T))) (hp : P.stoodInHeld T = false) (h0 : P.underlying t0 = some .string) (h1 : P.underlying t1 = some (.int .u64))
  (hf : (P.fieldsOf T).toList.map (fun f => (f.name != "_", f.offset, f.type)) = [(true, 0, t0), (true, 1, t1)]) (a b : ByteArray) (m n : Int) (w : World) :
  ∃ r, (Op.equalIn 10000 T (.agg #[.string a, .int .u64 m]) (.agg #[.string b, .int .u64 n])).run P w = .ok r w ∧ r = (a.toList == b.toList && m == n) := by
 generalize hl : (P.fieldsOf T).toList = fs at hf
 rcases fs with _ | ⟨f, _ | ⟨g, _ | ⟨x, fs⟩⟩⟩
 ·simp at hf
 ·simp at hf
 ·simp only [List.map_cons, List.map_nil, List.cons.injEq, Prod.mk.injEq, and_true] at hf
  obtain ⟨⟨f1, f2, f3⟩, g1, g2, g3⟩ := hf
  have f1 : f.name ≠ "_" := by simpa using f1
  have g1 : g.name ≠ "_" := by simpa using g1
  refine ⟨_, ?_, rfl⟩
  rw [run_equalIn_agg w 9999 T _ _ ht hp, hl]
  have a0 : ∀ w : World, (isAgg t0).run P w = .ok false w := fun w => by simp [isAgg, run_underlying h0]
  have a1 : ∀ w : World, (isAgg t1).run P w = .ok false w := fun w => by simp [isAgg, run_underlying h1]
  have e0 := fun w : World => run_equalIn_string (P := P) w 9998 t0 a b h0
  have e1 := fun w : World => run_equalIn_int (P := P) w 9998 t1 .u64 .u64 m n h1
  simp only [Op.eqFields, f1, g1, ne_eq, not_false_eq_true, if_true, part, f2, f3, g2, g3, Sem.run_bind, a0, a1, Result.andThen_ok, Bool.false_eq_true, if_false, List.getElem?_toArray, List.getElem?_cons_zero, List.getElem?_cons_succ, Sem.run_pure, e0, e1, Sem.run_ite]
  cases hx : (a.toList == b.toList) <;> cases hy : (m == n) <;> simp
 ·simp at hf
theorem eq_pair : EqOk Tryz.prog tab [139] := by
 intro T hT op hop x y vs us hv hu
 have hT : T = 139 := by simpa using hT
 subst hT
 have hl : tab.lay 139 = [.str, .int .u64] := rfl
 have shape : ∀ vs : Array Value, Fits tab 139 vs → ∃ (a : ByteArray) (m : Int), vs = #[.string a, .int .u64 m] := by
  rintro vs ⟨h1, σ, h2⟩
  rw [hl] at h1 h2
  obtain ⟨l⟩ := vs
  match l, h1 with
  | [v, u], _ =>
   obtain ⟨a, ha, _⟩ := h2 0 v .str rfl rfl
   obtain ⟨m, hm, _⟩ := h2 1 u (.int .u64) rfl rfl
   exact ⟨a, m, by rw [ha, hm]⟩
 obtain ⟨a, m, rfl⟩ := shape vs hv
 obtain ⟨b, n, rfl⟩ := shape us hu
 have key := fun w' => pair_eq_run (P := Tryz.prog) (T := 139) (t0 := 9) (t1 := 27) (by kernel_rfl) (by kernel_rfl) (by kernel_rfl) (by kernel_rfl) (by kernel_rfl) a b m n w'
 have hg : Tryz.prog.eqGuardType Tryz.prog.depth 139 = false := by kernel_rfl
 rcases hop with rfl | rfl
 ·refine ⟨a.toList == b.toList && m == n, fun w' => ?_⟩
  obtain ⟨r, k1, k2⟩ := key w'
  rw [Sem.run_bind, run_eqGuard_agg w' _ _ _ _ _ _ hg]
  simp only [Result.andThen_ok, run_eql_struct, k1, k2]
 ·refine ⟨!(a.toList == b.toList && m == n), fun w' => ?_⟩
  obtain ⟨r, k1, k2⟩ := key w'
  rw [Sem.run_bind, run_eqGuard_agg w' _ _ _ _ _ _ hg]
  simp only [Result.andThen_ok, run_neq_struct, k1, k2]
end Tv
end Go.Proofs.YtpabdmcbahmjnaaGreat
