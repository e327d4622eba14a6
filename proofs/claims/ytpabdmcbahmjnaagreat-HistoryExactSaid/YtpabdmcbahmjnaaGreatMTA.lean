/- Part of a proof: T1 T2. -/
import Derived.WalkKit
namespace Go.Proofs.YtpabdmcbahmjnaaGreat
namespace Tv
open Go Go.RowKit
set_option linter.unusedSimpArgs false
set_option linter.unusedVariables false
inductive CT where
 | int (k : IntKind)
 | bool
 | str
 | slice (E : TypeId)
 | ptr
inductive CV where
 | any
 | undef
 | int (k : IntKind) (n : Int)
 | prop (p : Prop)
 | str
 | tint (k : IntKind)
 | tbool
 | sl (E : TypeId) (B : Nat)
 | slice (E : TypeId) (n : Nat)
 | nils
 | nilp
 | loc (id off : Nat)
 | el (T : TypeId)
inductive TV where
 | c (x : CV)
 | agg (xs : List CV)
inductive AV where
 | one (x : TV)
 | tup (xs : List TV)
structure Row where
 lay : List CT
 agg : Bool
 fields : List (Nat × TypeId)
structure Tab where
 rows : List (Nat × Row)
 slices : List (Nat × TypeId)
def assoc {α : Type} : List (Nat × α) → Nat → Option α
 | [], _ => none
 | (k, v) :: l, i => match Nat.beq i k with
  | true => some v
  | false => assoc l i
def Tab.row (t : Tab) (T : TypeId) : Option Row := assoc t.rows T
def Tab.lay (t : Tab) (T : TypeId) : List CT := match t.row T with
 | some r => r.lay
 | none => []
def Tab.elem (t : Tab) (T : TypeId) : Option TypeId := assoc t.slices T
theorem assoc_mem {α : Type} {l : List (Nat × α)} {i : Nat} {v : α} (h : assoc l i = some v) : (i, v) ∈ l := by
 induction l with
 | nil => simp [assoc] at h
 | cons x l ih =>
  obtain ⟨k, u⟩ := x
  unfold assoc at h
  cases hb : Nat.beq i k with
  | true =>
   rw [hb] at h
   simp only [Option.some.injEq] at h
   rw [Nat.eq_of_beq_eq_true hb, h]
   exact List.mem_cons_self
  | false =>
   rw [hb] at h
   exact List.mem_cons_of_mem _ (ih h)
abbrev Sg := Nat → Option (List CT × Nat)
abbrev Bt := Nat → Option Nat
abbrev Bx := Nat → Option (List CV)
def lenMax : Nat := 140737488355328
def strMax : Nat := 4611686018427387904
def InR (k : IntKind) (n : Int) : Prop := k.min ≤ n ∧ n ≤ k.max
def SlOk (t : Tab) (σ : Sg) (E : TypeId) (A : Option Addr) (n c : Nat) : Prop :=
 n ≤ c ∧ n ≤ lenMax ∧ (A = none → c = 0) ∧ ∀ a, A = some a → a.spot = none ∧ ∃ m q, σ a.block = some (t.lay E, m) ∧ a.off = q * (t.lay E).length ∧ q + c ≤ m
def ElOk (t : Tab) (σ : Sg) (T : TypeId) (a : Addr) : Prop :=
 a.spot = none ∧ ∃ Ls m q r, σ a.block = some (Ls, m) ∧ a.off = q * Ls.length + r ∧ q < m ∧ r + (t.lay T).length ≤ Ls.length ∧ ∀ j, j < (t.lay T).length → Ls[r + j]? = (t.lay T)[j]?
def CT.ok (t : Tab) (σ : Sg) (L : Nat) : CT → Value → Prop
 | .int k, v => ∃ n, v = .int k n ∧ InR k n
 | .bool, v => ∃ b, v = .bool b
 | .str, v => ∃ s : ByteArray, v = .string s ∧ s.size ≤ strMax
 | .slice E, v => ∃ A n c, v = .slice A n c ∧ n ≤ L ∧ SlOk t σ E A n c
 | .ptr, v => ∃ A, v = .pointer A
def CV.ok (t : Tab) (σ : Sg) (β : Bt) : CV → Value → Prop
 | .any, _ => True
 | .undef, v => v = Go.undef
 | .int k n, v => v = .int k n ∧ InR k n
 | .prop p, v => ∃ b, v = .bool b ∧ (b = true ↔ p)
 | .str, v => ∃ s : ByteArray, v = .string s ∧ s.size ≤ strMax
 | .tint k, v => ∃ n, v = .int k n ∧ InR k n
 | .tbool, v => ∃ b, v = .bool b
 | .sl E B, v => ∃ A n c, v = .slice A n c ∧ n ≤ B ∧ SlOk t σ E A n c
 | .slice E n, v => ∃ A c, v = .slice A n c ∧ SlOk t σ E A n c
 | .nils, v => v = .slice none 0 0
 | .nilp, v => v = .pointer none
 | .loc id off, v => ∃ b, β id = some b ∧ v = .pointer (some ⟨b, off, none⟩)
 | .el T, v => ∃ a, v = .pointer (some a) ∧ ElOk t σ T a
def CV.isCell : CV → Bool
 | .any => false
 | .undef => false
 | _ => true
inductive Cells (t : Tab) (σ : Sg) (β : Bt) : List CV → List Value → Prop
 | nil : Cells t σ β [] []
 | cons {x : CV} {v : Value} {xs : List CV} {vs : List Value} (h : x.ok t σ β v) (hs : Cells t σ β xs vs) : Cells t σ β (x :: xs) (v :: vs)
def TV.ok (t : Tab) (σ : Sg) (β : Bt) : TV → Value → Prop
 | .c x, v => x.ok t σ β v
 | .agg xs, v => ∃ vs : Array Value, v = .agg vs ∧ Cells t σ β xs vs.toList
inductive Parts (t : Tab) (σ : Sg) (β : Bt) : List TV → List Value → Prop
 | nil : Parts t σ β [] []
 | cons {x : TV} {v : Value} {xs : List TV} {vs : List Value} (h : x.ok t σ β v) (hs : Parts t σ β xs vs) : Parts t σ β (x :: xs) (v :: vs)
def AV.ok (t : Tab) (σ : Sg) (β : Bt) : AV → Value → Prop
 | .one x, v => x.ok t σ β v
 | .tup xs, v => ∃ vs : Array Value, v = .tuple vs ∧ Parts t σ β xs vs.toList
def Hp (t : Tab) (σ : Sg) (L : Nat) (w : World) : Prop :=
 ∀ b Ls m, σ b = some (Ls, m) → 0 < Ls.length ∧ ∃ cs T, w.heap[b]? = some (.cells cs T (0, 0)) ∧ cs.size = m * Ls.length ∧
  ∀ i v ct, cs[i]? = some v → Ls[i % Ls.length]? = some ct → ct.ok t σ L v
structure Inv (t : Tab) (σ : Sg) (β : Bt) (bx : Bx) (L : Nat) (w : World) : Prop where
 hp : Hp t σ L w
 box : ∀ id cs, bx id = some cs → ∃ b vs T, β id = some b ∧ w.heap[b]? = some (.cells vs T (0, 0)) ∧ Cells t σ β cs vs.toList ∧ ∀ v ∈ vs.toList, v.oneCell' = true
 inj : ∀ id id' b, β id = some b → β id' = some b → id = id'
 apart : ∀ id b, β id = some b → σ b = none
 dom : ∀ id b, β id = some b → ∃ cs, bx id = some cs
 lt : ∀ b x, σ b = some x → b < w.heap.size
 lim : L ≤ lenMax
structure Fr (tc : Nat → Bool) (σ₀ : Sg) (β₀ : Bt) (w₀ : World) (σ : Sg) (β : Bt) (w : World) : Prop where
 os : w.os = w₀.os
 tape : w.tape = w₀.tape
 output : w.output = w₀.output
 size : w₀.heap.size ≤ w.heap.size
 sg : ∀ b x, σ₀ b = some x → σ b = some x
 new : ∀ b x, σ b = some x → σ₀ b = some x ∨ w₀.heap.size ≤ b
 sh : ∀ id b, β₀ id = some b → β id = some b
 own : ∀ id b, β id = some b → β₀ id = some b ∨ w₀.heap.size ≤ b
 old : ∀ b, b < w₀.heap.size → σ₀ b = none → (∀ id, β₀ id ≠ some b) → w.heap[b]? = w₀.heap[b]?
 ro : ∀ id b, β₀ id = some b → tc id = false → w.heap[b]? = w₀.heap[b]?
structure St where
 env : Nat → AV
 box : Bx
 L : Nat
def upd {α : Type} (e : Nat → α) (d : Nat) (x : α) : Nat → α := fun i => match Nat.beq i d with
 | true => x
 | false => e i
theorem upd_same {α : Type} (e : Nat → α) (d : Nat) (x : α) : upd e d x d = x := by
 unfold upd; rw [show Nat.beq d d = true from by simp]
theorem upd_ne {α : Type} (e : Nat → α) {d i : Nat} (x : α) (h : i ≠ d) : upd e d x i = e i := by
 unfold upd; cases h' : Nat.beq i d with
 | true => exact absurd (Nat.eq_of_beq_eq_true h') h
 | false => rfl
theorem upd_eq {α : Type} (e : Nat → α) (d i : Nat) (x : α) : upd e d x i = if i = d then x else e i := by
 by_cases h : i = d
 ·subst h; rw [upd_same, if_pos rfl]
 ·rw [upd_ne _ _ h, if_neg h]
def Gam (t : Tab) (N : Nat) (tc : Nat → Bool) (σ₀ : Sg) (β₀ : Bt) (w₀ : World) (S : St) (a : Act) (w : World) : Prop :=
 ∃ σ β, Inv t σ β S.box S.L w ∧ Fr tc σ₀ β₀ w₀ σ β w ∧ a.tmps.size = N ∧ a.defers = [] ∧ ∀ i, (S.env i).ok t σ β (a.tmps.getD i Go.undef)
def Le (σ σ' : Sg) : Prop := ∀ b x, σ b = some x → σ' b = some x
def LeB (β β' : Bt) : Prop := ∀ b x, β b = some x → β' b = some x
theorem Le.refl (σ : Sg) : Le σ σ := fun _ _ h => h
theorem LeB.refl (σ : Bt) : LeB σ σ := fun _ _ h => h
theorem SlOk.mono {t : Tab} {σ σ' : Sg} {E : TypeId} {A : Option Addr} {n c : Nat} (h : SlOk t σ E A n c) (hl : Le σ σ') : SlOk t σ' E A n c := by
 obtain ⟨h1, h2, h3, h4⟩ := h
 refine ⟨h1, h2, h3, fun a ha => ?_⟩
 obtain ⟨h5, m, q, h6, h7, h8⟩ := h4 a ha
 exact ⟨h5, m, q, hl _ _ h6, h7, h8⟩
theorem ElOk.mono {t : Tab} {σ σ' : Sg} {T : TypeId} {a : Addr} (h : ElOk t σ T a) (hl : Le σ σ') : ElOk t σ' T a := by
 obtain ⟨h1, Ls, m, q, r, h2, h3⟩ := h
 exact ⟨h1, Ls, m, q, r, hl _ _ h2, h3⟩
theorem CT.ok_mono {t : Tab} {σ σ' : Sg} {L L' : Nat} {ct : CT} {v : Value} (h : ct.ok t σ L v) (hl : Le σ σ') (hL : L ≤ L') : ct.ok t σ' L' v := by
 cases ct with
 | int k => exact h
 | bool => exact h
 | str => exact h
 | ptr => exact h
 | slice E =>
  obtain ⟨A, n, c, h1, h2, h3⟩ := h
  exact ⟨A, n, c, h1, by omega, h3.mono hl⟩
theorem CV.ok_mono {t : Tab} {σ σ' : Sg} {β β' : Bt} {x : CV} {v : Value} (h : x.ok t σ β v) (hl : Le σ σ') (hb : LeB β β') : x.ok t σ' β' v := by
 cases x with
 | sl E B =>
  obtain ⟨A, n, c, h1, h2, h3⟩ := h
  exact ⟨A, n, c, h1, h2, h3.mono hl⟩
 | slice E n =>
  obtain ⟨A, c, h1, h3⟩ := h
  exact ⟨A, c, h1, h3.mono hl⟩
 | loc id off =>
  obtain ⟨b, h1, h2⟩ := h
  exact ⟨b, hb _ _ h1, h2⟩
 | el T =>
  obtain ⟨a, h1, h2⟩ := h
  exact ⟨a, h1, h2.mono hl⟩
 | _ => exact h
theorem Cells.mono {t : Tab} {σ σ' : Sg} {β β' : Bt} {xs : List CV} {vs : List Value} (h : Cells t σ β xs vs) (hl : Le σ σ') (hb : LeB β β') : Cells t σ' β' xs vs := by
 induction h with
 | nil => exact .nil
 | cons h _ ih => exact .cons (CV.ok_mono h hl hb) ih
theorem TV.ok_mono {t : Tab} {σ σ' : Sg} {β β' : Bt} {x : TV} {v : Value} (h : x.ok t σ β v) (hl : Le σ σ') (hb : LeB β β') : x.ok t σ' β' v := by
 cases x with
 | c x => exact CV.ok_mono (x := x) h hl hb
 | agg xs =>
  obtain ⟨vs, h1, h2⟩ := h
  exact ⟨vs, h1, h2.mono hl hb⟩
theorem Parts.mono {t : Tab} {σ σ' : Sg} {β β' : Bt} {xs : List TV} {vs : List Value} (h : Parts t σ β xs vs) (hl : Le σ σ') (hb : LeB β β') : Parts t σ' β' xs vs := by
 induction h with
 | nil => exact .nil
 | cons h _ ih => exact .cons (TV.ok_mono h hl hb) ih
theorem AV.ok_mono {t : Tab} {σ σ' : Sg} {β β' : Bt} {x : AV} {v : Value} (h : x.ok t σ β v) (hl : Le σ σ') (hb : LeB β β') : x.ok t σ' β' v := by
 cases x with
 | one x => exact TV.ok_mono (x := x) h hl hb
 | tup xs =>
  obtain ⟨vs, h1, h2⟩ := h
  exact ⟨vs, h1, h2.mono hl hb⟩
theorem Fr.refl (tc : Nat → Bool) (σ : Sg) (β : Bt) (w : World) : Fr tc σ β w σ β w :=
 ⟨rfl, rfl, rfl, Nat.le_refl _, fun _ _ h => h, fun _ _ h => .inl h, fun _ _ h => h, fun _ _ h => .inl h, fun _ _ _ _ => rfl, fun _ _ _ _ => rfl⟩
theorem Fr.le {tc : Nat → Bool} {σ₀ : Sg} {β₀ : Bt} {w₀ : World} {σ : Sg} {β : Bt} {w : World} (h : Fr tc σ₀ β₀ w₀ σ β w) : Le σ₀ σ := h.sg
theorem Cells.length {t : Tab} {σ : Sg} {β : Bt} {xs : List CV} {vs : List Value} (h : Cells t σ β xs vs) : xs.length = vs.length := by
 induction h with
 | nil => rfl
 | cons _ _ ih => simp [ih]
theorem Cells.get {t : Tab} {σ : Sg} {β : Bt} {xs : List CV} {vs : List Value} (h : Cells t σ β xs vs) : ∀ {i : Nat} {x : CV}, xs[i]? = some x → ∃ v, vs[i]? = some v ∧ x.ok t σ β v := by
 induction h with
 | nil => intro i x h; simp at h
 | @cons x v xs vs h _ ih =>
  intro i y hy
  cases i with
  | zero => simp at hy; subst hy; exact ⟨v, rfl, h⟩
  | succ i => simpa using ih (by simpa using hy)
theorem Cells.append {t : Tab} {σ : Sg} {β : Bt} {xs ys : List CV} {vs us : List Value} (h : Cells t σ β xs vs) (h' : Cells t σ β ys us) : Cells t σ β (xs ++ ys) (vs ++ us) := by
 induction h with
 | nil => exact h'
 | cons h _ ih => exact .cons h ih
theorem Cells.take {t : Tab} {σ : Sg} {β : Bt} {xs : List CV} {vs : List Value} (h : Cells t σ β xs vs) : ∀ n, Cells t σ β (xs.take n) (vs.take n) := by
 induction h with
 | nil => intro n; simp; exact .nil
 | cons h _ ih =>
  intro n
  cases n with
  | zero => exact .nil
  | succ n => exact .cons h (ih n)
theorem Cells.drop {t : Tab} {σ : Sg} {β : Bt} {xs : List CV} {vs : List Value} (h : Cells t σ β xs vs) : ∀ n, Cells t σ β (xs.drop n) (vs.drop n) := by
 induction h with
 | nil => intro n; simp; exact .nil
 | cons h hs ih =>
  intro n
  cases n with
  | zero => exact .cons h hs
  | succ n => simpa using ih n
theorem Parts.get {t : Tab} {σ : Sg} {β : Bt} {xs : List TV} {vs : List Value} (h : Parts t σ β xs vs) : ∀ {i : Nat} {x : TV}, xs[i]? = some x → ∃ v, vs[i]? = some v ∧ x.ok t σ β v := by
 induction h with
 | nil => intro i x h; simp at h
 | @cons x v xs vs h _ ih =>
  intro i y hy
  cases i with
  | zero => simp at hy; subst hy; exact ⟨v, rfl, h⟩
  | succ i => simpa using ih (by simpa using hy)
def nth {α : Type} : List α → Nat → Option α
 | [], _ => none
 | x :: _, 0 => some x
 | _ :: xs, n + 1 => nth xs n
def memb (i : Nat) : List Nat → Bool
 | [] => false
 | j :: l => match Nat.beq i j with
  | true => true
  | false => memb i l
def lenEq {α β : Type} : List α → List β → Bool
 | [], [] => true
 | _ :: xs, _ :: ys => lenEq xs ys
 | _, _ => false
def ikN : IntKind → Nat
 | .i8 => 0 | .i16 => 1 | .i32 => 2 | .i64 => 3 | .u8 => 4 | .u16 => 5 | .u32 => 6 | .u64 => 7
def ikEq (a b : IntKind) : Bool := Nat.beq (ikN a) (ikN b)
def ctEq : CT → CT → Bool
 | .int k, .int k' => ikEq k k'
 | .bool, .bool => true
 | .str, .str => true
 | .slice E, .slice E' => Nat.beq E E'
 | .ptr, .ptr => true
 | _, _ => false
def ctsEq : List CT → List CT → Bool
 | [], [] => true
 | x :: xs, y :: ys => match ctEq x y with
  | true => ctsEq xs ys
  | false => false
 | _, _ => false
def opnC : CV → (CV → Prop) → Prop
 | .any, K => K .any
 | .undef, K => K .undef
 | .int k n, K => K (.int k n)
 | .prop p, K => K (.prop p)
 | .str, K => K .str
 | .tint k, K => ∀ n, InR k n → K (.int k n)
 | .tbool, K => ∀ p : Prop, K (.prop p)
 | .sl E B, K => ∀ n : Nat, n ≤ B → n ≤ 140737488355328 → K (.slice E n)
 | .slice E n, K => K (.slice E n)
 | .nils, K => K .nils
 | .nilp, K => K .nilp
 | .loc id off, K => K (.loc id off)
 | .el T, K => K (.el T)
def opnL : List CV → (List CV → Prop) → Prop
 | [], K => K []
 | x :: xs, K => opnC x fun y => opnL xs fun ys => K (y :: ys)
def opnT : TV → (TV → Prop) → Prop
 | .c x, K => opnC x fun y => K (.c y)
 | .agg xs, K => opnL xs fun ys => K (.agg ys)
def opnP : List TV → (List TV → Prop) → Prop
 | [], K => K []
 | x :: xs, K => opnT x fun y => opnP xs fun ys => K (y :: ys)
def opnV : AV → (AV → Prop) → Prop
 | .one x, K => opnT x fun y => K (.one y)
 | .tup xs, K => opnP xs fun ys => K (.tup ys)
structure Spec where
 reads : List Nat
 tc : List Nat
 wp : List AV → Bx → Nat → (AV → Bx → Nat → Prop) → Prop
inductive OR where
 | fail
 | det (v : AV)
 | need (p : Prop) (r : OR)
 | spl (p : Prop) (a b : OR)
 | wr (id : Nat) (cs : List CV) (v : AV)
 | grow (n : Nat) (v : AV)
 | int (k : IntKind) (q : Int → Prop)
 | call (s : Spec) (avs : List AV)
def keepIds (l : List Nat) (f : Bx) : Bx := fun i => match memb i l with
 | true => f i
 | false => none
def overIds (l : List Nat) (f g : Bx) : Bx := fun i => match memb i l with
 | true => f i
 | false => g i
def St.put (S : St) (d : Option Nat) (v : AV) (K : St → Prop) : Prop :=
 match S, d with
 | ⟨e, b, L⟩, some d => K ⟨upd e d v, b, L⟩
 | ⟨e, b, L⟩, none => K ⟨e, b, L⟩
def allI (k : IntKind) (K : Int → Prop) : Prop :=
 match k with
 | .u64 => ∀ n, InR .u64 n → 0 ≤ n → K n
 | .i64 => ∀ n, InR .i64 n → K n
 | k => ∀ n, InR k n → K n
def cIn (l : List Nat) : CV → Bool
 | .loc id _ => memb id l
 | _ => true
def csIn (l : List Nat) : List CV → Bool
 | [] => true
 | x :: xs => match cIn l x with
  | true => csIn l xs
  | false => false
def tIn (l : List Nat) : TV → Bool
 | .c x => cIn l x
 | .agg xs => csIn l xs
def aIn (l : List Nat) : AV → Bool
 | .one x => tIn l x
 | .tup _ => false
def asIn (l : List Nat) : List AV → Bool
 | [] => true
 | x :: xs => match aIn l x with
  | true => asIn l xs
  | false => false
def boxesIn (l : List Nat) (bx : Bx) : List Nat → Bool
 | [] => true
 | i :: is => match bx i with
  | some cs => match csIn l cs with
   | true => boxesIn l bx is
   | false => false
  | none => boxesIn l bx is
def heldIn (bx : Bx) : List Nat → Bool
 | [] => true
 | i :: l => match bx i with
  | some _ => heldIn bx l
  | none => false
def OR.wp (tc : Nat → Bool) (S : St) (d : Option Nat) (K : St → Prop) : OR → Prop
 | .fail => False
 | .det v => opnV v fun v => S.put d v K
 | .need p r => p ∧ r.wp tc S d K
 | .spl p a b => (p → a.wp tc S d K) ∧ (¬ p → b.wp tc S d K)
 | .wr id cs v => match tc id with
  | true => match S with
   | ⟨e, b, L⟩ => opnV v fun v => St.put ⟨e, upd b id (some cs), L⟩ d v K
  | false => False
 | .grow n v => match S with
  | ⟨e, b, L⟩ => opnV v fun v => St.put ⟨e, b, max L n⟩ d v K
 | .int k q => allI k fun n => q n → S.put d (.one (.c (.int k n))) K
 | .call s avs => match S with
  | ⟨e, b, L⟩ => match s.tc.all tc && (heldIn b s.reads && (asIn s.reads avs && boxesIn s.reads b s.reads)) with
   | true => s.wp avs (keepIds s.reads b) L fun r bx L => opnV r fun r => St.put ⟨e, overIds s.reads bx b, L⟩ d r K
   | false => False
def kMax : IntKind → Nat
 | .i8 => 127 | .i16 => 32767 | .i32 => 2147483647 | .i64 => 9223372036854775807
 | .u8 => 255 | .u16 => 65535 | .u32 => 4294967295 | .u64 => 18446744073709551615
def kNeg : IntKind → Nat
 | .i8 => 128 | .i16 => 32768 | .i32 => 2147483648 | .i64 => 9223372036854775808
 | _ => 0
def inR (k : IntKind) (n : Int) : Bool :=
 match n with
 | .ofNat m => Nat.ble m (kMax k)
 | .negSucc m => Nat.ble (m + 1) (kNeg k)
def ci (k : IntKind) (n : Int) : AV := .one (.c (.int k n))
def cp (p : Prop) : AV := .one (.c (.prop p))
def cany : AV := .one (.c .any)
def cst (v : Value) : AV :=
 match v with
 | .int k n => match inR k n with
  | true => ci k n
  | false => cany
 | .bool true => cp True
 | .bool false => cp False
 | .pointer none => .one (.c .nilp)
 | .slice none 0 0 => .one (.c .nils)
 | _ => cany
def look (S : St) : Operand → AV
 | .tmp i => S.env i
 | .const v => cst v
 | _ => cany
def zeroC : CT → CV
 | .int k => .int k 0
 | .bool => .prop False
 | .str => .str
 | .slice E => .slice E 0
 | .ptr => .nilp
def zeroVal : CT → Value
 | .int k => .int k 0
 | .bool => .bool false
 | .str => .string ⟨#[]⟩
 | .slice _ => .slice none 0 0
 | .ptr => .pointer none
def zeroL : List CT → List CV
 | [] => []
 | x :: xs => zeroC x :: zeroL xs
def tyOf (L : Nat) : CT → CV
 | .int k => .tint k
 | .bool => .tbool
 | .str => .str
 | .slice E => .sl E L
 | .ptr => .any
def tyL (L : Nat) : List CT → List CV
 | [] => []
 | x :: xs => tyOf L x :: tyL L xs
def allCell : List CV → Bool
 | [] => true
 | x :: xs => match x.isCell with
  | true => allCell xs
  | false => false
def cellsOf : AV → Option (List CV)
 | .one (.c x) => match x.isCell with
  | true => some [x]
  | false => none
 | .one (.agg xs) => match allCell xs with
  | true => some xs
  | false => none
 | _ => none
def takeK : List CT → List CV → (List CV → OR) → OR
 | [], _, k => k []
 | _ :: ts, c :: cs, k => takeK ts cs fun ys => k (c :: ys)
 | _ :: _, [], _ => .fail
def dropL : Nat → List CV → List CV
 | 0, cs => cs
 | _ + 1, [] => []
 | n + 1, _ :: cs => dropL n cs
def putK : List CV → Nat → List CV → (List CV → OR) → OR
 | cs, _, [], k => k cs
 | [], _, _ :: _, _ => .fail
 | _ :: cs, 0, y :: ys, k => putK cs 0 ys fun r => k (y :: r)
 | c :: cs, n + 1, y :: ys, k => putK cs n (y :: ys) fun r => k (c :: r)
def fitK (L : Nat) (x : CV) (ct : CT) (p : OR) : OR :=
 match x, ct with
 | .int k _, .int k' => match ikEq k k' with | true => p | false => .fail
 | .tint k, .int k' => match ikEq k k' with | true => p | false => .fail
 | .prop _, .bool => p
 | .tbool, .bool => p
 | .str, .str => p
 | .slice E n, .slice E' => match Nat.beq E E' with | true => .need (n ≤ L) p | false => .fail
 | .sl E B, .slice E' => match Nat.beq E E' with | true => .need (B ≤ L) p | false => .fail
 | .nils, .slice _ => p
 | .nilp, .ptr => p
 | .loc _ _, .ptr => p
 | .el _, .ptr => p
 | _, _ => .fail
def fitAll (L : Nat) : List CV → List CT → OR → OR
 | [], [], p => p
 | x :: xs, ct :: cts, p => fitK L x ct (fitAll L xs cts p)
 | _, _, _ => .fail
def fillK (S : St) (place : Nat → Option (Nat × List CT)) : List CV → List (Nat × Operand) → (List CV → OR) → OR
 | cs, [], k => k cs
 | cs, (i, x) :: rest, k => match place i with
  | some (off, ts) => match cellsOf (look S x) with
   | some ys => match lenEq ys ts with
    | true => putK cs off ys fun cs => fillK S place cs rest k
    | false => .fail
   | none => .fail
  | none => .fail
def repL {α : Type} (xs : List α) : Nat → List α
 | 0 => []
 | n + 1 => xs ++ repL xs n
def sumR (k : IntKind) (m : Int) : OR :=
 match k with
 | .i64 => .int .i64 fun n => -9223372036854775808 ≤ m → m ≤ 9223372036854775807 → n = m
 | .u64 => .int .u64 fun n => 0 ≤ m → m ≤ 18446744073709551615 → n = m
 | k => .int k fun n => k.min ≤ m → m ≤ k.max → n = m
def xop (op : BinOp) (k : IntKind) (a b : Int) : Int :=
 match op with
 | .and => k.wrap ((BitVec.ofInt k.bits a &&& BitVec.ofInt k.bits b).toNat)
 | .or => k.wrap ((BitVec.ofInt k.bits a ||| BitVec.ofInt k.bits b).toNat)
 | .xor => k.wrap ((BitVec.ofInt k.bits a ^^^ BitVec.ofInt k.bits b).toNat)
 | .andNot => k.wrap ((BitVec.ofInt k.bits a &&& ~~~ BitVec.ofInt k.bits b).toNat)
 | .shl => k.wrap (a * 2 ^ (min b.toNat k.bits))
 | .shr => a.fdiv (2 ^ (min b.toNat k.bits))
 | _ => 0
def xconv (k : IntKind) (n : Int) : Int := k.wrap n
def binI (op : BinOp) (k : IntKind) (a b : Int) : OR :=
 match op with
 | .eql => .det (cp (a = b))
 | .neq => .det (cp (¬ a = b))
 | .lss => .det (cp (a < b))
 | .leq => .det (cp (a ≤ b))
 | .gtr => .det (cp (b < a))
 | .geq => .det (cp (b ≤ a))
 | .add => sumR k (a + b)
 | .sub => sumR k (a - b)
 | .mul => sumR k (a * b)
 | .quo => .need (b ≠ 0) (.int k fun _ => True)
 | .rem => .need (b ≠ 0) (.int k fun _ => True)
 | .shl => .need (0 ≤ b) (.int k fun n => n = xop op k a b)
 | .shr => .need (0 ≤ b) (.int k fun n => n = xop op k a b)
 | .and => .int k fun n => n = xop op k a b
 | .or => .int k fun n => n = xop op k a b
 | .xor => .int k fun n => n = xop op k a b
 | .andNot => .int k fun n => n = xop op k a b
def isShift : BinOp → Bool
 | .shl => true
 | .shr => true
 | _ => false
def isEq : BinOp → Bool
 | .eql => true
 | .neq => true
 | _ => false
def isCmp : BinOp → Bool
 | .eql => true
 | .neq => true
 | .lss => true
 | .leq => true
 | .gtr => true
 | .geq => true
 | _ => false
def bin (eqs : List Nat) (lay : List CT) (op : BinOp) (T : TypeId) (x y : AV) : OR :=
 match x, y with
 | .one (.c (.int k a)), .one (.c (.int k' b)) => match isShift op || ikEq k k' with
  | true => binI op k a b
  | false => .fail
 | .one (.c .str), .one (.c .str) => match isCmp op with
  | true => .det (.one (.c .tbool))
  | false => .fail
 | .one (.agg xs), .one (.agg ys) => match isEq op && memb T eqs with
  | true => fitAll 0 xs lay (fitAll 0 ys lay (.det (.one (.c .tbool))))
  | false => .fail
 | _, _ => .fail
def optI (S : St) (x : Option Operand) (d : Int) : Option Int :=
 match x with
 | none => some d
 | some x => match look S x with
  | .one (.c (.int _ n)) => some n
  | _ => none
def loadR (t : Tab) (T : TypeId) (S : St) (x : AV) : OR :=
 match t.row T with
 | none => .fail
 | some r => match x with
  | .one (.c (.loc id off)) => match S.box id with
   | some cs => match r.agg with
    | true => takeK r.lay (dropL off cs) fun ys => .det (.one (.agg ys))
    | false => match nth cs off with
     | some x => .det (.one (.c x))
     | none => .fail
   | none => .fail
  | .one (.c (.el U)) => match ctsEq (t.lay U) r.lay with
   | true => match r.agg with
    | true => .det (.one (.agg (tyL S.L r.lay)))
    | false => match r.lay with
     | [ct] => .det (.one (.c (tyOf S.L ct)))
     | _ => .fail
   | false => .fail
  | _ => .fail
def storeR (t : Tab) (T : TypeId) (S : St) (x : AV) (ys : Option (List CV)) : OR :=
 match t.row T, ys with
 | some r, some ys => match lenEq ys r.lay with
  | true => match x with
   | .one (.c (.loc id off)) => match S.box id with
    | some cs => putK cs off ys fun cs => .wr id cs (.one (.c .undef))
    | none => .fail
   | .one (.c (.el U)) => match ctsEq (t.lay U) r.lay with
    | true => fitAll S.L ys r.lay (.det (.one (.c .undef)))
    | false => .fail
   | _ => .fail
  | false => .fail
 | _, _ => .fail
def lenR (t : Tab) (T : TypeId) (x : AV) : OR :=
 match t.elem T with
 | some _ => match x with
  | .one (.c (.slice _ n)) => .det (ci .i64 n)
  | .one (.c .nils) => .det (ci .i64 0)
  | _ => .fail
 | none => match t.row T with
  | some r => match r.lay, r.agg, x with
   | [.str], false, .one (.c .str) => .int .i64 fun n => 0 ≤ n
   | _, _, _ => .fail
  | none => .fail
def capMax : Nat := 274877906944
def appendR (t : Tab) (E : TypeId) (S : St) (x y : AV) : OR :=
 match t.row E with
 | some _ => match x, y with
  | .one (.c (.slice F n)), .one (.c (.slice G m)) => match Nat.beq F E && Nat.beq G E with
   | true => .need (n + m ≤ 274877906944) (.grow (n + m) (.one (.c (.slice E (n + m)))))
   | false => .fail
  | .one (.c .nils), .one (.c (.slice G m)) => match Nat.beq G E with
   | true => .need (m ≤ 274877906944) (.grow m (.one (.c (.slice E m))))
   | false => .fail
  | _, _ => .fail
 | none => .fail
def argsOf (S : St) : List Operand → List AV
 | [] => []
 | x :: xs => look S x :: argsOf S xs
structure Env where
 t : Tab
 sp : List (Nat × Spec)
 /-- types of structs that may be compared -/
 eqs : List Nat
def opR (E : Env) (o : Oper) (S : St) : OR :=
 match o.op with
 | .move x => .det (look S x)
 | .assign x => .det (look S x)
 | .pick c a b => match look S c with
  | .one (.c (.prop p)) => .spl p (.det (look S a)) (.det (look S b))
  | _ => .fail
 | .alloc T => match o.dst, E.t.row T with
  | some d, some r => match S.box d with
   | none => .wr d (zeroL r.lay) (.one (.c (.loc d 0)))
   | some _ => .fail
  | _, _ => .fail
 | .box T x => match o.dst, cellsOf (look S x) with
  | some d, some ys => match S.box d with
   | none => .wr d ys (.one (.c (.loc d 0)))
   | some _ => .fail
  | _, _ => .fail
 | .build T ps => match E.t.row T with
  | some r => match r.agg with
   | true => fillK S (fun i => match nth r.fields i with | some f => some (f.1, E.t.lay f.2) | none => none) (zeroL r.lay) ps.toList fun cs => .det (.one (.agg cs))
   | false => .fail
  | none => .fail
 | .buildSlice T n ps => match E.t.elem T with
  | some e => match E.t.row e with
   | some r => match Nat.ble (n * r.lay.length) 4096 with
    | true => fillK S (fun i => some (i * r.lay.length, r.lay)) (repL (zeroL r.lay) n) ps.toList fun cs => fitAll S.L cs (repL r.lay n) (.det (.one (.c (.slice e n))))
    | false => .fail
   | none => .fail
  | none => .fail
 | .load T x => loadR E.t T S (look S x)
 | .store T x y => storeR E.t T S (look S x) (cellsOf (look S y))
 | .nilCheck x => match look S x with
  | .one (.c (.loc id off)) => .det (.one (.c (.loc id off)))
  | .one (.c (.el T)) => .det (.one (.c (.el T)))
  | _ => .fail
 | .binOp op T x y _ => bin E.eqs (E.t.lay T) op T (look S x) (look S y)
 | .unOp op _ x => match op, look S x with
  | .not, .one (.c (.prop p)) => .det (cp (¬ p))
  | _, _ => .fail
 | .convert U T x => match E.t.row T, E.t.row U, look S x with
  | some r, some r', .one (.c (.int _ n)) => match r.lay, r.agg, r'.agg with
   | [.int k], false, false => .int k fun m => m = xconv k n
   | _, _, _ => .fail
  | _, _, _ => .fail
 | .slice T x lo hi none => match E.t.elem T, look S x with
  | some e, .one (.c (.slice F n)) => match Nat.beq e F, optI S lo 0, optI S hi n with
   | true, some l, some h => .need (0 ≤ l ∧ l ≤ h ∧ h ≤ n) (.det (.one (.c (.slice F (h - l).toNat))))
   | _, _, _ => .fail
  | _, _ => .fail
 | .fieldAddr T x f => match E.t.row T with
  | some r => match nth r.fields f with
   | some (fo, ft) => match look S x with
    | .one (.c (.loc id off)) => .det (.one (.c (.loc id (off + fo))))
    | .one (.c (.el U)) => match ctsEq (E.t.lay U) r.lay with
     | true => .det (.one (.c (.el ft)))
     | false => .fail
    | _ => .fail
   | none => .fail
  | none => .fail
 | .field T x f => match E.t.row T, look S x with
  | some r, .one (.agg xs) => match nth r.fields f with
   | some (fo, ft) => match E.t.row ft with
    | some rf => match rf.agg with
     | true => takeK rf.lay (dropL fo xs) fun ys => .det (.one (.agg ys))
     | false => match nth xs fo with
      | some x => .det (.one (.c x))
      | none => .fail
    | none => .fail
   | none => .fail
  | _, _ => .fail
 | .indexAddr T x i => match E.t.elem T, look S x, look S i with
  | some e, .one (.c (.slice F n)), .one (.c (.int _ j)) => match Nat.beq e F with
   | true => .need (0 ≤ j ∧ j < n) (.det (.one (.c (.el F))))
   | false => .fail
  | _, _, _ => .fail
 | .extract x i => match look S x with
  | .tup xs => match nth xs i with
   | some x => .det (.one x)
   | none => .fail
  | _ => .fail
 | .call c => match c.callee with
  | .value (.func f) => match assoc E.sp f with
   | some s => .call s (argsOf S c.args.toList)
   | none => .fail
  | .builtin .len => match c.args.toList, c.argTypes.toList with
   | [x], [T] => lenR E.t T (look S x)
   | _, _ => .fail
  | .builtin .append => match c.args.toList, c.argTypes.toList with
   | [x, y], [T, T'] => match E.t.elem T, E.t.elem T' with
    | some e, some e' => match Nat.beq e e' with
     | true => appendR E.t e S (look S x) (look S y)
     | false => .fail
    | _, _ => .fail
   | _, _ => .fail
  | .builtin .max => match argsOf S c.args.toList with
   | [.one (.c (.int k a)), .one (.c (.int k' b))] => match ikEq k k' with
    | true => .int k fun n => a ≤ n ∧ b ≤ n ∧ (n = a ∨ n = b)
    | false => .fail
   | _ => .fail
  | _ => .fail
 | _ => .fail
def dstOf (ol : List Oper) (j : Nat) : Option Nat := match nth ol j with
 | some o => o.dst
 | none => none
def opG (E : Env) (ol : List Oper) (o : Oper) (S : St) : OR :=
 match o.guard with
 | none => opR E o S
 | some (j, want) => match dstOf ol j with
  | some g => match S.env g with
   | .one (.c (.prop p)) => match want with
    | true => .spl p (opR E o S) (.det (.one (.c .undef)))
    | false => .spl p (.det (.one (.c .undef))) (opR E o S)
   | .one (.c .undef) => .det (.one (.c .undef))
   | _ => .fail
  | none => .fail
def rvc (E : Env) (tc : Nat → Bool) (ol : List Oper) : List Oper → St → (St → Prop) → Prop
 | [], S, K => K S
 | o :: l, S, K => (opG E ol o S).wp tc S o.dst fun S => rvc E tc ol l S K
def quietO (S : St) (o : Op) : Bool :=
 match o with
 | .store _ x _ => match look S x with
  | .one (.c (.loc _ _)) => true
  | _ => false
 | .call c => match c.callee with
  | .builtin .len => true
  | .builtin .max => true
  | _ => false
 | .alloc _ => false
 | .box _ _ => false
 | .buildSlice _ _ _ => false
 | _ => true
def takeOk (held : List Nat) (hel : Bool) (S : St) (o : Op) : Bool :=
 match o with
 | .load _ x => match look S x with
  | .one (.c (.loc id _)) => memb id held
  | .one (.c (.el _)) => hel
  | .one (.c .undef) => true
  | _ => false
 | .move _ => true
 | .assign _ => true
 | .pick _ _ _ => true
 | .build _ _ => true
 | .nilCheck _ => true
 | .binOp _ _ _ _ _ => true
 | .unOp _ _ _ => true
 | .convert _ _ _ => true
 | .slice _ _ _ _ _ => true
 | .fieldAddr _ _ _ => true
 | .field _ _ _ => true
 | .indexAddr _ _ _ => true
 | .extract _ _ => true
 | .call c => match c.callee with
  | .builtin .len => true
  | .builtin .max => true
  | _ => false
 | _ => false
def isLoad (o : Op) : Bool :=
 match o with
 | .load _ _ => true
 | _ => false
inductive Pl where
 | done
 | take (i : Nat) (p : Pl)
 | step (i : Nat) (p : Pl)
 | fork (i : Nat) (p : Pl) (j : Nat) (q : Pl)
 | brk (p : Pl)
structure Pn where
 pl : Pl
 /-- boxes that stand until the break -/
 held : List Nat
 /-- do the blocks stand too that are known by types? -/
 hel : Bool
 /-- the operations behind the break -/
 T : List Nat
def edgeOn (o : Oper) (i : Nat) : Bool := o.after.any fun e => Region.binds .any e && e.on == i
def natsEq : List Nat → List Nat → Bool
 | [], [] => true
 | x :: xs, y :: ys => match Nat.beq x y with
  | true => natsEq xs ys
  | false => false
 | _, _ => false
def pchk (ops : Array Oper) (T : List Nat) : Pl → Nat → Bool → Array Bool → Bool
 | .done, _, _, l => natsEq (Region.ready .any ops l) []
 | .take i p, n, ph, l => match n, ops[i]? with
  | m + 1, some o => memb i (Region.ready .any ops l) && (Region.free .any ops l i && (!memb i T && ((!isLoad o.op || (!ph && T.all fun j => match ops[j]? with | some oj => edgeOn oj i | none => false)) && pchk ops T p m ph (l.setIfInBounds i true))))
  | _, _ => false
 | .step i p, n, ph, l => match n with
  | m + 1 => natsEq (Region.ready .any ops l) [i] && ((ph == memb i T) && pchk ops T p m ph (l.setIfInBounds i true))
  | 0 => false
 | .fork i p j q, n, ph, l => match n with
  | m + 1 => natsEq (Region.ready .any ops l) [i, j] && ((ph == memb i T) && ((ph == memb j T) && (pchk ops T p m ph (l.setIfInBounds i true) && pchk ops T q m ph (l.setIfInBounds j true))))
  | 0 => false
 | .brk p, n, _, l => pchk ops T p n true l
def Pch (ops : Array Oper) (T : List Nat) (p : Pl) : Prop := pchk ops T p ops.size false (Array.replicate ops.size false) = true
theorem Pch.mk {ops : Array Oper} {T : List Nat} {p : Pl} (h : pchk ops T p ops.size false (Array.replicate ops.size false) = true) : Pch ops T p := h
def phTc (tc : Nat → Bool) (held : List Nat) : Bool → Nat → Bool
 | true, id => tc id
 | false, id => match memb id held with
  | true => false
  | false => tc id
def stepOk (hel ph : Bool) (S : St) (o : Op) : Bool :=
 match ph with
 | true => true
 | false => match hel with
  | true => quietO S o
  | false => true
def dvc (E : Env) (tc : Nat → Bool) (held : List Nat) (hel : Bool) (ol : List Oper) : Bool → Pl → St → (St → Prop) → Prop
 | _, .done, S, K => K S
 | ph, .take i p, S, K => match nth ol i with
  | some o => match takeOk held hel S o.op with
   | true => (opG E ol o S).wp (phTc tc held ph) S o.dst fun S => dvc E tc held hel ol ph p S K
   | false => False
  | none => False
 | ph, .step i p, S, K => match nth ol i with
  | some o => match stepOk hel ph S o.op with
   | true => (opG E ol o S).wp (phTc tc held ph) S o.dst fun S => dvc E tc held hel ol ph p S K
   | false => False
  | none => False
 | ph, .fork i p j q, S, K =>
  (match nth ol i with
  | some o => match stepOk hel ph S o.op with
   | true => (opG E ol o S).wp (phTc tc held ph) S o.dst fun S => dvc E tc held hel ol ph p S K
   | false => False
  | none => False) ∧
  (match nth ol j with
  | some o => match stepOk hel ph S o.op with
   | true => (opG E ol o S).wp (phTc tc held ph) S o.dst fun S => dvc E tc held hel ol ph q S K
   | false => False
  | none => False)
 | _, .brk p, S, K => dvc E tc held hel ol true p S K
structure Post where
 n : St → Prop
 ex : Nat → St → Prop
 ret : St → Prop
structure LSt where
 env : List (Nat × AV)
 box : List (Nat × List CV)
 L : Nat
def LSt.st : LSt → St
 | ⟨env, box, L⟩ => ⟨fun i => match assoc env i with | some v => v | none => .one (.c .any), assoc box, L⟩
def St.force (S : St) (K : St → Prop) : Prop := match S with
 | ⟨e, b, L⟩ => K ⟨e, b, L⟩
def wkC (x y : CV) : Prop :=
 match y with
 | .any => True
 | .undef => match x with | .undef => True | _ => False
 | .int k m => match x with
  | .int k' n => match ikEq k k' with | true => n = m | false => False
  | _ => False
 | .prop q => match x with | .prop p => (p ↔ q) | _ => False
 | .str => match x with | .str => True | _ => False
 | .tint k => match x with
  | .int k' _ => match ikEq k k' with | true => True | false => False
  | .tint k' => match ikEq k k' with | true => True | false => False
  | _ => False
 | .tbool => match x with | .prop _ => True | .tbool => True | _ => False
 | .sl E B => match x with
  | .slice E' n => match Nat.beq E E' with | true => n ≤ B | false => False
  | .sl E' B' => match Nat.beq E E' with | true => B' ≤ B | false => False
  | .nils => True
  | _ => False
 | .slice E m => match x with
  | .slice E' n => match Nat.beq E E' with | true => n = m | false => False
  | .nils => 0 = m
  | _ => False
 | .nils => match x with | .nils => True | _ => False
 | .nilp => match x with | .nilp => True | _ => False
 | .loc id off => match x with
  | .loc id' off' => match Nat.beq id id' && Nat.beq off off' with | true => True | false => False
  | _ => False
 | .el T => match x with
  | .el T' => match Nat.beq T T' with | true => True | false => False
  | _ => False
def wkL : List CV → List CV → Prop
 | [], [] => True
 | x :: xs, y :: ys => wkC x y ∧ wkL xs ys
 | _, _ => False
def wkV (x y : AV) : Prop :=
 match y with
 | .one (.c y) => match y with
  | .any => True
  | y => match x with
   | .one (.c x) => wkC x y
   | _ => False
 | .one (.agg ys) => match x with
  | .one (.agg xs) => wkL xs ys
  | _ => False
 | .tup _ => False
def wkE (e : Nat → AV) : List (Nat × AV) → Prop
 | [] => True
 | (i, v) :: l => wkV (e i) v ∧ wkE e l
structure WL (xs ys : List CV) : Prop where
 h : wkL xs ys
def wkB (e : Bx) : List (Nat × List CV) → Prop
 | [] => True
 | (i, cs) :: l => (match e i with | some xs => WL xs cs | none => False) ∧ wkB e l
def wkK (b : List (Nat × List CV)) (e : Bx) : List Nat → Prop
 | [] => True
 | i :: l => match assoc b i with
  | some _ => wkK b e l
  | none => match e i with
   | none => wkK b e l
   | some _ => False
def keysOf : List (Nat × List CV) → List Nat
 | [] => []
 | (i, _) :: l => i :: keysOf l
def envIn (ks : List Nat) : List (Nat × AV) → Bool
 | [] => true
 | (_, v) :: l => match aIn ks v with
  | true => envIn ks l
  | false => false
def celIn (ks : List Nat) : List (Nat × List CV) → Bool
 | [] => true
 | (_, cs) :: l => match csIn ks cs with
  | true => celIn ks l
  | false => false
def wkS (base : List Nat) (S : St) (l : LSt) : Prop :=
 wkE S.env l.env ∧ wkB S.box l.box ∧ wkK l.box S.box base ∧ S.L = l.L ∧ (match envIn (keysOf l.box) l.env && celIn (keysOf l.box) l.box with | true => True | false => False)
structure Cfg where
 E : Env
 tc : Nat → Bool
 base : List Nat
 plan : Nat → Pn
def vc (C : Cfg) : Code → St → Post → Prop
 | .skip, S, Q => Q.n S
 | .label _, S, Q => Q.n S
 | .seq x y, S, Q => vc C x S ⟨fun S => vc C y S Q, Q.ex, Q.ret⟩
 | .cond c x y, S, Q => match look S c with
  | .one (.c (.prop p)) => (p → vc C x S Q) ∧ (¬ p → vc C y S Q)
  | _ => False
 | .block id c, S, Q => vc C c S ⟨Q.n, fun id' S => match Nat.beq id' id with | true => Q.n S | false => Q.ex id' S, Q.ret⟩
 | .loop c, S, Q => ∃ (α : Type) (J : α → LSt) (I : α → Prop) (μ : α → Nat), (∃ x, wkS C.base S (J x) ∧ I x) ∧
   ∀ x, I x → (J x).st.force fun S => vc C c S ⟨fun S' => ∃ x', wkS C.base S' (J x') ∧ I x' ∧ μ x' < μ x, Q.ex, Q.ret⟩
 | .exit id, S, Q => Q.ex id S
 | .ret, S, Q => Q.ret S
 | .region id ops draw, S, Q => match draw with
  | false => rvc C.E C.tc ops.toList ops.toList S Q.n
  | true => match heldIn S.box (C.plan id).held with
   | true => Pch ops (C.plan id).T (C.plan id).pl ∧ dvc C.E C.tc (C.plan id).held (C.plan id).hel ops.toList false (C.plan id).pl S Q.n
   | false => False
 | _, _, _ => False
end Tv
end Go.Proofs.YtpabdmcbahmjnaaGreat
