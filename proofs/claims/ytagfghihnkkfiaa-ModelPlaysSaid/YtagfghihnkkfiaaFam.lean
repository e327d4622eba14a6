/- The family of maps of package model: its state in plain Lean, and how it lies in memory. -/
import Derived.Test.YtagfghihnkkfiaaProg
import Derived.Test.YtagfghihnkkfiaaOrder
import Derived.Test.YtagfghihnkkfiaaMapsLib
import Derived.WalkKit
import Derived.KernelRfl
import Derived.Deep.Draws
namespace Go.Proofs.Ytagfghihnkkfiaa
set_option linter.unusedVariables false
set_option linter.unusedSimpArgs false
open Go.RowKit Go.MapKept
open Go.ChangeMaps (setBlock)

/-! ### what may change -/
structure Only (S : Nat → Prop) (w w' : World) : Prop where
  os : w'.os = w.os
  tape : w'.tape = w.tape
  output : w'.output = w.output
  size : w.heap.size ≤ w'.heap.size
  block : ∀ k, k < w.heap.size → ¬ S k → w'.heap[k]? = w.heap[k]?
theorem Only.refl (S : Nat → Prop) (w : World) : Only S w w := ⟨rfl, rfl, rfl, Nat.le_refl _, fun _ _ _ => rfl⟩
theorem Only.trans {S T : Nat → Prop} {a b c : World} (h : Only S a b) (k : Only T b c) (hs : ∀ i, T i → S i ∨ a.heap.size ≤ i) : Only S a c :=
  ⟨k.os.trans h.os, k.tape.trans h.tape, k.output.trans h.output, Nat.le_trans h.size k.size, fun i hi hn =>
    (k.block i (Nat.lt_of_lt_of_le hi h.size) (fun ht => (hs i ht).elim hn (fun hh => absurd hi (by omega)))).trans (h.block i hi hn)⟩
theorem Only.mono {S T : Nat → Prop} {a b : World} (h : Only S a b) (hs : ∀ i, S i → T i) : Only T a b :=
  ⟨h.os, h.tape, h.output, h.size, fun i hi hn => h.block i hi fun hh => hn (hs i hh)⟩
theorem Only.drew {S : Nat → Prop} {a b : World} (h : Only S a b) : Only S a b.drew := ⟨h.os, h.tape, h.output, h.size, h.block⟩
theorem Only.drewN {S : Nat → Prop} {a b : World} (h : Only S a b) (n : Nat) : Only S a (b.drewN n) := ⟨h.os, h.tape, h.output, h.size, h.block⟩
theorem Only.alloc {S : Nat → Prop} {a b : World} (h : Only S a b) (o : Obj) : Only S a (b.alloc o) :=
  ⟨h.os, h.tape, h.output, by show a.heap.size ≤ (b.heap.push o).size; rw [Array.size_push]; have := h.size; omega, fun i hi hn =>
    (Below.heap_alloc b o i (Nat.lt_of_lt_of_le hi h.size)).trans (h.block i hi hn)⟩
theorem Only.setCell {S : Nat → Prop} {a b : World} (h : Only S a b) {p : Addr} (hp : S p.block ∨ a.heap.size ≤ p.block) (u : Value) : Only S a (b.setCell p u) :=
  ⟨h.os, h.tape, h.output, by show a.heap.size ≤ (b.heap.modify _ _).size; rw [Array.size_modify]; exact h.size, fun i hi hn =>
    (Below.heap_setCell b p u i (fun e => by subst e; rcases hp with hp | hp; exact hn hp; omega)).trans (h.block i hi hn)⟩
theorem Only.setBlock {S : Nat → Prop} {a b : World} (h : Only S a b) {r : Nat} (hp : S r ∨ a.heap.size ≤ r) (o : Obj) : Only S a (setBlock b r o) :=
  ⟨h.os, h.tape, h.output, by show a.heap.size ≤ (b.heap.setIfInBounds r o).size; rw [Array.size_setIfInBounds]; exact h.size, fun i hi hn => by
    have hne : r ≠ i := fun e => by subst e; rcases hp with hp | hp; exact hn hp; omega
    show (b.heap.setIfInBounds r o)[i]? = _
    rw [Array.getElem?_setIfInBounds_ne hne]
    exact h.block i hi hn⟩
theorem Only.of_below {S : Nat → Prop} {a b : World} (h : Below a.heap.size a b) : Only S a b := ⟨h.os, h.tape, h.output, h.size, fun i hi _ => h.block i hi⟩
theorem Only.below {S : Nat → Prop} {a b : World} (h : Only S a b) {B : Nat} (hB : B ≤ a.heap.size) (hs : ∀ i, S i → B ≤ i) : Below B a b :=
  ⟨h.os, h.tape, h.output, h.size, fun i hi => h.block i (by omega) fun hh => by have := hs i hh; omega⟩
theorem Only.of_grown {S : Nat → Prop} {a b : World} {row : Option Nat} (h : a.grownBy b row) (hr : ∀ k, row = some k → S k ∨ a.heap.size ≤ k) : Only S a b :=
  ⟨h.os, h.tape, h.output, h.size, fun i hi hn => h.block i hi fun e => (hr i e.symm).elim hn (fun hh => by omega)⟩

theorem Only.turned {S : Nat → Prop} {a b c : World} (h : Only S a b) {r : Nat} (ht : Turned r b c) (hp : S r ∨ a.heap.size ≤ r) : Only S a c :=
  ⟨ht.os.trans h.os, ht.tape.trans h.tape, ht.output.trans h.output, by rw [ht.size]; exact h.size, fun i hi hn =>
    (ht.block i (fun e => by subst e; rcases hp with hp | hp; exact hn hp; omega)).trans (h.block i hi hn)⟩
theorem MapIs.alloc {κ β : Type} [DecidableEq κ] {w : World} {r : Nat} {d : TypeDesc} {kk : κ → Value} {f : β → Value} {L : List (κ × β)} (h : MapIs w r d kk f L) (o : Obj) : MapIs (w.alloc o) r d kk f L := h.of_block (Below.heap_alloc w o r h.lt)
theorem MapIs.drew {κ β : Type} [DecidableEq κ] {w : World} {r : Nat} {d : TypeDesc} {kk : κ → Value} {f : β → Value} {L : List (κ × β)} (h : MapIs w r d kk f L) : MapIs w.drew r d kk f L := h

theorem MapIs.setCell {κ β : Type} [DecidableEq κ] {w : World} {r : Nat} {d : TypeDesc} {kk : κ → Value} {f : β → Value} {L : List (κ × β)} (h : MapIs w r d kk f L) {p : Addr} (hp : r ≠ p.block) (u : Value) : MapIs (w.setCell p u) r d kk f L := h.of_block (Below.heap_setCell w p u r hp)

theorem MapIs.setAt {κ β : Type} [DecidableEq κ] {w : World} {r : Nat} {d : TypeDesc} {kk : κ → Value} {f : β → Value} {L : List (κ × β)} (h : MapIs w r d kk f L) {b j : Nat} (hp : r ≠ b) (u : Value) : MapIs (w.setCell ⟨b, j, none⟩ u) r d kk f L := h.setCell hp u
theorem Only.setAt {S : Nat → Prop} {a c : World} (h : Only S a c) {b j : Nat} (hp : a.heap.size ≤ b) (u : Value) : Only S a (c.setCell ⟨b, j, none⟩ u) := h.setCell (Or.inr hp) u

theorem Only.setOwn {S : Nat → Prop} {a c : World} (h : Only S a c) {b j : Nat} (hp : S b) (u : Value) : Only S a (c.setCell ⟨b, j, none⟩ u) := h.setCell (Or.inl hp) u

/-! ### the state -/
structure MapD where
  ref : Nat
  vals : List (ByteArray × Int)
  ro : Bool
structure IterD where
  thread : Int
  number : Int
  pos : Int
structure FamD where
  mask : Int
  maps : List (Int × MapD)
  iters : List (Int × IterD)
structure OpD where
  kind : Int
  handle : Int
  key : ByteArray
  value : Int
  expect : Int
structure ResD where
  err : Int := 0
  found : Bool := false
  value : Int := 0
  key : ByteArray := ⟨#[]⟩
  count : Int := 0
def OpD.val (o : OpD) : Value := .agg #[.int .i64 o.kind, .int .i64 o.handle, .string o.key, .int .u64 o.value, .int .u64 o.expect]
def ResD.cells (r : ResD) : Array Value := #[.int .i64 r.err, .bool r.found, .int .u64 r.value, .string r.key, .int .i64 r.count, .int .i64 0, .int .i64 0, .bool false]
def mapV (d : MapD) : Value := .agg #[.map (some d.ref), .bool d.ro]
def itV (i : IterD) : Value := .agg #[.int .i64 i.thread, .int .i64 i.number, .int .i64 i.pos]

def numberOf (t i : Int) : Int := if t < 0 ∨ 8 ≤ t ∨ i < 0 ∨ 16 ≤ i then -1 else 1 + t * 16 + i

/-- how a family lies in memory -/
structure FamIs (w : World) (bf bm bi : Nat) (F : FamD) : Prop where
  cells : w.heap[bf]? = some (.cells #[.int .u64 F.mask, .map (some bm), .map (some bi)] 78 (0, 0))
  maps : MapIs w bm (.int .i64) (Value.int .i64) mapV F.maps
  iters : MapIs w bi (.int .i64) (Value.int .i64) itV F.iters
  vals : ∀ p ∈ F.maps, MapIs w p.2.ref .string Value.string (Value.int .u64) p.2.vals
  nodup : (bm :: bi :: F.maps.map (fun p => p.2.ref)).Nodup
/-- the blocks of a family -/
def FamD.own (F : FamD) (bf bm bi : Nat) (k : Nat) : Prop := k = bf ∨ k = bm ∨ k = bi ∨ ∃ p ∈ F.maps, p.2.ref = k

theorem FamIs.lt {w : World} {bf bm bi : Nat} {F : FamD} (h : FamIs w bf bm bi F) {k : Nat} (hk : F.own bf bm bi k) : k < w.heap.size := by
  rcases hk with rfl | rfl | rfl | ⟨p, hp, rfl⟩
  · exact (Array.getElem?_eq_some_iff.1 h.cells).1
  · exact h.maps.lt
  · exact h.iters.lt
  · exact (h.vals p hp).lt
theorem FamIs.keep {w w' : World} {bf bm bi : Nat} {F : FamD} (h : FamIs w bf bm bi F) (hb : ∀ k, F.own bf bm bi k → w'.heap[k]? = w.heap[k]?) : FamIs w' bf bm bi F :=
  ⟨(hb bf (Or.inl rfl)).trans h.cells, h.maps.of_block (hb bm (Or.inr (Or.inl rfl))), h.iters.of_block (hb bi (Or.inr (Or.inr (Or.inl rfl)))),
   fun p hp => (h.vals p hp).of_block (hb _ (Or.inr (Or.inr (Or.inr ⟨p, hp, rfl⟩)))), h.nodup⟩
theorem FamIs.only {w w' : World} {bf bm bi : Nat} {F : FamD} {S : Nat → Prop} (h : FamIs w bf bm bi F) (ho : Only S w w') (hs : ∀ k, F.own bf bm bi k → ¬ S k) : FamIs w' bf bm bi F :=
  h.keep fun k hk => ho.block k (h.lt hk) (hs k hk)
theorem FamIs.below {w w' : World} {bf bm bi : Nat} {F : FamD} (h : FamIs w bf bm bi F) (ho : Below w.heap.size w w') : FamIs w' bf bm bi F :=
  h.keep fun k hk => ho.block k (h.lt hk)
theorem FamIs.cell {w : World} {bf bm bi : Nat} {F : FamD} (h : FamIs w bf bm bi F) :
    w.cell? ⟨bf, 0, none⟩ = some (.int .u64 F.mask) ∧ w.cell? ⟨bf, 1, none⟩ = some (.map (some bm)) ∧ w.cell? ⟨bf, 2, none⟩ = some (.map (some bi)) := by
  have hc := h.cells
  refine ⟨?_, ?_, ?_⟩ <;> simp [World.cell?, hc]

theorem key_int (x : Int) : IsKey (.int .i64) (Value.int .i64 x) := rfl
theorem key_str (x : ByteArray) : IsKey .string (Value.string x) := trivial
theorem inj_int (x y : Int) (h : Value.int .i64 x = Value.int .i64 y) : x = y := by injection h
theorem inj_str (x y : ByteArray) (h : Value.string x = Value.string y) : x = y := by injection h
theorem zero_map (w : World) : (zeroValue 74).run Try.prog w = .ok (.agg #[.map none, .bool false]) w := by kernel_rfl
theorem zero_it (w : World) : (zeroValue 86).run Try.prog w = .ok (.agg #[.int .i64 0, .int .i64 0, .int .i64 0]) w := by kernel_rfl
theorem zero_u64 (w : World) : (zeroValue 22).run Try.prog w = .ok (.int .u64 0) w := by kernel_rfl

/-- the look-ups, in every world in which the map's block is as it was -/
theorem FamIs.look_maps {w : World} {bf bm bi : Nat} {F : FamD} (h : FamIs w bf bm bi F) (k : Int) (c : Bool) (W : World) (hW : W.heap[bm]? = w.heap[bm]?) :
    (Instr.lookup 75 (.map (some bm)) (.int .i64 k) c).run Try.prog W = .ok (if c then .tuple #[outOf (.agg #[.map none, .bool false]) mapV (alook F.maps k), .bool (alook F.maps k).isSome] else outOf (.agg #[.map none, .bool false]) mapV (alook F.maps k)) W :=
  (h.maps.of_block hW).lookup key_int inj_int Try.underlying75 Try.underlying3 (zero_map W) k c
theorem FamIs.look_iters {w : World} {bf bm bi : Nat} {F : FamD} (h : FamIs w bf bm bi F) (k : Int) (c : Bool) (W : World) (hW : W.heap[bi]? = w.heap[bi]?) :
    (Instr.lookup 76 (.map (some bi)) (.int .i64 k) c).run Try.prog W = .ok (if c then .tuple #[outOf (.agg #[.int .i64 0, .int .i64 0, .int .i64 0]) itV (alook F.iters k), .bool (alook F.iters k).isSome] else outOf (.agg #[.int .i64 0, .int .i64 0, .int .i64 0]) itV (alook F.iters k)) W :=
  (h.iters.of_block hW).lookup key_int inj_int Try.underlying76 Try.underlying3 (zero_it W) k c

theorem FamIs.ask_maps {w : World} {bf bm bi : Nat} {F : FamD} (h : FamIs w bf bm bi F) (k : Int) :
    ∃ x y, ∀ W : World, W.heap[bm]? = w.heap[bm]? → (Instr.lookup 75 (.map (some bm)) (.int .i64 k) true).run Try.prog W = .ok (.tuple #[.agg #[.map x, .bool y], .bool (alook F.maps k).isSome]) W := by
  cases hn : alook F.maps k with
  | none => exact ⟨none, false, fun W hW => by have := h.look_maps k true W hW; rw [hn] at this; simpa [outOf] using this⟩
  | some d => exact ⟨some d.ref, d.ro, fun W hW => by have := h.look_maps k true W hW; rw [hn] at this; simpa [outOf, mapV] using this⟩
theorem FamIs.ask_iters {w : World} {bf bm bi : Nat} {F : FamD} (h : FamIs w bf bm bi F) (k : Int) :
    ∃ x y z, ∀ W : World, W.heap[bi]? = w.heap[bi]? → (Instr.lookup 76 (.map (some bi)) (.int .i64 k) true).run Try.prog W = .ok (.tuple #[.agg #[.int .i64 x, .int .i64 y, .int .i64 z], .bool (alook F.iters k).isSome]) W := by
  cases hn : alook F.iters k with
  | none => exact ⟨0, 0, 0, fun W hW => by have := h.look_iters k true W hW; rw [hn] at this; simpa [outOf] using this⟩
  | some d => exact ⟨d.thread, d.number, d.pos, fun W hW => by have := h.look_iters k true W hW; rw [hn] at this; simpa [outOf, itV] using this⟩
theorem blocks_alloc {w : World} {b : Nat} (hb : b < w.heap.size) :
    (∀ o, (w.alloc o).heap[b]? = w.heap[b]?) ∧ (∀ o o2, ((w.alloc o).alloc o2).heap[b]? = w.heap[b]?) ∧ (∀ o o2 o3, (((w.alloc o).alloc o2).alloc o3).heap[b]? = w.heap[b]?) := by
  have s : ∀ (W : World) o, b < W.heap.size → b < (W.alloc o).heap.size := fun W o h => by show b < (W.heap.push o).size; rw [Array.size_push]; omega
  refine ⟨fun o => Below.heap_alloc w o b hb, fun o o2 => ?_, fun o o2 o3 => ?_⟩
  · rw [Below.heap_alloc _ o2 b (s _ _ hb), Below.heap_alloc w o b hb]
  · rw [Below.heap_alloc _ o3 b (s _ _ (s _ _ hb)), Below.heap_alloc _ o2 b (s _ _ hb), Below.heap_alloc w o b hb]
theorem cells_alloc {w : World} {b : Nat} (hb : b < w.heap.size) :
    (∀ j o o2, ((w.alloc o).alloc o2).cell? ⟨b, j, none⟩ = w.cell? ⟨b, j, none⟩) ∧ (∀ j o o2 o3, (((w.alloc o).alloc o2).alloc o3).cell? ⟨b, j, none⟩ = w.cell? ⟨b, j, none⟩) := by
  obtain ⟨_, a2, a3⟩ := blocks_alloc hb
  exact ⟨fun j o o2 => World.cell?_of_block (a2 o o2), fun j o o2 o3 => World.cell?_of_block (a3 o o2 o3)⟩
theorem drew_heap (W : World) : W.drew.heap = W.heap := rfl

/-! ### what the operations do -/
/-- the refusals of an operation on a map -/
def unfitK (kind : Int) (key : ByteArray) (ro : Bool) : Int :=
  if kind ≤ 7 ∧ ¬ (key.size : Int) ≤ 64 then 1
  else if kind == 1 || (kind == 2 || (kind == 3 || (kind == 4 || (kind == 5 || (kind == 6 || kind == 10))))) then (if ro then 6 else 0)
  else if kind == 11 || kind == 12 then (if ro then 0 else 7)
  else 0
def unfitD (F : FamD) (o : OpD) : Int :=
  match alook F.maps o.handle with
  | none => 5
  | some d => unfitK o.kind o.key d.ro
def takenD (F : FamD) (n : Int) : Bool := (alook F.maps n).isSome || (alook F.iters n).isSome
def lostD (F : FamD) (t : Int) (h : Int) : Bool :=
  match alook F.iters h with
  | none => true
  | some it => it.thread != t
def refusalD (F : FamD) (t i : Int) (o : OpD) : Int :=
  if numberOf t i < 0 ∨ o.kind < 1 ∨ 13 < o.kind then 1
  else if o.kind == 13 then (if lostD F t o.handle then 5 else if takenD F (numberOf t i) then 8 else 0)
  else if unfitD F o != 0 then unfitD F o
  else if takenD F (numberOf t i) then 8 else 0
/-- the values of a map -/
abbrev ValsIs (w : World) (r : Nat) (L : List (ByteArray × Int)) : Prop := MapIs w r .string Value.string (Value.int .u64) L
theorem ValsIs.look {w : World} {r : Nat} {L : List (ByteArray × Int)} (h : ValsIs w r L) (k : ByteArray) (W : World) (hW : W.heap[r]? = w.heap[r]?) :
    (Instr.lookup 72 (.map (some r)) (.string k) true).run Try.prog W = .ok (.tuple #[.int .u64 ((alook L k).getD 0), .bool (alook L k).isSome]) W := by
  have := (h.of_block hW).lookup (P := Try.prog) key_str inj_str Try.underlying72 Try.underlying9 (zero_u64 W) k true
  rw [this]
  cases alook L k <;> rfl
def permK (kind expect : Int) (f : Option Int) : Bool :=
  if kind == 2 then !f.isSome else if kind == 3 then f.isSome else if kind == 4 then f.isSome && f.getD 0 == expect else true
def setV (L : List (ByteArray × Int)) (o : OpD) : List (ByteArray × Int) :=
  if permK o.kind o.expect (alook L o.key) then aset L o.key o.value else L
def setR (L : List (ByteArray × Int)) (o : OpD) : ResD :=
  { found := (alook L o.key).isSome, value := (alook L o.key).getD 0, count := if permK o.kind o.expect (alook L o.key) then 1 else 0 }
def dropK (kind expect : Int) (f : Option Int) : Bool := f.isSome && (kind == 5 || f.getD 0 == expect)
def removeV (L : List (ByteArray × Int)) (o : OpD) : List (ByteArray × Int) :=
  if dropK o.kind o.expect (alook L o.key) then adel L o.key else L
def removeR (L : List (ByteArray × Int)) (o : OpD) : ResD :=
  { found := (alook L o.key).isSome, value := (alook L o.key).getD 0, count := if dropK o.kind o.expect (alook L o.key) then 1 else 0 }
end Go.Proofs.Ytagfghihnkkfiaa
