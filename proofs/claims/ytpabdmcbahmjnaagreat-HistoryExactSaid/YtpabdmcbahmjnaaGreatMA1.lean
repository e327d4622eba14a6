/- Part of a proof: Plain Bits Order MapsLib Fam FamB HashP ModD Abs ZP LtP. -/
import Derived.WalkKit
import Derived.Lib.Strings
import Derived.MapKept
import Derived.Maps.RangeRun
import Derived.Test.YtpabdmcbahmjnaaGreatProg
import Derived.KernelRfl
import Derived.Deep.Draws
import Derived.WalkLawsBesides
import Derived.WalkSpells
import Derived.Outline
import Derived.Lib.Hide
namespace Go.Proofs.YtpabdmcbahmjnaaGreat
open Go.RowKit
set_option linter.unusedSimpArgs false
set_option linter.unusedVariables false
theorem ret_int {k : IntKind} {a b : Int} (h : a = b) : Ending.returned (.int k a) = .returned (.int k b) := by rw [h]
theorem ret_bool {a b : Bool} (h : a = b) : Ending.returned (.bool a) = .returned (.bool b) := by rw [h]
def slN (h l : Nat) : Nat := h / 64 ^ l % 64
def sl (h l : Int) : Int := if l < 0 ∨ 11 ≤ l then 0 else (slN h.toNat l.toNat : Nat)
def cmFrom (h k : Int) : Nat → Nat → Nat
 | 0, l => l
 | n + 1, l => if sl h l = sl k l then cmFrom h k n (l + 1) else l
def cm (h k : Int) : Int := (cmFrom h k 11 0 : Nat)
def up (h j : Int) : Int := ((h.toNat / 64 ^ (j + 1).toNat : Nat) : Int)
theorem bytes_ext (a b : ByteArray) (h : a.toList = b.toList) : a = b := by
 rw [Lib.toList_data, Lib.toList_data] at h
 cases a; cases b
 simp only [ByteArray.mk.injEq]
 exact Array.toList_inj.mp h
end Go.Proofs.YtpabdmcbahmjnaaGreat
namespace Go.Proofs.YtpabdmcbahmjnaaGreat
open Go.ChangeMaps (setBlock)
open Go.RowKit Go.MapKept
set_option linter.unusedSectionVars false
set_option linter.unusedSimpArgs false
set_option linter.unusedVariables false
section Assoc
variable {κ β : Type} [DecidableEq κ]
def alook : List (κ × β) → κ → Option β
 | [], _ => none
 | (a, b) :: r, k => if a = k then some b else alook r k
def aset : List (κ × β) → κ → β → List (κ × β)
 | [], k, v => [(k, v)]
 | (a, b) :: r, k, v => if a = k then (k, v) :: r else (a, b) :: aset r k v
def adel : List (κ × β) → κ → List (κ × β)
 | [], _ => []
 | (a, b) :: r, k => if a = k then r else (a, b) :: adel r k
theorem alook_none {L : List (κ × β)} {k : κ} (h : ∀ p ∈ L, p.1 ≠ k) : alook L k = none := by
 induction L with
 | nil => rfl
 | cons p r ih =>
  obtain ⟨a, b⟩ := p
  have h1 : a ≠ k := h (a, b) (.head _)
  simp only [alook, if_neg h1]
  exact ih fun q hq => h q (.tail _ hq)
theorem aset_new {L : List (κ × β)} {k : κ} {v : β} (h : ∀ p ∈ L, p.1 ≠ k) : aset L k v = L ++ [(k, v)] := by
 induction L with
 | nil => rfl
 | cons p r ih =>
  obtain ⟨a, b⟩ := p
  have h1 : a ≠ k := h (a, b) (.head _)
  simp only [aset, if_neg h1, List.cons_append]
  rw [ih fun q hq => h q (.tail _ hq)]
theorem assoc_at {L : List (κ × β)} (hn : (L.map (·.1)).Nodup) {k : κ} {b : β} : ∀ {j : Nat}, L[j]? = some (k, b) →
  alook L k = some b ∧ (∀ v, aset L k v = L.set j (k, v)) ∧ adel L k = L.eraseIdx j := by
 induction L with
 | nil => intro j h; simp at h
 | cons p r ih =>
  obtain ⟨a, b'⟩ := p
  intro j h
  simp only [List.map_cons, List.nodup_cons] at hn
  cases j with
  | zero =>
   simp only [List.getElem?_cons_zero, Option.some.injEq, Prod.mk.injEq] at h
   obtain ⟨rfl, rfl⟩ := h
   simp [alook, aset, adel]
  | succ j =>
   simp only [List.getElem?_cons_succ] at h
   have hne : a ≠ k := fun he => hn.1 (he ▸ List.mem_map.2 ⟨(k, b), List.mem_of_getElem? h, rfl⟩)
   obtain ⟨i1, i2, i3⟩ := ih hn.2 h
   simp only [alook, aset, adel, if_neg hne, List.set_cons_succ, List.eraseIdx_cons_succ]
   exact ⟨i1, fun v => by rw [i2], by rw [i3]⟩
end Assoc
section
variable {κ β : Type} [DecidableEq κ]
variable {P : Program} {w : World} {r : Nat} {d : TypeDesc} {kk : κ → Value} {f : β → Value} {L : List (κ × β)}
def outOf (z : Value) (f : β → Value) : Option β → Value
 | none => z
 | some b => f b
end
section
variable {κ β : Type} [DecidableEq κ] {P : Program} (w : World) {ops : Array Oper} {rest : List Oper} {o : Oper} {a : Act} {Q : Exit → Act → World → Prop}
variable {r : Nat} {d : TypeDesc} {kk : κ → Value} {f : β → Value} {L : List (κ × β)}
structure Turned (r : Nat) (w w1 : World) : Prop where
 cell : ∀ c j, c ≠ r → w1.cell? ⟨c, j, none⟩ = w.cell? ⟨c, j, none⟩
 frozen : ∀ c j, c ≠ r → w1.frozen? ⟨c, j, none⟩ = w.frozen? ⟨c, j, none⟩
 size : w1.heap.size = w.heap.size
 block : ∀ c, c ≠ r → w1.heap[c]? = w.heap[c]?
 os : w1.os = w.os
 tape : w1.tape = w.tape
 output : w1.output = w.output
theorem Turned.mk' {w : World} (r : Nat) (o : Obj) : Turned r w (setBlock w r o) := by
 have hb : ∀ c, c ≠ r → (setBlock w r o).heap[c]? = w.heap[c]? := fun c hc => by
  show (w.heap.setIfInBounds r o)[c]? = _
  rw [Array.getElem?_setIfInBounds_ne (Ne.symm hc)]
 exact ⟨fun c j hc => World.cell?_of_block (hb c hc), fun c j hc => World.frozen?_of_block (hb c hc), by show (w.heap.setIfInBounds r o).size = _; rw [Array.size_setIfInBounds], hb, rfl, rfl, rfl⟩
end
end Go.Proofs.YtpabdmcbahmjnaaGreat
namespace Go.Proofs.YtpabdmcbahmjnaaGreat
open Go.ChangeMaps (setBlock)
open Go.RowKit Go.MapKept
set_option linter.unusedSimpArgs false
set_option linter.unusedVariables false
structure Only (S : Nat → Prop) (w w' : World) : Prop where
 os : w'.os = w.os
 tape : w'.tape = w.tape
 output : w'.output = w.output
 size : w.heap.size ≤ w'.heap.size
 block : ∀ k, k < w.heap.size → ¬ S k → w'.heap[k]? = w.heap[k]?
theorem Only.refl (S : Nat → Prop) (w : World) : Only S w w := ⟨rfl, rfl, rfl, Nat.le_refl _, fun _ _ _ => rfl⟩
theorem Only.trans {S T : Nat → Prop} {a b c : World} (h : Only S a b) (k : Only T b c) (hs : ∀ i, T i → S i ∨ a.heap.size ≤ i) : Only S a c :=
 ⟨k.os.trans h.os, k.tape.trans h.tape, k.output.trans h.output, Nat.le_trans h.size k.size, fun i hi hn =>
  (k.block i (Nat.lt_of_lt_of_le hi h.size) (fun ht => (hs i ht).elim hn (fun hh => absurd hi (by omega)))).trans (h.block i hi hn)⟩
theorem Only.drew {S : Nat → Prop} {a b : World} (h : Only S a b) : Only S a b.drew := ⟨h.os, h.tape, h.output, h.size, h.block⟩
theorem Only.drewN {S : Nat → Prop} {a b : World} (h : Only S a b) (n : Nat) : Only S a (b.drewN n) := ⟨h.os, h.tape, h.output, h.size, h.block⟩
theorem Only.alloc {S : Nat → Prop} {a b : World} (h : Only S a b) (o : Obj) : Only S a (b.alloc o) :=
 ⟨h.os, h.tape, h.output, by show a.heap.size ≤ (b.heap.push o).size; rw [Array.size_push]; have := h.size; omega, fun i hi hn =>
  (Below.heap_alloc b o i (Nat.lt_of_lt_of_le hi h.size)).trans (h.block i hi hn)⟩
theorem Only.setCell {S : Nat → Prop} {a b : World} (h : Only S a b) {p : Addr} (hp : S p.block ∨ a.heap.size ≤ p.block) (u : Value) : Only S a (b.setCell p u) :=
 ⟨h.os, h.tape, h.output, by show a.heap.size ≤ (b.heap.modify _ _).size; rw [Array.size_modify]; exact h.size, fun i hi hn =>
  (Below.heap_setCell b p u i (fun e => by subst e; rcases hp with hp | hp; exact hn hp; omega)).trans (h.block i hi hn)⟩
theorem Only.below {S : Nat → Prop} {a b : World} (h : Only S a b) {B : Nat} (hB : B ≤ a.heap.size) (hs : ∀ i, S i → B ≤ i) : Below B a b :=
 ⟨h.os, h.tape, h.output, h.size, fun i hi => h.block i (by omega) fun hh => by have := hs i hh; omega⟩
theorem Only.setAt {S : Nat → Prop} {a c : World} (h : Only S a c) {b j : Nat} (hp : a.heap.size ≤ b) (u : Value) : Only S a (c.setCell ⟨b, j, none⟩ u) := h.setCell (Or.inr hp) u
theorem Only.setOwn {S : Nat → Prop} {a c : World} (h : Only S a c) {b j : Nat} (hp : S b) (u : Value) : Only S a (c.setCell ⟨b, j, none⟩ u) := h.setCell (Or.inl hp) u
structure MapD where
 ref : Nat
 vals : List (ByteArray × Int)
 ro : Bool
structure IterD where
 thread : Int
 number : Int
 pos : Int
structure FamD where
 mask : Int
 maps : List (Int × MapD)
 iters : List (Int × IterD)
structure OpD where
 kind : Int
 handle : Int
 key : ByteArray
 value : Int
 expect : Int
structure ResD where
 err : Int := 0
 found : Bool := false
 value : Int := 0
 key : ByteArray := ⟨#[]⟩
 count : Int := 0
end Go.Proofs.YtpabdmcbahmjnaaGreat
namespace Go.Proofs.YtpabdmcbahmjnaaGreat
open Go.RowKit Go.MapKept
set_option linter.unusedSimpArgs false
set_option linter.unusedVariables false
theorem blk_cell {w : World} {g : Nat} {t : TypeId} {cs : Array Value} (h : w.heap[g]? = some (.cells cs t (0, 0))) (i : Nat) : w.cell? ⟨g, i, none⟩ = cs[i]? := by
 unfold World.cell?
 rw [h]
 simp
theorem aset_mem {κ β : Type} [DecidableEq κ] {L : List (κ × β)} {n : κ} {d : β} {p : κ × β} (h : p ∈ aset L n d) : p = (n, d) ∨ (p ∈ L ) := by
 induction L with
 | nil => simp [aset] at h; exact Or.inl h
 | cons q r ih =>
  obtain ⟨a, b⟩ := q
  by_cases ha : a = n
  ·simp [aset, ha] at h
   rcases h with h | h
   ·exact Or.inl h
   ·exact Or.inr (.tail _ h)
  ·simp [aset, ha] at h
   rcases h with h | h
   ·exact Or.inr (h ▸ .head _)
   ·rcases ih h with h | h
    ·exact Or.inl h
    ·exact Or.inr (.tail _ h)
structure AMap where
 vals : List (ByteArray × Int)
 ro : Bool
structure AFam where
 mask : Int
 maps : List (Int × AMap)
 iters : List (Int × IterD)
structure OkA (N : Nat) (A : AFam) : Prop where
 m0 : 0 ≤ A.mask
 m1 : A.mask ≤ 18446744073709551615
 keys : ∀ p ∈ A.maps, ∀ q ∈ p.2.vals, q.1.size ≤ 64
 lens : ∀ p ∈ A.maps, p.2.vals.length ≤ N
 poss : ∀ p ∈ A.iters, 0 ≤ p.2.pos ∧ p.2.pos ≤ N
 nums : ∀ p ∈ A.iters, (alook A.maps p.2.number).isSome = true
 count : A.maps.length ≤ N
end Go.Proofs.YtpabdmcbahmjnaaGreat
namespace Go.Proofs.YtpabdmcbahmjnaaGreat
set_option linter.unusedSimpArgs false
set_option linter.unusedVariables false
structure ResF where
 err : Int
 found : Bool
 value : Int
 key : ByteArray
 count : Int
 ref : Int
 root : Int
 ro : Bool
 deriving DecidableEq
def ResF.zero : ResF := ⟨0, false, 0, ⟨#[]⟩, 0, 0, 0, false⟩
structure EvD where
 thread : Int
 index : Int
 ret : Bool
 res : ResF
abbrev OpP := Int × Int
def EvD.op (e : EvD) : OpP := (e.thread, e.index)
def cntT (l : List EvD) (i : Nat) (t : Int) : Nat := ((l.take i).filter (fun e => e.thread == t)).length
structure EvOk (ops : List Nat) (l : List EvD) (i : Nat) (e : EvD) : Prop where
 t0 : 0 ≤ e.thread
 t1 : e.thread < ops.length
 idx : e.index = (cntT l i e.thread / 2 : Nat)
 lim : ∀ n, ops[e.thread.toNat]? = some n → cntT l i e.thread / 2 < n
 ret : e.ret = (cntT l i e.thread % 2 == 1)
 res : e.ret = false → e.res = ResF.zero
def ProperP (ops : List Nat) (l : List EvD) : Prop := ∀ i e, l[i]? = some e → EvOk ops l i e
theorem cntT_succ {l : List EvD} {i : Nat} {e : EvD} (h : l[i]? = some e) (t : Int) : cntT l (i + 1) t = cntT l i t + (if e.thread = t then 1 else 0) := by
 unfold cntT
 have hi := (List.getElem?_eq_some_iff.1 h).1
 rw [List.take_add_one, h]
 simp only [Option.toList_some, List.filter_append, List.length_append]
 by_cases ht : e.thread = t
 ·simp [ht]
 ·simp [ht]
def whenP (l : List EvD) (a : OpP) (back : Bool) : Int :=
 match l.findIdx? (fun e => e.thread == a.1 && e.index == a.2 && e.ret == back) with
 | some i => i
 | none => -1
end Go.Proofs.YtpabdmcbahmjnaaGreat
