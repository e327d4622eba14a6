/- Part of a proof: Plain Bits Order MapsLib Fam FamB HashP ModD Abs ZP LtP. -/
import Derived.WalkKit
import Derived.Lib.Strings
import Derived.MapKept
import Derived.Maps.RangeRun
import Derived.Test.YtpabdmcbahmjnaaGreatProg
import Derived.KernelRfl
import Derived.Deep.Draws
import Derived.WalkLawsBesides
import Derived.WalkSpells
import Derived.Outline
import Derived.Lib.Hide
namespace Go.Proofs.YtpabdmcbahmjnaaGreat
open Go.RowKit
set_option linter.unusedSimpArgs false
set_option linter.unusedVariables false
def stepN (h : Nat) (c : UInt8) : Nat := ((h ^^^ c.toNat) * 1099511628211) % 18446744073709551616
def hashN (l : List UInt8) : Nat := l.foldl stepN 14695981039346656037
def hashM (l : List UInt8) (m : Int) : Int := ((hashN l &&& m.toNat : Nat) : Int)
theorem ret_int {k : IntKind} {a b : Int} (h : a = b) : Ending.returned (.int k a) = .returned (.int k b) := by rw [h]
theorem ret_bool {a b : Bool} (h : a = b) : Ending.returned (.bool a) = .returned (.bool b) := by rw [h]
def slN (h l : Nat) : Nat := h / 64 ^ l % 64
def sl (h l : Int) : Int := if l < 0 ∨ 11 ≤ l then 0 else (slN h.toNat l.toNat : Nat)
def cmFrom (h k : Int) : Nat → Nat → Nat
 | 0, l => l
 | n + 1, l => if sl h l = sl k l then cmFrom h k n (l + 1) else l
def cm (h k : Int) : Int := (cmFrom h k 11 0 : Nat)
def lessB (h : Int) (a : List UInt8) (k : Int) (b : List UInt8) : Bool :=
 if cm h k < 11 then decide (sl h (cm h k) < sl k (cm h k)) else Op.bytesLess a b
def up (h j : Int) : Int := ((h.toNat / 64 ^ (j + 1).toNat : Nat) : Int)
theorem bytes_ext (a b : ByteArray) (h : a.toList = b.toList) : a = b := by
 rw [Lib.toList_data, Lib.toList_data] at h
 cases a; cases b
 simp only [ByteArray.mk.injEq]
 exact Array.toList_inj.mp h
end Go.Proofs.YtpabdmcbahmjnaaGreat
namespace Go.Proofs.YtpabdmcbahmjnaaGreat
open Go.ChangeMaps (setBlock)
open Go.RowKit Go.MapKept
set_option linter.unusedSectionVars false
set_option linter.unusedSimpArgs false
set_option linter.unusedVariables false
section Assoc
variable {κ β : Type} [DecidableEq κ]
def alook : List (κ × β) → κ → Option β
 | [], _ => none
 | (a, b) :: r, k => if a = k then some b else alook r k
def aset : List (κ × β) → κ → β → List (κ × β)
 | [], k, v => [(k, v)]
 | (a, b) :: r, k, v => if a = k then (k, v) :: r else (a, b) :: aset r k v
def adel : List (κ × β) → κ → List (κ × β)
 | [], _ => []
 | (a, b) :: r, k => if a = k then r else (a, b) :: adel r k
theorem alook_none {L : List (κ × β)} {k : κ} (h : ∀ p ∈ L, p.1 ≠ k) : alook L k = none := by
 induction L with
 | nil => rfl
 | cons p r ih =>
  obtain ⟨a, b⟩ := p
  have h1 : a ≠ k := h (a, b) (.head _)
  simp only [alook, if_neg h1]
  exact ih fun q hq => h q (.tail _ hq)
theorem aset_new {L : List (κ × β)} {k : κ} {v : β} (h : ∀ p ∈ L, p.1 ≠ k) : aset L k v = L ++ [(k, v)] := by
 induction L with
 | nil => rfl
 | cons p r ih =>
  obtain ⟨a, b⟩ := p
  have h1 : a ≠ k := h (a, b) (.head _)
  simp only [aset, if_neg h1, List.cons_append]
  rw [ih fun q hq => h q (.tail _ hq)]
theorem assoc_at {L : List (κ × β)} (hn : (L.map (·.1)).Nodup) {k : κ} {b : β} : ∀ {j : Nat}, L[j]? = some (k, b) →
  alook L k = some b ∧ (∀ v, aset L k v = L.set j (k, v)) ∧ adel L k = L.eraseIdx j := by
 induction L with
 | nil => intro j h; simp at h
 | cons p r ih =>
  obtain ⟨a, b'⟩ := p
  intro j h
  simp only [List.map_cons, List.nodup_cons] at hn
  cases j with
  | zero =>
   simp only [List.getElem?_cons_zero, Option.some.injEq, Prod.mk.injEq] at h
   obtain ⟨rfl, rfl⟩ := h
   simp [alook, aset, adel]
  | succ j =>
   simp only [List.getElem?_cons_succ] at h
   have hne : a ≠ k := fun he => hn.1 (he ▸ List.mem_map.2 ⟨(k, b), List.mem_of_getElem? h, rfl⟩)
   obtain ⟨i1, i2, i3⟩ := ih hn.2 h
   simp only [alook, aset, adel, if_neg hne, List.set_cons_succ, List.eraseIdx_cons_succ]
   exact ⟨i1, fun v => by rw [i2], by rw [i3]⟩
end Assoc
section
variable {κ β : Type} [DecidableEq κ]
def MapIs (w : World) (r : Nat) (d : TypeDesc) (kk : κ → Value) (f : β → Value) (L : List (κ × β)) : Prop :=
 ∃ es clock, w.heap[r]? = some (.map es clock) ∧ Stamped es clock ∧ (∀ x ∈ es.toList, IsKey d x.key) ∧ es.toList.map (fun e => (e.key, e.val)) = L.map (fun p => (kk p.1, f p.2))
variable {P : Program} {w : World} {r : Nat} {d : TypeDesc} {kk : κ → Value} {f : β → Value} {L : List (κ × β)}
theorem MapIs.lt (h : MapIs w r d kk f L) : r < w.heap.size := by
 obtain ⟨es, clock, hb, _⟩ := h
 exact (Array.getElem?_eq_some_iff.1 hb).1
theorem MapIs.of_block {w' : World} (h : MapIs w r d kk f L) (hb : w'.heap[r]? = w.heap[r]?) : MapIs w' r d kk f L := by
 obtain ⟨es, clock, h1, h2⟩ := h
 exact ⟨es, clock, hb.trans h1, h2⟩
theorem MapIs.made (w : World) (d : TypeDesc) (kk : κ → Value) (f : β → Value) : MapIs (w.alloc (.map #[] 0)) w.heap.size d kk f [] :=
 ⟨#[], 0, (heap_alloc w _).1, stamped_empty _, by simp, by simp⟩
theorem MapIs.nodup (inj : ∀ x y, kk x = kk y → x = y) (h : MapIs w r d kk f L) : (L.map (·.1)).Nodup := by
 obtain ⟨es, clock, hb, hs, hk, hL⟩ := h
 have h3 : (es.toList.map (·.key)).Nodup := hs.2.2
 have e1 : es.toList.map (·.key) = (L.map (·.1)).map kk := by
  have := congrArg (List.map Prod.fst) hL
  simpa [List.map_map, Function.comp_def] using this
 rw [e1] at h3
 have hp : ∀ l : List κ, (l.map kk).Nodup → l.Nodup := by
  intro l
  induction l with
  | nil => intro _; exact List.nodup_nil
  | cons a t ih =>
   intro h
   simp only [List.map_cons, List.nodup_cons] at h ⊢
   exact ⟨fun hm => h.1 (List.mem_map.2 ⟨a, hm, rfl⟩), ih h.2⟩
 exact hp _ h3
theorem MapIs.find (hkk : ∀ x, IsKey d (kk x)) (inj : ∀ x y, kk x = kk y → x = y) {es : Array MapEntry} (hk : ∀ x ∈ es.toList, IsKey d x.key)
  (hL : es.toList.map (fun e => (e.key, e.val)) = L.map (fun p => (kk p.1, f p.2))) (k : κ) :
  (Instr.findNow d (kk k) es.toList 0 = some none ∧ (∀ x ∈ es.toList, x.key ≠ kk k) ∧ ∀ p ∈ L, p.1 ≠ k) ∨
  ∃ j e b, Instr.findNow d (kk k) es.toList 0 = some (some (j, f b)) ∧ es[j]? = some e ∧ e.key = kk k ∧ e.val = f b ∧ L[j]? = some (k, b) := by
 rcases findNow_spec (hkk k) es.toList 0 hk with ⟨h1, h2⟩ | ⟨j, e, h1, h2, h3⟩
 ·refine .inl ⟨h1, h2, fun p hp he => ?_⟩
  have hm : (kk p.1, f p.2) ∈ es.toList.map (fun e => (e.key, e.val)) := hL ▸ List.mem_map.2 ⟨p, hp, rfl⟩
  obtain ⟨x, hx, hxe⟩ := List.mem_map.1 hm
  simp only [Prod.mk.injEq] at hxe
  exact h2 x hx (by rw [hxe.1, he])
 ·have hg := congrArg (fun l => l[j]?) hL
  simp only [List.getElem?_map, h2, Option.map_some] at hg
  cases hl : L[j]? with
  | none => rw [hl] at hg; simp at hg
  | some p =>
   rw [hl] at hg
   simp only [Option.map_some, Option.some.injEq, Prod.mk.injEq] at hg
   have hp : p.1 = k := inj _ _ (hg.1.symm.trans h3)
   obtain ⟨a, b⟩ := p
   simp only at hp hg
   subst hp
   exact .inr ⟨j, e, b, by rw [h1, Nat.zero_add, hg.2], by simpa using h2, h3, hg.2, hl⟩
def outOf (z : Value) (f : β → Value) : Option β → Value
 | none => z
 | some b => f b
theorem MapIs.lookup (hkk : ∀ x, IsKey d (kk x)) (inj : ∀ x y, kk x = kk y → x = y) {mt kt et : TypeId} (hm : P.underlying mt = some (.map kt et)) (hd : P.underlying kt = some d) {z : Value} (hz : (zeroValue et).run P w = .ok z w)
  (h : MapIs w r d kk f L) (k : κ) (c : Bool) :
  (Instr.lookup mt (.map (some r)) (kk k) c).run P w = .ok (if c then .tuple #[outOf z f (alook L k), .bool (alook L k).isSome] else outOf z f (alook L k)) w := by
 have hn := h.nodup inj
 obtain ⟨es, clock, hb, hs, hk, hL⟩ := h
 rcases MapIs.find hkk inj hk hL k with ⟨h1, h2, h3⟩ | ⟨j, e, b, h1, h2, h3, h4, h5⟩
 ·rw [alook_none h3]
  cases c <;> simp [Instr.lookup, run_underlying hm, MapKept.run_getObj_map hb, run_checkKey hd (hkk k), run_findKey hd h1, hz, outOf, Result.andThen]
 ·rw [(assoc_at hn h5).1]
  cases c <;> simp [Instr.lookup, run_underlying hm, MapKept.run_getObj_map hb, run_checkKey hd (hkk k), run_findKey hd h1, outOf, Result.andThen]
theorem MapIs.update (hkk : ∀ x, IsKey d (kk x)) (inj : ∀ x y, kk x = kk y → x = y) {mt kt et : TypeId} (hm : P.underlying mt = some (.map kt et)) (hd : P.underlying kt = some d)
  (h : MapIs w r d kk f L) (k : κ) (v : β) :
  ∃ o, (Instr.mapUpdate mt (.map (some r)) (kk k) (f v)).run P w = .ok () (setBlock w r o) ∧ MapIs (setBlock w r o) r d kk f (aset L k v) := by
 have hn := h.nodup inj
 obtain ⟨es, clock, hb, hs, hk, hL⟩ := h
 rcases MapIs.find hkk inj hk hL k with ⟨h1, h2, h3⟩ | ⟨j, e, b, h1, h2, h3, h4, h5⟩
 ·refine ⟨.map (es.push { key := kk k, val := f v, born := clock }) (clock + 1), ?_, ?_⟩
  ·simp [Instr.mapUpdate, run_underlying hm, MapKept.run_getObj_map hb, run_checkKey hd (hkk k), run_findKey hd h1, run_setObj_map _ hb, Result.andThen, setBlock]
  ·rw [aset_new h3]
   refine ⟨_, _, (heap_set hb).1, stamped_push hs h2, ?_, ?_⟩
   ·intro x hx
    simp only [Array.toList_push, List.mem_append, List.mem_singleton] at hx
    rcases hx with hx | rfl
    ·exact hk x hx
    ·exact hkk k
   ·simp [hL]
 ·refine ⟨.map (es.modify j fun e => { e with key := kk k, val := f v }) clock, ?_, ?_⟩
  ·simp [Instr.mapUpdate, run_underlying hm, MapKept.run_getObj_map hb, run_checkKey hd (hkk k), run_findKey hd h1, h2, h3, run_keyThatStays (hkk k), run_setObj_map _ hb, Result.andThen, setBlock]
  ·have hkey : ∀ e', es[j]? = some e' → ({ e' with key := kk k, val := f v } : MapEntry).key = e'.key := fun e' he' => by rw [h2] at he'; cases he'; exact h3.symm
   refine ⟨_, _, (heap_set hb).1, stamped_modify hs _ _ (fun _ _ => rfl) (fun e' _ he' => hkey e' he'), isKey_modify hk _ _ hkey, ?_⟩
   rw [(assoc_at hn h5).2.1 v]
   apply List.ext_getElem?
   intro i
   have hi := congrArg (fun l => l[i]?) hL
   simp only [List.getElem?_map, Array.getElem?_toList] at hi
   simp only [List.getElem?_map, Array.getElem?_toList, Array.getElem?_modify, List.getElem?_set]
   by_cases hij : j = i
   ·subst hij
    have hlt : j < L.length := (List.getElem?_eq_some_iff.1 h5).1
    simp [h2, hlt]
   ·simp [hij, hi]
theorem MapIs.clear {mt kt et : TypeId} (hm : P.underlying mt = some (.map kt et)) (h : MapIs w r d kk f L) (ty : TypeId) :
  ∃ o, (Builtin.clear_ #[mt] ty #[.map (some r)]).run P w = .ok (.tuple #[]) (setBlock w r o) ∧ MapIs (setBlock w r o) r d kk f ([] : List (κ × β)) := by
 obtain ⟨es, clock, hb, hs, hk, hL⟩ := h
 refine ⟨.map #[] clock, ?_, ?_⟩
 ·simp [Builtin.clear_, run_underlying hm, MapKept.run_getObj_map hb, run_setObj_map _ hb, Result.andThen, setBlock]
 ·exact ⟨_, _, (heap_set hb).1, stamped_empty _, by simp, by simp⟩
theorem MapIs.len {mt kt et : TypeId} (hm : P.underlying mt = some (.map kt et)) (h : MapIs w r d kk f L) (ty : TypeId) :
  (Builtin.len_ #[mt] ty #[.map (some r)]).run P w = .ok (.int .i64 L.length) w := by
 obtain ⟨es, clock, hb, hs, hk, hL⟩ := h
 have e : es.size = L.length := by
  have := congrArg List.length hL
  simpa using this
 simp [Builtin.len_, run_underlying hm, MapKept.run_getObj_map hb, Result.andThen, e, goInt]
end
section
variable {κ β : Type} [DecidableEq κ] {P : Program} (w : World) {ops : Array Oper} {rest : List Oper} {o : Oper} {a : Act} {Q : Exit → Act → World → Prop}
variable {r : Nat} {d : TypeDesc} {kk : κ → Value} {f : β → Value} {L : List (κ × β)}
structure Turned (r : Nat) (w w1 : World) : Prop where
 cell : ∀ c j, c ≠ r → w1.cell? ⟨c, j, none⟩ = w.cell? ⟨c, j, none⟩
 frozen : ∀ c j, c ≠ r → w1.frozen? ⟨c, j, none⟩ = w.frozen? ⟨c, j, none⟩
 size : w1.heap.size = w.heap.size
 block : ∀ c, c ≠ r → w1.heap[c]? = w.heap[c]?
 os : w1.os = w.os
 tape : w1.tape = w.tape
 output : w1.output = w.output
theorem Turned.mk' {w : World} (r : Nat) (o : Obj) : Turned r w (setBlock w r o) := by
 have hb : ∀ c, c ≠ r → (setBlock w r o).heap[c]? = w.heap[c]? := fun c hc => by
  show (w.heap.setIfInBounds r o)[c]? = _
  rw [Array.getElem?_setIfInBounds_ne (Ne.symm hc)]
 exact ⟨fun c j hc => World.cell?_of_block (hb c hc), fun c j hc => World.frozen?_of_block (hb c hc), by show (w.heap.setIfInBounds r o).size = _; rw [Array.size_setIfInBounds], hb, rfl, rfl, rfl⟩
end
def IterIs (w : World) (it r : Nat) (es : Array MapEntry) (clock : Nat) (rem : List MapEntry) : Prop :=
 ∃ seen, w.heap[it]? = some (.mapIter (some r) clock seen clock) ∧ w.heap[r]? = some (.map es clock) ∧ Stamped es clock ∧ rem = es.toList.filter (fun e => !seen.contains e.born)
theorem IterIs.start {w : World} {r : Nat} {es : Array MapEntry} {clock : Nat} (hb : w.heap[r]? = some (.map es clock)) (hs : Stamped es clock) :
  IterIs (w.alloc (.mapIter (some r) clock #[] clock)) w.heap.size r es clock es.toList := by
 have hnil : es.toList = es.toList.filter (fun e => !(#[] : Array Nat).contains e.born) := (List.filter_eq_self.2 (by simp)).symm
 have hlt : r < w.heap.size := (Array.getElem?_eq_some_iff.1 hb).1
 exact ⟨#[], (heap_alloc w _).1, ((heap_alloc w _).2 r hlt).trans hb, hs, hnil⟩
theorem IterIs.next {P : Program} {w : World} {it r : Nat} {es : Array MapEntry} {clock : Nat} {rem : List MapEntry} (h : IterIs w it r es clock rem) (ty : TypeId) :
  (rem = [] ∧ (Instr.next (.pointer (some ⟨it, 0, none⟩)) false ty).run P w = .ok (.tuple #[.bool false]) w) ∨
  ∃ e w3, e ∈ rem ∧ (Instr.next (.pointer (some ⟨it, 0, none⟩)) false ty).run P w = .ok (.tuple #[.bool true, e.key, e.val]) w3 ∧
   (Instr.entry (.pointer (some ⟨it, 0, none⟩))).run P w3 = .ok (.tuple #[e.key, e.val]) w3 ∧
   IterIs w3 it r es clock (rem.filter (fun x => x.born != e.born)) ∧ Turned it w w3 := by
 obtain ⟨seen, h1, h2, h3, h4⟩ := h
 have hl : (leftOf es seen).toList = rem := by rw [h4]; unfold leftOf; rw [Array.toList_filter]
 rcases run_next_at (P := P) w ty it r clock clock seen es clock h1 h2 h3.1 (Nat.le_refl _) with ⟨h5, h6⟩ | ⟨e, he, w1, hw1, hrun⟩
 ·refine .inl ⟨?_, h6⟩
  rw [← hl]
  exact List.eq_nil_of_length_eq_zero (by simpa using h5)
 ·rw [hl] at he
  have hne : r ≠ it := by rintro rfl; rw [h1] at h2; simp at h2
  have i1 : w1.heap[it]? = some (.mapIter (some r) clock seen clock) := by rcases hw1 with rfl | rfl <;> exact h1
  have i2 : w1.heap[r]? = some (.map es clock) := by rcases hw1 with rfl | rfl <;> exact h2
  have j1 : (setBlock w1 it (.mapIter (some r) clock (seen.push e.born) clock)).heap[it]? = some (.mapIter (some r) clock (seen.push e.born) clock) := (heap_set i1).1
  have j2 : (setBlock w1 it (.mapIter (some r) clock (seen.push e.born) clock)).heap[r]? = some (.map es clock) := ((heap_set i1).2 r hne).trans i2
  have hmem : e ∈ es.toList := by rw [h4] at he; exact (List.mem_filter.1 he).1
  refine .inr ⟨e, _, he, hrun, run_entry_at _ it r clock seen es clock e j1 j2 hmem h3.2.1, ⟨seen.push e.born, j1, j2, h3, ?_⟩, ?_⟩
  ·rw [h4, List.filter_filter]
   apply List.filter_congr
   intro x hx
   simp only [Array.contains_push, Bool.not_or]
   cases h : (x.born == e.born) <;> simp [bne, h]
  ·have ht := Turned.mk' (w := w1) it (.mapIter (some r) clock (seen.push e.born) clock)
   rcases hw1 with rfl | rfl
   ·exact ht
   ·exact ⟨ht.cell, ht.frozen, ht.size, ht.block, ht.os, ht.tape, ht.output⟩
end Go.Proofs.YtpabdmcbahmjnaaGreat
namespace Go.Proofs.YtpabdmcbahmjnaaGreat
open Go.ChangeMaps (setBlock)
open Go.RowKit Go.MapKept
set_option linter.unusedSimpArgs false
set_option linter.unusedVariables false
structure Only (S : Nat → Prop) (w w' : World) : Prop where
 os : w'.os = w.os
 tape : w'.tape = w.tape
 output : w'.output = w.output
 size : w.heap.size ≤ w'.heap.size
 block : ∀ k, k < w.heap.size → ¬ S k → w'.heap[k]? = w.heap[k]?
theorem Only.refl (S : Nat → Prop) (w : World) : Only S w w := ⟨rfl, rfl, rfl, Nat.le_refl _, fun _ _ _ => rfl⟩
theorem Only.trans {S T : Nat → Prop} {a b c : World} (h : Only S a b) (k : Only T b c) (hs : ∀ i, T i → S i ∨ a.heap.size ≤ i) : Only S a c :=
 ⟨k.os.trans h.os, k.tape.trans h.tape, k.output.trans h.output, Nat.le_trans h.size k.size, fun i hi hn =>
  (k.block i (Nat.lt_of_lt_of_le hi h.size) (fun ht => (hs i ht).elim hn (fun hh => absurd hi (by omega)))).trans (h.block i hi hn)⟩
theorem Only.mono {S T : Nat → Prop} {a b : World} (h : Only S a b) (hs : ∀ i, S i → T i) : Only T a b :=
 ⟨h.os, h.tape, h.output, h.size, fun i hi hn => h.block i hi fun hh => hn (hs i hh)⟩
theorem Only.drew {S : Nat → Prop} {a b : World} (h : Only S a b) : Only S a b.drew := ⟨h.os, h.tape, h.output, h.size, h.block⟩
theorem Only.drewN {S : Nat → Prop} {a b : World} (h : Only S a b) (n : Nat) : Only S a (b.drewN n) := ⟨h.os, h.tape, h.output, h.size, h.block⟩
theorem Only.alloc {S : Nat → Prop} {a b : World} (h : Only S a b) (o : Obj) : Only S a (b.alloc o) :=
 ⟨h.os, h.tape, h.output, by show a.heap.size ≤ (b.heap.push o).size; rw [Array.size_push]; have := h.size; omega, fun i hi hn =>
  (Below.heap_alloc b o i (Nat.lt_of_lt_of_le hi h.size)).trans (h.block i hi hn)⟩
theorem Only.setCell {S : Nat → Prop} {a b : World} (h : Only S a b) {p : Addr} (hp : S p.block ∨ a.heap.size ≤ p.block) (u : Value) : Only S a (b.setCell p u) :=
 ⟨h.os, h.tape, h.output, by show a.heap.size ≤ (b.heap.modify _ _).size; rw [Array.size_modify]; exact h.size, fun i hi hn =>
  (Below.heap_setCell b p u i (fun e => by subst e; rcases hp with hp | hp; exact hn hp; omega)).trans (h.block i hi hn)⟩
theorem Only.setBlock {S : Nat → Prop} {a b : World} (h : Only S a b) {r : Nat} (hp : S r ∨ a.heap.size ≤ r) (o : Obj) : Only S a (setBlock b r o) :=
 ⟨h.os, h.tape, h.output, by show a.heap.size ≤ (b.heap.setIfInBounds r o).size; rw [Array.size_setIfInBounds]; exact h.size, fun i hi hn => by
  have hne : r ≠ i := fun e => by subst e; rcases hp with hp | hp; exact hn hp; omega
  show (b.heap.setIfInBounds r o)[i]? = _
  rw [Array.getElem?_setIfInBounds_ne hne]
  exact h.block i hi hn⟩
theorem Only.of_below {S : Nat → Prop} {a b : World} (h : Below a.heap.size a b) : Only S a b := ⟨h.os, h.tape, h.output, h.size, fun i hi _ => h.block i hi⟩
theorem Only.below {S : Nat → Prop} {a b : World} (h : Only S a b) {B : Nat} (hB : B ≤ a.heap.size) (hs : ∀ i, S i → B ≤ i) : Below B a b :=
 ⟨h.os, h.tape, h.output, h.size, fun i hi => h.block i (by omega) fun hh => by have := hs i hh; omega⟩
theorem MapIs.alloc {κ β : Type} [DecidableEq κ] {w : World} {r : Nat} {d : TypeDesc} {kk : κ → Value} {f : β → Value} {L : List (κ × β)} (h : MapIs w r d kk f L) (o : Obj) : MapIs (w.alloc o) r d kk f L := h.of_block (Below.heap_alloc w o r h.lt)
theorem MapIs.drew {κ β : Type} [DecidableEq κ] {w : World} {r : Nat} {d : TypeDesc} {kk : κ → Value} {f : β → Value} {L : List (κ × β)} (h : MapIs w r d kk f L) : MapIs w.drew r d kk f L := h
theorem MapIs.setCell {κ β : Type} [DecidableEq κ] {w : World} {r : Nat} {d : TypeDesc} {kk : κ → Value} {f : β → Value} {L : List (κ × β)} (h : MapIs w r d kk f L) {p : Addr} (hp : r ≠ p.block) (u : Value) : MapIs (w.setCell p u) r d kk f L := h.of_block (Below.heap_setCell w p u r hp)
theorem MapIs.setAt {κ β : Type} [DecidableEq κ] {w : World} {r : Nat} {d : TypeDesc} {kk : κ → Value} {f : β → Value} {L : List (κ × β)} (h : MapIs w r d kk f L) {b j : Nat} (hp : r ≠ b) (u : Value) : MapIs (w.setCell ⟨b, j, none⟩ u) r d kk f L := h.setCell hp u
theorem Only.setAt {S : Nat → Prop} {a c : World} (h : Only S a c) {b j : Nat} (hp : a.heap.size ≤ b) (u : Value) : Only S a (c.setCell ⟨b, j, none⟩ u) := h.setCell (Or.inr hp) u
theorem Only.setOwn {S : Nat → Prop} {a c : World} (h : Only S a c) {b j : Nat} (hp : S b) (u : Value) : Only S a (c.setCell ⟨b, j, none⟩ u) := h.setCell (Or.inl hp) u
structure MapD where
 ref : Nat
 vals : List (ByteArray × Int)
 ro : Bool
structure IterD where
 thread : Int
 number : Int
 pos : Int
structure FamD where
 mask : Int
 maps : List (Int × MapD)
 iters : List (Int × IterD)
structure OpD where
 kind : Int
 handle : Int
 key : ByteArray
 value : Int
 expect : Int
structure ResD where
 err : Int := 0
 found : Bool := false
 value : Int := 0
 key : ByteArray := ⟨#[]⟩
 count : Int := 0
def OpD.val (o : OpD) : Value := .agg #[.int .i64 o.kind, .int .i64 o.handle, .string o.key, .int .u64 o.value, .int .u64 o.expect]
def ResD.cells (r : ResD) : Array Value := #[.int .i64 r.err, .bool r.found, .int .u64 r.value, .string r.key, .int .i64 r.count, .int .i64 0, .int .i64 0, .bool false]
def numberOf (t i : Int) : Int := if t < 0 ∨ 8 ≤ t ∨ i < 0 ∨ 16 ≤ i then -1 else 1 + t * 16 + i
def FamD.own (F : FamD) (bf bm bi : Nat) (k : Nat) : Prop := k = bf ∨ k = bm ∨ k = bi ∨ ∃ p ∈ F.maps, p.2.ref = k
def unfitK (kind : Int) (key : ByteArray) (ro : Bool) : Int :=
 if kind ≤ 7 ∧ ¬ (key.size : Int) ≤ 64 then 1
 else if kind == 1 || (kind == 2 || (kind == 3 || (kind == 4 || (kind == 5 || (kind == 6 || kind == 10))))) then (if ro then 6 else 0)
 else if kind == 11 || kind == 12 then (if ro then 0 else 7)
 else 0
def permK (kind expect : Int) (f : Option Int) : Bool :=
 if kind == 2 then !f.isSome else if kind == 3 then f.isSome else if kind == 4 then f.isSome && f.getD 0 == expect else true
def setV (L : List (ByteArray × Int)) (o : OpD) : List (ByteArray × Int) :=
 if permK o.kind o.expect (alook L o.key) then aset L o.key o.value else L
def setR (L : List (ByteArray × Int)) (o : OpD) : ResD :=
 { found := (alook L o.key).isSome, value := (alook L o.key).getD 0, count := if permK o.kind o.expect (alook L o.key) then 1 else 0 }
def dropK (kind expect : Int) (f : Option Int) : Bool := f.isSome && (kind == 5 || f.getD 0 == expect)
def removeV (L : List (ByteArray × Int)) (o : OpD) : List (ByteArray × Int) :=
 if dropK o.kind o.expect (alook L o.key) then adel L o.key else L
def removeR (L : List (ByteArray × Int)) (o : OpD) : ResD :=
 { found := (alook L o.key).isSome, value := (alook L o.key).getD 0, count := if dropK o.kind o.expect (alook L o.key) then 1 else 0 }
end Go.Proofs.YtpabdmcbahmjnaaGreat
namespace Go.Proofs.YtpabdmcbahmjnaaGreat
open Go.RowKit Go.MapKept
set_option linter.unusedSimpArgs false
set_option linter.unusedVariables false
theorem blk_cell {w : World} {g : Nat} {t : TypeId} {cs : Array Value} (h : w.heap[g]? = some (.cells cs t (0, 0))) (i : Nat) : w.cell? ⟨g, i, none⟩ = cs[i]? := by
 unfold World.cell?
 rw [h]
 simp
theorem alook_mem {κ β : Type} [DecidableEq κ] {L : List (κ × β)} {k : κ} {v : β} (h : alook L k = some v) : (k, v) ∈ L := by
 induction L with
 | nil => simp [alook] at h
 | cons p r ih =>
  obtain ⟨a, b⟩ := p
  simp only [alook] at h
  by_cases ha : a = k
  ·rw [if_pos ha] at h
   simp only [Option.some.injEq] at h
   subst ha h
   exact .head _
  ·rw [if_neg ha] at h
   exact .tail _ (ih h)
theorem aset_mem {κ β : Type} [DecidableEq κ] {L : List (κ × β)} {n : κ} {d : β} {p : κ × β} (h : p ∈ aset L n d) : p = (n, d) ∨ (p ∈ L ) := by
 induction L with
 | nil => simp [aset] at h; exact Or.inl h
 | cons q r ih =>
  obtain ⟨a, b⟩ := q
  by_cases ha : a = n
  ·simp [aset, ha] at h
   rcases h with h | h
   ·exact Or.inl h
   ·exact Or.inr (.tail _ h)
  ·simp [aset, ha] at h
   rcases h with h | h
   ·exact Or.inr (h ▸ .head _)
   ·rcases ih h with h | h
    ·exact Or.inl h
    ·exact Or.inr (.tail _ h)
def ltP (m : Int) (x y : ByteArray × Int) : Bool := lessB (hashM x.1.data.toList m) x.1.toList (hashM y.1.data.toList m) y.1.toList
def sortedOf (m : Int) (L : List (ByteArray × Int)) : List (ByteArray × Int) := L.mergeSort (fun a b => !ltP m b a)
structure AMap where
 vals : List (ByteArray × Int)
 ro : Bool
structure AFam where
 mask : Int
 maps : List (Int × AMap)
 iters : List (Int × IterD)
theorem alook_aset_self {κ β : Type} [DecidableEq κ] (L : List (κ × β)) (k : κ) (v : β) : alook (aset L k v) k = some v := by
 induction L with
 | nil => simp [aset, alook]
 | cons p r ih =>
  obtain ⟨a, b⟩ := p
  by_cases h : a = k
  ·simp [aset, alook, h]
  ·simp [aset, alook, h, ih]
theorem alook_aset_ne {κ β : Type} [DecidableEq κ] (L : List (κ × β)) (k q : κ) (v : β) (hq : q ≠ k) : alook (aset L k v) q = alook L q := by
 induction L with
 | nil => simp [aset, alook, Ne.symm hq]
 | cons p r ih =>
  obtain ⟨a, b⟩ := p
  by_cases h : a = k
  ·subst h
   simp [aset, alook, Ne.symm hq]
  ·simp [aset, alook, h, ih]
theorem adel_mem {κ β : Type} [DecidableEq κ] {L : List (κ × β)} {n : κ} {p : κ × β} (h : p ∈ adel L n) : p ∈ L := by
 induction L with
 | nil => simp [adel] at h
 | cons q r ih =>
  obtain ⟨a, b⟩ := q
  by_cases ha : a = n
  ·simp [adel, ha] at h
   exact .tail _ h
  ·simp [adel, ha] at h
   rcases h with h | h
   ·exact h ▸ .head _
   ·exact .tail _ (ih h)
theorem aset_len {κ β : Type} [DecidableEq κ] (L : List (κ × β)) (n : κ) (d : β) : (aset L n d).length ≤ L.length + 1 := by
 induction L with
 | nil => simp [aset]
 | cons q r ih =>
  obtain ⟨a, b⟩ := q
  by_cases ha : a = n
  ·simp [aset, ha]
  ·simp [aset, ha]; omega
theorem adel_len {κ β : Type} [DecidableEq κ] (L : List (κ × β)) (n : κ) : (adel L n).length ≤ L.length := by
 induction L with
 | nil => simp [adel]
 | cons q r ih =>
  obtain ⟨a, b⟩ := q
  by_cases ha : a = n
  ·simp [adel, ha]
  ·simp [adel, ha]; omega
theorem aset_isSome {κ β : Type} [DecidableEq κ] (L : List (κ × β)) (n k : κ) (d : β) (h : (alook L k).isSome = true) : (alook (aset L n d) k).isSome = true := by
 by_cases hk : k = n
 ·subst hk; rw [alook_aset_self]; rfl
 ·rw [alook_aset_ne _ _ _ _ hk]; exact h
def unfitA (A : AFam) (o : OpD) : Int :=
 match alook A.maps o.handle with
 | none => 5
 | some d => unfitK o.kind o.key d.ro
def takenA (A : AFam) (n : Int) : Bool := (alook A.maps n).isSome || (alook A.iters n).isSome
def lostA (A : AFam) (t : Int) (h : Int) : Bool :=
 match alook A.iters h with
 | none => true
 | some it => it.thread != t
def refusalA (A : AFam) (t i : Int) (o : OpD) : Int :=
 if numberOf t i < 0 ∨ o.kind < 1 ∨ 13 < o.kind then 1
 else if o.kind == 13 then (if lostA A t o.handle then 5 else if takenA A (numberOf t i) then 8 else 0)
 else if unfitA A o != 0 then unfitA A o
 else if takenA A (numberOf t i) then 8 else 0
def nextA (A : AFam) (n : Int) : AFam × ResD :=
 match alook A.iters n with
 | none => (A, {})
 | some it =>
  match alook A.maps it.number with
  | none => (A, {})
  | some d =>
   if (d.vals.length : Int) ≤ it.pos then (A, {})
   else ({ A with iters := aset A.iters n { it with pos := it.pos + 1 } }, { found := true, key := ((sortedOf A.mask d.vals)[it.pos.toNat]?.getD (⟨#[]⟩, 0)).1, value := ((sortedOf A.mask d.vals)[it.pos.toNat]?.getD (⟨#[]⟩, 0)).2 })
def doA (A : AFam) (t i : Int) (o : OpD) (d : AMap) : AFam × ResD :=
 if o.kind ≤ 4 then ({ A with maps := aset A.maps o.handle ⟨setV d.vals o, d.ro⟩ }, setR d.vals o)
 else if o.kind ≤ 6 then ({ A with maps := aset A.maps o.handle ⟨removeV d.vals o, d.ro⟩ }, removeR d.vals o)
 else if o.kind = 7 then (A, { found := (alook d.vals o.key).isSome, value := (alook d.vals o.key).getD 0 })
 else if o.kind ≤ 9 then ({ A with maps := aset A.maps (numberOf t i) ⟨d.vals, o.kind == 9⟩ }, { found := true })
 else if o.kind = 10 then ({ A with maps := aset A.maps o.handle ⟨[], d.ro⟩ }, { found := true })
 else if o.kind = 11 then (A, { count := d.vals.length })
 else ({ A with iters := aset A.iters (numberOf t i) ⟨t, o.handle, 0⟩ }, { found := true })
def applyA (A : AFam) (t i : Int) (o : OpD) : AFam × ResD :=
 if refusalA A t i o ≠ 0 then (A, { err := refusalA A t i o })
 else if o.kind = 13 then nextA A o.handle
 else
  match alook A.maps o.handle with
  | none => (A, {})
  | some d => doA A t i o d
theorem applyA_err {A : AFam} {t i : Int} {o : OpD} (h : refusalA A t i o ≠ 0) : applyA A t i o = (A, { err := refusalA A t i o }) := if_pos h
theorem applyA_do {A : AFam} {t i : Int} {o : OpD} {d : AMap} (h : refusalA A t i o = 0) (hk : o.kind ≠ 13) (hd : alook A.maps o.handle = some d) : applyA A t i o = doA A t i o d := by
 unfold applyA
 rw [if_neg (by rw [h]; simp), if_neg hk, hd]
theorem applyA_next {A : AFam} {t i : Int} {o : OpD} (h : refusalA A t i o = 0) (hk : o.kind = 13) : applyA A t i o = nextA A o.handle := by
 unfold applyA
 rw [if_neg (by rw [h]; simp), if_pos hk]
theorem refusal_none {A : AFam} {t i : Int} {o : OpD} (h : refusalA A t i o = 0) :
  0 ≤ numberOf t i ∧ 1 ≤ o.kind ∧ o.kind ≤ 13 ∧ takenA A (numberOf t i) = false ∧ (o.kind = 13 → ∃ it, alook A.iters o.handle = some it ∧ it.thread = t) ∧
  (o.kind ≠ 13 → ∃ d, alook A.maps o.handle = some d ∧ unfitK o.kind o.key d.ro = 0) := by
 unfold refusalA at h
 by_cases h1 : numberOf t i < 0 ∨ o.kind < 1 ∨ 13 < o.kind
 ·rw [if_pos h1] at h; exact absurd h (by decide)
 rw [if_neg h1] at h
 refine ⟨by omega, by omega, by omega, ?_⟩
 by_cases hk : o.kind = 13
 ·have hb : (o.kind == 13) = true := by simp [hk]
  rw [if_pos hb] at h
  cases hl : lostA A t o.handle with
  | true => rw [hl] at h; simp at h
  | false =>
   rw [hl] at h
   cases ht : takenA A (numberOf t i) with
   | true => rw [ht] at h; simp at h
   | false =>
    refine ⟨rfl, fun _ => ?_, fun hh => absurd hk hh⟩
    unfold lostA at hl
    cases hi : alook A.iters o.handle with
    | none => rw [hi] at hl; simp at hl
    | some it => rw [hi] at hl; exact ⟨it, rfl, by simpa using hl⟩
 ·have hb : ¬ (o.kind == 13) = true := by simp [hk]
  rw [if_neg hb] at h
  by_cases hu : unfitA A o = 0
  ·rw [if_neg (by simp [hu])] at h
   cases ht : takenA A (numberOf t i) with
   | true => rw [ht] at h; simp at h
   | false =>
    refine ⟨rfl, fun hh => absurd hh hk, fun _ => ?_⟩
    unfold unfitA at hu
    cases hd : alook A.maps o.handle with
    | none => rw [hd] at hu; simp at hu
    | some d => rw [hd] at hu; exact ⟨d, rfl, hu⟩
  ·rw [if_pos (by simp [hu])] at h
   exact absurd h hu
theorem unfitK_key {kind : Int} {key : ByteArray} {ro : Bool} (h : unfitK kind key ro = 0) (hk : kind ≤ 7) : key.size ≤ 64 := by
 unfold unfitK at h
 by_cases hc : kind ≤ 7 ∧ ¬ (key.size : Int) ≤ 64
 ·rw [if_pos hc] at h; exact absurd h (by decide)
 ·omega
structure OkA (N : Nat) (A : AFam) : Prop where
 m0 : 0 ≤ A.mask
 m1 : A.mask ≤ 18446744073709551615
 keys : ∀ p ∈ A.maps, ∀ q ∈ p.2.vals, q.1.size ≤ 64
 lens : ∀ p ∈ A.maps, p.2.vals.length ≤ N
 poss : ∀ p ∈ A.iters, 0 ≤ p.2.pos ∧ p.2.pos ≤ N
 nums : ∀ p ∈ A.iters, (alook A.maps p.2.number).isSome = true
 count : A.maps.length ≤ N
theorem OkA.more {N M : Nat} {A : AFam} (h : OkA N A) (hm : N ≤ M) : OkA M A :=
 ⟨h.m0, h.m1, h.keys, fun p hp => Nat.le_trans (h.lens p hp) hm, fun p hp => ⟨(h.poss p hp).1, by have := (h.poss p hp).2; omega⟩, h.nums, Nat.le_trans h.count hm⟩
theorem OkA.set_maps {N : Nat} {A : AFam} (h : OkA N A) (n : Int) (d : AMap) (hk : ∀ q ∈ d.vals, q.1.size ≤ 64) (hl : d.vals.length ≤ N + 1) : OkA (N + 1) { A with maps := aset A.maps n d } := by
 refine ⟨h.m0, h.m1, fun p hp => ?_, fun p hp => ?_, fun p hp => ?_, fun p hp => aset_isSome _ _ _ _ (h.nums p hp), ?_⟩
 ·rcases aset_mem hp with rfl | hp
  ·exact hk
  ·exact h.keys p hp
 ·rcases aset_mem hp with rfl | hp
  ·exact hl
  ·exact Nat.le_trans (h.lens p hp) (by omega)
 ·exact ⟨(h.poss p hp).1, by have := (h.poss p hp).2; omega⟩
 ·have := aset_len A.maps n d
  have := h.count
  show (aset A.maps n d).length ≤ N + 1
  omega
theorem OkA.set_iters {N : Nat} {A : AFam} (h : OkA N A) (n : Int) (it : IterD) (h0 : 0 ≤ it.pos) (h1 : it.pos ≤ N + 1) (hn : (alook A.maps it.number).isSome = true) : OkA (N + 1) { A with iters := aset A.iters n it } := by
 refine ⟨h.m0, h.m1, h.keys, fun p hp => Nat.le_trans (h.lens p hp) (by omega), fun p hp => ?_, fun p hp => ?_, Nat.le_trans h.count (by omega)⟩
 ·rcases aset_mem hp with rfl | hp
  ·exact ⟨h0, by show it.pos ≤ ((N + 1 : Nat) : Int); omega⟩
  ·exact ⟨(h.poss p hp).1, by have := (h.poss p hp).2; omega⟩
 ·rcases aset_mem hp with rfl | hp
  ·exact hn
  ·exact h.nums p hp
theorem OkA.apply {N : Nat} {A : AFam} (h : OkA N A) (t i : Int) (o : OpD) : OkA (N + 1) (applyA A t i o).1 := by
 by_cases hz : refusalA A t i o = 0
 ·obtain ⟨_, k1, k2, ht, h13, hd⟩ := refusal_none hz
  by_cases hk : o.kind = 13
  ·obtain ⟨it, hi, _⟩ := h13 hk
   rw [applyA_next hz hk]
   have hp := h.poss _ (alook_mem hi)
   have hn := h.nums _ (alook_mem hi)
   unfold nextA
   rw [hi]
   simp only at hp hn ⊢
   cases hm : alook A.maps it.number with
   | none => exact h.more (by omega)
   | some d =>
    simp only
    by_cases hc : (d.vals.length : Int) ≤ it.pos
    ·rw [if_pos hc]; exact h.more (by omega)
    ·rw [if_neg hc]
     exact h.set_iters _ _ (by show 0 ≤ it.pos + 1; omega) (by show it.pos + 1 ≤ (N : Int) + 1; omega) (by show (alook A.maps it.number).isSome = true; rw [hm]; rfl)
  ·obtain ⟨d, hd, hu⟩ := hd hk
   rw [applyA_do hz hk hd]
   have hkeys := h.keys _ (alook_mem hd)
   have hlen := h.lens _ (alook_mem hd)
   simp only at hkeys hlen
   unfold doA
   by_cases c4 : o.kind ≤ 4
   ·rw [if_pos c4]
    have h64 := unfitK_key hu (by omega)
    refine h.set_maps _ _ (fun q hq => ?_) ?_
    ·simp only [setV] at hq
     split at hq
     ·rcases aset_mem hq with rfl | hq
      ·exact h64
      ·exact hkeys q hq
     ·exact hkeys q hq
    ·simp only [setV]
     split
     ·have := aset_len d.vals o.key o.value; omega
     ·omega
   rw [if_neg c4]
   by_cases c6 : o.kind ≤ 6
   ·rw [if_pos c6]
    refine h.set_maps _ _ (fun q hq => ?_) ?_
    ·simp only [removeV] at hq
     split at hq
     ·exact hkeys q (adel_mem hq)
     ·exact hkeys q hq
    ·simp only [removeV]
     split
     ·have := adel_len d.vals o.key; omega
     ·omega
   rw [if_neg c6]
   by_cases c7 : o.kind = 7
   ·rw [if_pos c7]; exact h.more (by omega)
   rw [if_neg c7]
   by_cases c9 : o.kind ≤ 9
   ·rw [if_pos c9]; exact h.set_maps _ _ hkeys (by simp only; omega)
   rw [if_neg c9]
   by_cases c10 : o.kind = 10
   ·rw [if_pos c10]; exact h.set_maps _ _ (by simp) (by simp)
   rw [if_neg c10]
   by_cases c11 : o.kind = 11
   ·rw [if_pos c11]; exact h.more (by omega)
   rw [if_neg c11]
   exact h.set_iters _ _ (by simp) (by simp only; omega) (by simp only; rw [hd]; rfl)
 ·rw [applyA_err hz]; exact h.more (by omega)
end Go.Proofs.YtpabdmcbahmjnaaGreat
namespace Go.Proofs.YtpabdmcbahmjnaaGreat
set_option linter.unusedSimpArgs false
set_option linter.unusedVariables false
structure ResF where
 err : Int
 found : Bool
 value : Int
 key : ByteArray
 count : Int
 ref : Int
 root : Int
 ro : Bool
 deriving DecidableEq
def ResF.zero : ResF := ⟨0, false, 0, ⟨#[]⟩, 0, 0, 0, false⟩
structure EvD where
 thread : Int
 index : Int
 ret : Bool
 res : ResF
abbrev OpP := Int × Int
def EvD.op (e : EvD) : OpP := (e.thread, e.index)
def cntT (l : List EvD) (i : Nat) (t : Int) : Nat := ((l.take i).filter (fun e => e.thread == t)).length
structure EvOk (ops : List Nat) (l : List EvD) (i : Nat) (e : EvD) : Prop where
 t0 : 0 ≤ e.thread
 t1 : e.thread < ops.length
 idx : e.index = (cntT l i e.thread / 2 : Nat)
 lim : ∀ n, ops[e.thread.toNat]? = some n → cntT l i e.thread / 2 < n
 ret : e.ret = (cntT l i e.thread % 2 == 1)
 res : e.ret = false → e.res = ResF.zero
def ProperP (ops : List Nat) (l : List EvD) : Prop := ∀ i e, l[i]? = some e → EvOk ops l i e
theorem cntT_succ {l : List EvD} {i : Nat} {e : EvD} (h : l[i]? = some e) (t : Int) : cntT l (i + 1) t = cntT l i t + (if e.thread = t then 1 else 0) := by
 unfold cntT
 have hi := (List.getElem?_eq_some_iff.1 h).1
 rw [List.take_add_one, h]
 simp only [Option.toList_some, List.filter_append, List.length_append]
 by_cases ht : e.thread = t
 ·simp [ht]
 ·simp [ht]
theorem cntT_mono {l : List EvD} {i j : Nat} (h : i ≤ j) (t : Int) : cntT l i t ≤ cntT l j t := by
 unfold cntT
 have : (l.take i).Sublist (l.take j) := (List.take_prefix_take_left h).sublist
 exact (this.filter _).length_le
theorem ProperP.uniq {ops : List Nat} {l : List EvD} (hp : ProperP ops l) {i j : Nat} {e f : EvD} (hi : l[i]? = some e) (hj : l[j]? = some f) (ho : e.op = f.op) (hr : e.ret = f.ret) : i = j := by
 have key : ∀ {i j : Nat} {e f : EvD}, l[i]? = some e → l[j]? = some f → e.op = f.op → e.ret = f.ret → ¬ i < j := by
  intro i j e f hi hj ho hr hlt
  have a := hp i e hi
  have b := hp j f hj
  have ht : e.thread = f.thread := congrArg Prod.fst ho
  have hx : e.index = f.index := congrArg Prod.snd ho
  have c1 := cntT_succ hi e.thread
  rw [if_pos rfl] at c1
  have c2 := cntT_mono (l := l) (show i + 1 ≤ j from hlt) e.thread
  have i1 := a.idx
  have i2 := b.idx
  rw [← ht] at i2
  have r1 := a.ret
  have r2 := b.ret
  rw [← ht] at r2
  have hm : (cntT l i e.thread % 2 == 1) = (cntT l j e.thread % 2 == 1) := by rw [← r1, ← r2, hr]
  have hd : cntT l i e.thread / 2 = cntT l j e.thread / 2 := by omega
  have hm2 : (cntT l i e.thread % 2 = 1) ↔ (cntT l j e.thread % 2 = 1) := by
   have := congrArg (· = true) hm
   simpa using this
  omega
 exact Nat.le_antisymm (Nat.le_of_not_lt (key hj hi ho.symm hr.symm)) (Nat.le_of_not_lt (key hi hj ho hr))
def whenP (l : List EvD) (a : OpP) (back : Bool) : Int :=
 match l.findIdx? (fun e => e.thread == a.1 && e.index == a.2 && e.ret == back) with
 | some i => i
 | none => -1
end Go.Proofs.YtpabdmcbahmjnaaGreat
