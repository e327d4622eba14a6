/- Part of a proof: RefP RefQ RefR RefS HashR RMem RFind RRow. -/
import Derived.Test.YtpabdmcbahmjnaaGreatMA1
import Derived.Test.YtpabdmcbahmjnaaGreatProg
import Derived.WalkKit
import Derived.WalkLawsBesides
import Derived.WalkSpells
import Derived.Outline
import Derived.Lib.Hide
import Derived.Deep.QuietTactic
import Derived.BigQuiet
namespace Go.Proofs.YtpabdmcbahmjnaaGreat
open Go.RowKit Go.MapKept
set_option linter.unusedSimpArgs false
set_option linter.unusedVariables false
abbrev PL := List (ByteArray × Int)
structure RMap where
 num : Int
 ro : Bool
 pairs : PL
structure RFam where
 mask : Int
 maps : List RMap
 walks : List (Int × IterD)
def putK (o : OpD) (f : Option Int) : Bool := o.kind == 1 || (o.kind == 2 && !f.isSome) || (o.kind == 3 && f.isSome) || (o.kind == 4 && f.isSome && f.getD 0 == o.expect)
structure NdA (A : AFam) : Prop where
 maps : (A.maps.map (·.1)).Nodup
 iters : (A.iters.map (·.1)).Nodup
 vals : ∀ p ∈ A.maps, (p.2.vals.map (·.1)).Nodup
structure PosA (A : AFam) : Prop where
 maps : ∀ p ∈ A.maps, 0 ≤ p.1
end Go.Proofs.YtpabdmcbahmjnaaGreat
namespace Go.Proofs.YtpabdmcbahmjnaaGreat
open Go Go.RowKit Go.MapKept
set_option linter.unusedSimpArgs false
set_option linter.unusedVariables false
def PrAt (T : Nat → Prop) (w : World) (A : Option Addr) (l : PL) : Prop :=
 0 < l.length → ∃ b, A = some ⟨b, 0, none⟩ ∧ T b ∧ b < w.heap.size ∧ ∀ j x, l[j]? = some x → w.cell? ⟨b, j * 2, none⟩ = some (.string x.1) ∧ w.cell? ⟨b, j * 2 + 1, none⟩ = some (.int .u64 x.2)
def MapsAt (T : Nat → Prop) (w : World) (A : Option Addr) (ms : List RMap) : Prop :=
 0 < ms.length → ∃ b, A = some ⟨b, 0, none⟩ ∧ T b ∧ b < w.heap.size ∧ ∀ i d, ms[i]? = some d → ∃ u c, w.cell? ⟨b, i * 3, none⟩ = some (.int .i64 d.num) ∧ w.cell? ⟨b, i * 3 + 1, none⟩ = some (.bool d.ro) ∧ w.cell? ⟨b, i * 3 + 2, none⟩ = some (.slice u d.pairs.length c) ∧ PrAt T w u d.pairs
def WlkAt (T : Nat → Prop) (w : World) (A : Option Addr) (ws : List (Int × IterD)) : Prop :=
 0 < ws.length → ∃ b, A = some ⟨b, 0, none⟩ ∧ T b ∧ b < w.heap.size ∧ ∀ i d, ws[i]? = some d → w.cell? ⟨b, i * 4, none⟩ = some (.int .i64 d.1) ∧ w.cell? ⟨b, i * 4 + 1, none⟩ = some (.int .i64 d.2.thread) ∧ w.cell? ⟨b, i * 4 + 2, none⟩ = some (.int .i64 d.2.number) ∧ w.cell? ⟨b, i * 4 + 3, none⟩ = some (.int .i64 d.2.pos)
structure RFit (g : RFam) : Prop where
 m0 : 0 ≤ g.mask
 m1 : g.mask ≤ 18446744073709551615
 lm : g.maps.length ≤ 1048576
 lw : g.walks.length ≤ 1048576
 lp : ∀ d ∈ g.maps, d.pairs.length ≤ 1048576
 keys : ∀ d ∈ g.maps, ∀ x ∈ d.pairs, x.1.size ≤ 64
 pos : ∀ p ∈ g.walks, 0 ≤ p.2.pos ∧ p.2.pos ≤ 1048576
structure RFamAt (T : Nat → Prop) (w : World) (A D : Option Addr) (g : RFam) : Prop where
 maps : MapsAt T w A g.maps
 walks : WlkAt T w D g.walks
 fit : RFit g
structure Kept (T : Nat → Prop) (w w' : World) : Prop where
 size : w.heap.size ≤ w'.heap.size
 block : ∀ b, T b → b < w.heap.size → w'.heap[b]? = w.heap[b]?
theorem info_parts3 {e : TypeId} {z : Value} {sz by8 : Nat} (h : (Tryz.prog.info? e).map (fun i => (i.zero, i.size, i.bytes)) = some (some z, sz, by8)) : ∃ i, Tryz.prog.info? e = some i ∧ i.zero = some z ∧ i.size = sz ∧ i.bytes = by8 := by
 obtain ⟨i, hi, e⟩ := Option.map_eq_some_iff.1 h
 simp only [Prod.mk.injEq] at e
 exact ⟨i, hi, e.1, e.2.1, e.2.2⟩
theorem row_form {w : World} {B size n : Nat} {e : TypeId} {v : Value} {xs : List Value} (h : w.ownsRow B e size v n xs) : ∃ a cap, v = .slice a n cap := by
 rcases h.2 with ⟨rfl, h0⟩ | ⟨g, cap, cur, rfl, _⟩
 ·exact ⟨none, 0, by rw [h0]⟩
 ·exact ⟨_, cap, rfl⟩
theorem row_kind {w : World} {B size n : Nat} {e : TypeId} {v : Value} {xs : List Value} (h : w.ownsRow B e size v n xs) {g : Nat} (hg : v.ownBlock = some g) : B ≤ g ∧ ∃ cur, w.heap[g]? = some (.cells cur e (0, 0)) := by
 rcases h.2 with ⟨h0, _⟩ | ⟨k, cap, cur, hv, hb, hk, _⟩
 ·rw [h0] at hg; simp [Value.ownBlock] at hg
 ·rw [hv] at hg
  simp only [Value.ownBlock, Option.some.injEq] at hg
  subst hg
  exact ⟨hb, cur, hk⟩
theorem row_lt {w : World} {B size n : Nat} {e : TypeId} {v : Value} {xs : List Value} (h : w.ownsRow B e size v n xs) {g : Nat} (hg : v.ownBlock = some g) : g < w.heap.size := by
 obtain ⟨_, cur, hc⟩ := row_kind h hg
 exact (Array.getElem?_eq_some_iff.1 hc).1
theorem row_some {w : World} {B size n : Nat} {e : TypeId} {v : Value} {xs : List Value} (h : w.ownsRow B e size v n xs) (hn : 0 < n) : ∃ g cap, v = .slice (some ⟨g, 0, none⟩) n cap := by
 rcases h.2 with ⟨rfl, h0⟩ | ⟨g, cap, cur, rfl, _⟩
 ·omega
 ·exact ⟨g, cap, rfl⟩
theorem grown_block {w w' : World} {o : Obj} {row : Option Nat} (hg : (w.alloc o).grownBy w' row) {k : Nat} (hk : k < w.heap.size) (hr : row ≠ some k) : w'.heap[k]? = w.heap[k]? := by
 rw [hg.block k (by simp; omega) (fun e => hr e.symm), Below.heap_alloc _ _ _ hk]
theorem grown_below {w w' : World} {o : Obj} {row : Option Nat} {B : Nat} (hg : (w.alloc o).grownBy w' row) (hB : B ≤ w.heap.size) (hr : ∀ k, row = some k → B ≤ k) : Below B w w' :=
 ((Below.refl _ _).alloc hB o).grown hg (by simp; omega) hr
theorem row_le {w : World} {b b' size n : Nat} {e : TypeId} {v : Value} {xs : List Value} (h : w.ownsRow b e size v n xs) (hb : b' ≤ b) : w.ownsRow b' e size v n xs :=
 ⟨h.1, h.2.elim Or.inl (fun ⟨g, cap, cur, hv, hg, r⟩ => Or.inr ⟨g, cap, cur, hv, Nat.le_trans hb hg, r⟩)⟩
theorem raddr (g n : Nat) : ((⟨g, 0, none⟩ : Addr).add n) = ⟨g, n, none⟩ := by
 unfold Addr.add
 split
 ·subst n; rfl
 ·simp
def StopAt (p : Prop) : Prop := p
theorem stopAt {p : Prop} (h : StopAt p) : p := h
theorem wpList_app {ops : Array Oper} {rest : List Oper} {o : Oper} {a : Act} {Q : Exit → Act → World → Prop} (T e : TypeId) (hT : Tryz.prog.underlying T = some (.slice e)) (z : Value) (sz by8 : Nat) (hinfo : (Tryz.prog.info? e).map (fun i => (i.zero, i.size, i.bytes)) = some (some z, sz, by8)) (hz : z.cells.size = sz) (h0 : 0 < sz)
  (hgd : o.guard = none) (s x : Operand) (ho : o.op = .call { callee := .builtin .append, args := #[s, x], argTypes := #[T, T] })
  (B : Nat) (w : World) (v : Value) (n : Nat) (xs : List Value) (hs : a.eval s = v) (hown : w.ownsRow B e sz v n xs) (ad : Addr) (m c : Nat) (ys : List Value) (hx : a.eval x = .slice (some ad) m c) (hl : ys.length = m * sz)
  (hc : ∀ j u, ys[j]? = some u → w.cell? (ad.add j) = some u) (h1 : ∀ u ∈ ys, u.oneCell' = true) (hB : B ≤ w.heap.size) (hm : n + m ≤ maxLen) (hlen : (n + m) * by8 ≤ 140737488355328)
  (h : ∀ a' cap' w', w'.ownsRow B e sz (.slice a' (n + m) cap') (n + m) (xs ++ ys) → w.grownBy w' v.ownBlock → wpList Tryz.prog ops Q rest (a.put o.dst (.slice a' (n + m) cap')) w') : wpList Tryz.prog ops Q (o :: rest) a w := by
 obtain ⟨i0, hi, hz0, hz1, hz2⟩ := info_parts3 hinfo
 refine wpList_append_own _ hgd s x T ho B e i0 z sz by8 hT hi hz0 hz1 hz2 hz h0 v n xs hs hown ad m c ys hx hl hc h1 hm hlen hB ?_
 intro v' w' ho' hg _
 obtain ⟨a', cap', rfl⟩ := row_form ho'
 exact h a' cap' w' ho' hg
def prC (x : ByteArray × Int) : List Value := [.string x.1, .int .u64 x.2]
theorem prC_len (l : PL) : (l.flatMap prC).length = l.length * 2 := by
 induction l with
 | nil => rfl
 | cons x r ih => simp [prC, ih]; omega
theorem prC_one (l : PL) : ∀ u ∈ l.flatMap prC, u.oneCell' = true := by
 intro u hu
 obtain ⟨x, _, hx⟩ := List.mem_flatMap.1 hu
 simp only [prC, List.mem_cons, List.not_mem_nil, or_false] at hx
 rcases hx with rfl | rfl <;> rfl
theorem prC_at (l : PL) (j : Nat) (x : ByteArray × Int) (hx : l[j]? = some x) : (l.flatMap prC)[j * 2]? = some (.string x.1) ∧ (l.flatMap prC)[j * 2 + 1]? = some (.int .u64 x.2) := by
 induction l generalizing j with
 | nil => simp at hx
 | cons y r ih =>
  cases j with
  | zero =>
   simp only [List.getElem?_cons_zero, Option.some.injEq] at hx
   subst hx
   simp [prC]
  | succ j =>
   have := ih j (by simpa using hx)
   rw [List.flatMap_cons]
   have e : (prC y).length = 2 := rfl
   rw [List.getElem?_append_right (by rw [e]; omega), List.getElem?_append_right (by rw [e]; omega), e, show (j + 1) * 2 - 2 = j * 2 by omega, show (j + 1) * 2 + 1 - 2 = j * 2 + 1 by omega]
   exact this
theorem prC_cells (l : PL) (w : World) (b off : Nat) (h : ∀ j x, l[j]? = some x → w.cell? ⟨b, off + j * 2, none⟩ = some (.string x.1) ∧ w.cell? ⟨b, off + j * 2 + 1, none⟩ = some (.int .u64 x.2)) :
  ∀ j u, (l.flatMap prC)[j]? = some u → w.cell? ((⟨b, off, none⟩ : Addr).add j) = some u := by
 intro j u hu
 have hj : j < l.length * 2 := by rw [← prC_len]; exact (List.getElem?_eq_some_iff.1 hu).1
 obtain ⟨x, hx⟩ : ∃ x, l[j / 2]? = some x := ⟨_, List.getElem?_eq_getElem (by omega)⟩
 have hp := prC_at l (j / 2) x hx
 have hc := h (j / 2) x hx
 have ea : ((⟨b, off, none⟩ : Addr).add j) = ⟨b, off + j, none⟩ := by simp [Addr.add]
 rw [ea]
 by_cases he : j % 2 = 0
 ·have e : j = j / 2 * 2 := by omega
  have e2 : w.cell? ⟨b, off + j, none⟩ = w.cell? ⟨b, off + j / 2 * 2, none⟩ := by rw [← e]
  rw [e2, hc.1]
  rw [show (l.flatMap prC)[j]? = (l.flatMap prC)[j / 2 * 2]? by rw [← e], hp.1] at hu
  exact hu
 ·have e : j = j / 2 * 2 + 1 := by omega
  have e2 : w.cell? ⟨b, off + j, none⟩ = w.cell? ⟨b, off + j / 2 * 2 + 1, none⟩ := by rw [show off + j / 2 * 2 + 1 = off + j by omega]
  rw [e2, hc.2]
  rw [show (l.flatMap prC)[j]? = (l.flatMap prC)[j / 2 * 2 + 1]? by rw [← e], hp.2] at hu
  exact hu
end Go.Proofs.YtpabdmcbahmjnaaGreat
