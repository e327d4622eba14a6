/- Part of a proof: RPut RCont REq RSet RKeyed RRefu RApA. -/
import Derived.Test.YtpabdmcbahmjnaaGreatMA2
import Derived.Laws.AppendOwnNone
import Derived.Deep.CutBlock
import Derived.Deep.DeepCutAuto
import Derived.RegionTactic
import Derived.Deep.RegionHeld3
import Derived.Deep.Quiet
namespace Go.Proofs.YtpabdmcbahmjnaaGreat
open Go Go.RowKit Go.MapKept
set_option linter.unusedSimpArgs false
set_option linter.unusedVariables false
theorem wpList_appv {ops : Array Oper} {rest : List Oper} {o : Oper} {a : Act} {Q : Exit → Act → World → Prop} (T e : TypeId) (hT : Tryz.prog.underlying T = some (.slice e)) (z : Value) (sz by8 : Nat) (hinfo : (Tryz.prog.info? e).map (fun i => (i.zero, i.size, i.bytes)) = some (some z, sz, by8)) (hz : z.cells.size = sz) (h0 : 0 < sz)
  (hgd : o.guard = none) (s x : Operand) (ho : o.op = .call { callee := .builtin .append, args := #[s, x], argTypes := #[T, T] })
  (B : Nat) (w : World) (v : Value) (n : Nat) (xs : List Value) (hs : a.eval s = v) (hown : w.ownsRow B e sz v n xs) (A : Option Addr) (m c : Nat) (ys : List Value) (hx : a.eval x = .slice A m c) (hA : A = none → m = 0 ∧ c = 0) (hl : ys.length = m * sz)
  (hc : ∀ ad, A = some ad → ∀ j u, ys[j]? = some u → w.cell? (ad.add j) = some u) (h1 : ∀ u ∈ ys, u.oneCell' = true) (hB : B ≤ w.heap.size) (hm : n + m ≤ maxLen) (hlen : (n + m) * by8 ≤ 140737488355328)
  (h : ∀ v' w', w'.ownsRow B e sz v' (n + m) (xs ++ ys) → w.grownBy w' v.ownBlock → wpList Tryz.prog ops Q rest (a.put o.dst v') w') : wpList Tryz.prog ops Q (o :: rest) a w := by
 cases A with
 | some ad => exact wpList_app T e hT z sz by8 hinfo hz h0 hgd s x ho B w v n xs hs hown ad m c ys hx hl (hc ad rfl) h1 hB hm hlen fun a' c' w' h2 h3 => h _ w' h2 h3
 | none =>
  obtain ⟨rfl, rfl⟩ := hA rfl
  obtain ⟨i0, hi, _⟩ := info_parts3 hinfo
  refine wpList_append_own_none hgd s x T ho B e i0 sz hT hi v n xs hs hown hx ?_
  have hy : ys = [] := List.length_eq_zero_iff.1 (by rw [hl]; omega)
  subst hy
  exact h v w (by simpa using hown) ⟨rfl, rfl, rfl, Nat.le_refl _, fun _ _ _ => rfl⟩
theorem row_cases {w : World} {B sz n c : Nat} {e : TypeId} {A : Option Addr} {xs : List Value} (h : w.ownsRow B e sz (.slice A n c) n xs) : (A = none ∧ n = 0 ∧ c = 0) ∨ ∃ g, A = some ⟨g, 0, none⟩ ∧ n ≤ c := by
 rcases h.2 with ⟨h1, h2⟩ | ⟨g, cap, cur, hv, _, _, hn, _⟩
 ·simp only [Value.slice.injEq] at h1
  exact Or.inl h1
 ·simp only [Value.slice.injEq, true_and] at hv
  obtain ⟨rfl, rfl⟩ := hv
  exact Or.inr ⟨g, rfl, hn⟩
theorem one_cells (w : World) (x : ByteArray × Int) : ∀ j u, (prC x)[j]? = some u → (w.alloc (.cells #[.string x.1, .int .u64 x.2] 139)).cell? ((⟨w.heap.size, 0, none⟩ : Addr).add j) = some u := by
 have := prC_cells [x] (w.alloc (.cells #[.string x.1, .int .u64 x.2] 139)) w.heap.size 0 (fun i y hy => by
  have hi : i = 0 := by
   have := (List.getElem?_eq_some_iff.1 hy).1
   simpa using this
  subst hi
  obtain rfl : x = y := by simpa using hy
  exact ⟨blk_cell (heap_alloc w _).1 0, blk_cell (heap_alloc w _).1 1⟩)
 simpa using this
theorem one_one (x : ByteArray × Int) : ∀ u ∈ prC x, u.oneCell' = true := by
 have := prC_one [x]
 simpa using this
theorem src_take {w w' : World} {B g n c : Nat} {R : PL} (h : w.ownsRow B 139 2 (.slice (some ⟨g, 0, none⟩) n c) n (R.flatMap prC)) (j : Nat) (hk : w'.heap[g]? = w.heap[g]?) :
  ∀ ad, (some (⟨g, 0, none⟩ : Addr)) = some ad → ∀ i u, ((R.take j).flatMap prC)[i]? = some u → w'.cell? (ad.add i) = some u := by
 intro ad had i u hu
 obtain rfl := Option.some.inj had
 have hk' : w'.heap[((⟨g, 0, none⟩ : Addr).add i).block]? = w.heap[((⟨g, 0, none⟩ : Addr).add i).block]? := by rw [raddr]; exact hk
 refine (World.cell?_of_block hk').trans (h.cells (g := g) rfl i u ?_)
 have e : R.flatMap prC = (R.take j).flatMap prC ++ (R.drop j).flatMap prC := by rw [← List.flatMap_append, List.take_append_drop]
 rw [e, List.getElem?_append_left (List.getElem?_eq_some_iff.1 hu).1]
 exact hu
theorem rgrown_below {w w' : World} {row : Option Nat} {B : Nat} (hg : w.grownBy w' row) (hB : B ≤ w.heap.size) (hr : ∀ k, row = some k → B ≤ k) : Below B w w' :=
 ⟨hg.os, hg.tape, hg.output, hg.size, fun k hk => hg.block k (by omega) (fun e => by have := hr k e.symm; omega)⟩
structure RowOf (T : Nat → Prop) (w : World) (cs : List Value) (ms : List RMap) : Prop where
 len : cs.length = ms.length * 3
 one : ∀ u ∈ cs, u.oneCell' = true
 each : ∀ i d, ms[i]? = some d → ∃ u c, cs[i * 3]? = some (.int .i64 d.num) ∧ cs[i * 3 + 1]? = some (.bool d.ro) ∧ cs[i * 3 + 2]? = some (.slice u d.pairs.length c) ∧ PrAt T w u d.pairs
theorem rblk_frozen {w : World} {g : Nat} {t : TypeId} {cs : Array Value} (h : w.heap[g]? = some (.cells cs t (0, 0))) (i : Nat) : w.frozen? ⟨g, i, none⟩ = false := by
 simp [World.frozen?, h]
structure KeyAt (w : World) (n q : Nat) (o0 o1 o5 : Obj) (W : World) : Prop where
 below : Below w.heap.size w W
 size : n ≤ W.heap.size
 q4 : q = w.heap.size + 1 + 1 + 1 + 1
 q5 : q < n
 b0 : W.heap[w.heap.size]? = some o0
 b1 : W.heap[w.heap.size + 1]? = some o1
 b5 : W.heap[q]? = some o5
section
variable {P : Program} {ops : Array Oper} {C : World → Prop} {Q : Act → Prop} {a : Act} {o : Oper} {rest : List Oper}
theorem wp_region_class {id : Nat} {Q : Exit → Act → World → Prop} {a : Act} {w : World} {l : List Oper} (hm : P.follows .mixedOrders = true) (hB : Region.lexB .any l.toArray = true) (hC : C w.drew)
  (h : wpQuiet P l.toArray C (fun a' => ∀ w', C w' → Q .normal a' w') l a) : (Code.region id l.toArray true).wp P Q a w :=
 wp_region_quiet (C := C) hm hB hC (by simpa using h)
theorem wpQuiet_take {v : Value} (hw : Region.wanted o (yielded ops a.tmps) = true) (hy : ∀ w, C w → o.quietAt P a C w v) (h : wpQuiet P ops C Q rest (a.put o.dst v)) : wpQuiet P ops C Q (o :: rest) a :=
 wpQuiet_step fun K hK => by rw [if_pos hw]; exact ⟨v, hy, hK _ h⟩
end
theorem op_cells {W : World} {k : Nat} {u0 u1 u2 u3 u4 : Value} {T : TypeId} (h : W.heap[k]? = some (.cells #[u0, u1, u2, u3, u4] T (0, 0))) : W.cell? ⟨k, 0, none⟩ = some u0 ∧ W.cell? ⟨k, 1, none⟩ = some u1 ∧ W.cell? ⟨k, 2, none⟩ = some u2 ∧ W.cell? ⟨k, 3, none⟩ = some u3 ∧ W.cell? ⟨k, 4, none⟩ = some u4 := ⟨blk_cell h 0, blk_cell h 1, blk_cell h 2, blk_cell h 3, blk_cell h 4⟩
theorem res_cells {W : World} {k : Nat} {u0 u1 u2 u3 u4 u5 u6 u7 : Value} {T : TypeId} (h : W.heap[k]? = some (.cells #[u0, u1, u2, u3, u4, u5, u6, u7] T (0, 0))) : W.cell? ⟨k, 0, none⟩ = some u0 ∧ W.cell? ⟨k, 1, none⟩ = some u1 ∧ W.cell? ⟨k, 2, none⟩ = some u2 ∧ W.cell? ⟨k, 3, none⟩ = some u3 ∧ W.cell? ⟨k, 4, none⟩ = some u4 ∧ W.cell? ⟨k, 5, none⟩ = some u5 ∧ W.cell? ⟨k, 6, none⟩ = some u6 ∧ W.cell? ⟨k, 7, none⟩ = some u7 := ⟨blk_cell h 0, blk_cell h 1, blk_cell h 2, blk_cell h 3, blk_cell h 4, blk_cell h 5, blk_cell h 6, blk_cell h 7⟩
theorem res_free {W : World} {k : Nat} {u0 u1 u2 u3 u4 u5 u6 u7 : Value} {T : TypeId} (h : W.heap[k]? = some (.cells #[u0, u1, u2, u3, u4, u5, u6, u7] T (0, 0))) : W.frozen? ⟨k, 0, none⟩ = false ∧ W.frozen? ⟨k, 1, none⟩ = false ∧ W.frozen? ⟨k, 2, none⟩ = false ∧ W.frozen? ⟨k, 3, none⟩ = false ∧ W.frozen? ⟨k, 4, none⟩ = false ∧ W.frozen? ⟨k, 5, none⟩ = false ∧ W.frozen? ⟨k, 6, none⟩ = false ∧ W.frozen? ⟨k, 7, none⟩ = false := ⟨rblk_frozen h 0, rblk_frozen h 1, rblk_frozen h 2, rblk_frozen h 3, rblk_frozen h 4, rblk_frozen h 5, rblk_frozen h 6, rblk_frozen h 7⟩
end Go.Proofs.YtpabdmcbahmjnaaGreat
