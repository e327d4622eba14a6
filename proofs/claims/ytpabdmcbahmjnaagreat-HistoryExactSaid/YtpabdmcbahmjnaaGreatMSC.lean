/- Part of a proof: SKeyP SKeyW SPar SMask SGrow SOpG SPick SArr SOp. -/
import Derived.Test.YtpabdmcbahmjnaaGreatMSB
import Derived.OneCell
import Derived.Deep.DeepAppendRoom
import Derived.ChangeKeysEq
import Derived.Deep.DeepCutAuto
namespace Go.Proofs.YtpabdmcbahmjnaaGreat.Sc
open Go Go.RowKit
set_option linter.unusedSimpArgs false
set_option linter.unusedVariables false
theorem row_keep {w w' : World} {B size n : Nat} {e : TypeId} {v : Value} {xs : List Value} (h : w.ownsRow B e size v n xs) (hk : ∀ g, v.ownBlock = some g → w'.heap[g]? = w.heap[g]?) : w'.ownsRow B e size v n xs := by
 refine ⟨h.1, ?_⟩
 rcases h.2 with h0 | ⟨g, cap, cur, hv, hb, hg, r⟩
 ·exact Or.inl h0
 ·refine Or.inr ⟨g, cap, cur, hv, hb, ?_, r⟩
  rw [hk g (by rw [hv]; rfl)]; exact hg
theorem row_kind {w : World} {B size n : Nat} {e : TypeId} {v : Value} {xs : List Value} (h : w.ownsRow B e size v n xs) {g : Nat} (hg : v.ownBlock = some g) : B ≤ g ∧ ∃ cur, w.heap[g]? = some (.cells cur e (0, 0)) := by
 rcases h.2 with ⟨h0, _⟩ | ⟨k, cap, cur, hv, hb, hk, _⟩
 ·rw [h0] at hg; simp [Value.ownBlock] at hg
 ·rw [hv] at hg
  simp only [Value.ownBlock, Option.some.injEq] at hg
  subst hg
  exact ⟨hb, cur, hk⟩
theorem row_lt {w : World} {B size n : Nat} {e : TypeId} {v : Value} {xs : List Value} (h : w.ownsRow B e size v n xs) {g : Nat} (hg : v.ownBlock = some g) : g < w.heap.size := by
 obtain ⟨_, cur, hc⟩ := row_kind h hg
 exact (Array.getElem?_eq_some_iff.1 hc).1
theorem row_ne {w : World} {B size n : Nat} {e : TypeId} {v : Value} {xs : List Value} (h : w.ownsRow B e size v n xs) {k : Nat} {cs : Array Value} {t : TypeId} {f : Nat × Nat} (hk : w.heap[k]? = some (.cells cs t f)) (ht : t ≠ e) : v.ownBlock ≠ some k := by
 intro hg
 obtain ⟨_, cur, hc⟩ := row_kind h hg
 rw [hk] at hc
 simp only [Option.some.injEq, Obj.cells.injEq] at hc
 exact ht hc.2.1
theorem row_row {w : World} {B size n B' size' n' : Nat} {e e' : TypeId} {v v' : Value} {xs xs' : List Value} (h : w.ownsRow B e size v n xs) (h' : w.ownsRow B' e' size' v' n' xs') (he : e ≠ e') {g : Nat} (hg : v.ownBlock = some g) : v'.ownBlock ≠ some g := by
 obtain ⟨_, cur, hc⟩ := row_kind h hg
 exact row_ne h' hc he
def opC (o : OpD) : List Value := [.int .i64 o.kind, .int .i64 o.handle, .string o.key, .int .u64 o.value, .int .u64 o.expect]
theorem heap_set {w : World} {k j : Nat} {cs : Array Value} {t : TypeId} {f : Nat × Nat} (h : w.heap[k]? = some (.cells cs t f)) (u : Value) : (w.setCell ⟨k, j, none⟩ u).heap[k]? = some (.cells (cs.setIfInBounds j u) t f) := by
 rw [setCell_eq_setRow w k j cs t f u h]
 exact setRow_heap w k _ _ t _ h
theorem blk_frozen {w : World} {g : Nat} {t : TypeId} {cs : Array Value} (h : w.heap[g]? = some (.cells cs t (0, 0))) (i : Nat) : w.frozen? ⟨g, i, none⟩ = false := by
 simp [World.frozen?, h]
theorem int_info : (Tryz.prog.info? 3).map (fun i => (i.zero, i.size, i.bytes)) = some (some (.int .i64 0), 1, 8) := by kernel_rfl
theorem ops_info : (Tryz.prog.info? 66).map (fun i => (i.zero, i.size, i.bytes)) = some (some (.slice none 0 0), 1, 24) := by kernel_rfl
theorem row_form {w : World} {B size n : Nat} {e : TypeId} {v : Value} {xs : List Value} (h : w.ownsRow B e size v n xs) : ∃ a cap, v = .slice a n cap := by
 rcases h.2 with ⟨rfl, h0⟩ | ⟨g, cap, cur, rfl, _⟩
 ·exact ⟨none, 0, by rw [h0]⟩
 ·exact ⟨_, cap, rfl⟩
theorem wpList_one_new {ops : Array Oper} {rest : List Oper} {o : Oper} {a : Act} {Q : Exit → Act → World → Prop} (T e : TypeId) (hT : Tryz.prog.underlying T = some (.slice e)) (z : Value) (by8 : Nat) (hinfo : (Tryz.prog.info? e).map (fun i => (i.zero, i.size, i.bytes)) = some (some z, 1, by8)) (hz : z.cells.size = 1)
  (hgd : o.guard = none) (s x : Operand) (ho : o.op = .call { callee := .builtin .append, args := #[s, x], argTypes := #[T, T] })
  (B : Nat) (w : World) (v : Value) (n : Nat) (xs : List Value) (hs : a.eval s = v) (hown : w.ownsRow B e 1 v n xs) (y : Value) (hy : y.oneCell' = true) (hx : a.eval x = .slice (some ⟨w.heap.size, 0, none⟩) 1 1) (hB : B ≤ w.heap.size) (hm : n + 1 ≤ maxLen) (hlen : (n + 1) * by8 ≤ 140737488355328)
  (h : ∀ a' cap' w', w'.ownsRow B e 1 (.slice a' (n + 1) cap') (n + 1) (xs ++ [y]) → (w.alloc (.cells #[y] e)).grownBy w' v.ownBlock → wpList Tryz.prog ops Q rest (a.put o.dst (.slice a' (n + 1) cap')) w') : wpList Tryz.prog ops Q (o :: rest) a (w.alloc (.cells #[y] e)) := by
 obtain ⟨i0, hi, hz0, hz1, hz2⟩ := info_parts hinfo
 refine wpList_append_own _ hgd s x T ho B e i0 z 1 by8 hT hi hz0 hz1 hz2 hz (by decide) v n xs hs (hown.alloc _) ⟨w.heap.size, 0, none⟩ 1 1 [y] hx rfl ?_ ?_ hm hlen (by simp; omega) ?_
 ·intro j u hj
  rw [addr_at, blk_cell (MapKept.heap_alloc w _).1]
  simpa using hj
 ·intro u hu
  simp only [List.mem_singleton] at hu
  subst hu
  exact hy
 ·intro v' w' ho' hg _
  obtain ⟨a', cap', rfl⟩ := row_form ho'
  exact h a' cap' w' ho' hg
theorem grown_block {w w' : World} {o : Obj} {row : Option Nat} (hg : (w.alloc o).grownBy w' row) {k : Nat} (hk : k < w.heap.size) (hr : row ≠ some k) : w'.heap[k]? = w.heap[k]? := by
 rw [hg.block k (by simp; omega) (fun e => hr e.symm), Below.heap_alloc _ _ _ hk]
theorem grown_size {w w' : World} {o : Obj} {row : Option Nat} (hg : (w.alloc o).grownBy w' row) : w.heap.size ≤ w'.heap.size := by
 have := hg.size
 simp at this
 omega
theorem grown_below {w w' : World} {o : Obj} {row : Option Nat} {B : Nat} (hg : (w.alloc o).grownBy w' row) (hB : B ≤ w.heap.size) (hr : ∀ k, row = some k → B ≤ k) : Below B w w' :=
 ((Below.refl _ _).alloc hB o).grown hg (by simp; omega) hr
theorem row_step {w w' : World} {o : Obj} {row : Option Nat} (hg : (w.alloc o).grownBy w' row) {B size n : Nat} {e : TypeId} {v : Value} {xs : List Value} (h : w.ownsRow B e size v n xs) (hr : ∀ g, v.ownBlock = some g → row ≠ some g) : w'.ownsRow B e size v n xs :=
 row_keep h (fun g hg' => grown_block hg (row_lt h hg') (hr g hg'))
theorem op_info : (Tryz.prog.info? 68).map (fun i => (i.zero, i.size, i.bytes)) = some (some (.agg #[.int .i64 0, .int .i64 0, .string ⟨#[]⟩, .int .u64 0, .int .u64 0]), 5, 48) := by kernel_rfl
theorem run_append_op (ty : TypeId) (B : Nat) (w : World) (u : Value) (n : Nat) (xs : List Value) (hown : w.ownsRow B 68 5 u n xs) (ad : Addr) (ys : List Value) (hy : ys.length = 5) (hc : ∀ j x, ys[j]? = some x → w.cell? (ad.add j) = some x) (h1 : ∀ x ∈ ys, x.oneCell' = true) (hB : B ≤ w.heap.size) (hn : n ≤ 1048576) :
  ∃ v' w', (Builtin.append_ #[66, 66] ty #[u, .slice (some ad) 1 1]).run Tryz.prog w = .ok v' w' ∧ w'.ownsRow B 68 5 v' (n + 1) (xs ++ ys) ∧ w.grownBy w' u.ownBlock ∧ (∀ b, v'.ownBlock = some b → u.ownBlock = some b ∨ w.heap.size ≤ b) := by
 obtain ⟨i0, hi, hz0, hz1, hz2⟩ := info_parts op_info
 obtain ⟨v', w', hr, ho, hg, _⟩ := run_append_own (P := Tryz.prog) w B 66 ty 68 i0 _ 5 48 Tryz.underlying66 hi hz0 hz1 hz2 rfl (by decide) u n xs hown ad 1 1 ys (by omega) hc h1 (by unfold maxLen; omega) (by omega) hB
 refine ⟨v', w', hr, ho, hg, ?_⟩
 rcases hown.2 with ⟨rfl, rfl⟩ | ⟨g, cap, cur, rfl, hBg, hgc, hnc, hcm, hcs, htk⟩
 ·have hx : xs = [] := List.eq_nil_of_length_eq_zero (by simpa using hown.1)
  subst hx
  obtain ⟨v2, w2, hr2, ho2, _, _⟩ := run_append_own (P := Tryz.prog) w w.heap.size 66 ty 68 i0 _ 5 48 Tryz.underlying66 hi hz0 hz1 hz2 rfl (by decide) (.slice none 0 0) 0 [] (World.ownsRow_nil w _ _ _) ad 1 1 ys (by omega) hc h1 (by unfold maxLen; omega) (by omega) (Nat.le_refl _)
  rw [hr] at hr2
  simp only [Result.ok.injEq] at hr2
  obtain ⟨rfl, rfl⟩ := hr2
  exact fun b hb => Or.inr (row_kind ho2 hb).1
 ·by_cases hroom : n + 1 ≤ cap
  ·obtain ⟨w2, hr2, _, _⟩ := run_append_own_spare (P := Tryz.prog) w B 66 ty 68 i0 5 Tryz.underlying66 hi hz1 g n cap xs hown ad 1 1 ys (by omega) hc h1 hroom
   rw [hr] at hr2
   simp only [Result.ok.injEq] at hr2
   obtain ⟨rfl, rfl⟩ := hr2
   intro b hb
   exact Or.inl hb
  ·obtain ⟨v2, w2, hr2, ho2, _⟩ := run_append_arg_grows (P := Tryz.prog) w 66 ty 68 i0 _ 5 48 Tryz.underlying66 hi hz0 hz1 hz2 rfl (by decide) ⟨g, 0, none⟩ n cap xs hown.1 (hown.cells (g := g) rfl) ad 1 1 ys (by omega) hc (by omega) (by unfold maxLen; omega) (by omega)
   rw [hr] at hr2
   simp only [Result.ok.injEq] at hr2
   obtain ⟨rfl, rfl⟩ := hr2
   exact fun b hb => Or.inr (row_kind ho2 hb).1
def opR (st : PS) (ws : List (List UInt8)) : Option PS := match readOp ws with
 | some o => if st.scr.threads = [] then none else some { st with scr := { st.scr with threads := addOp st.scr.threads o } }
 | none => none
end Go.Proofs.YtpabdmcbahmjnaaGreat.Sc
