/- A buffer of bytes that a call owns, carried from append to append; beside it every block that holds no bytes is kept. -/
import Derived.Test.YtnoeiaicligmiaaDoorSEqS
import Derived.Test.YtnoeiaicligmiaaDoorLaid
import Derived.Test.YtnoeiaicligmiaaDoorSNum
import Derived.OwnWalk
import Derived.Lib.AppendStr
import Derived.Lib.OthersKept
namespace Go.Proofs.YtnoeiaicligmiaaDoor
set_option linter.unusedVariables false
set_option linter.unusedSimpArgs false
open Go Go.RowKit
def tabName : String := "internal/strconv.uint64pow10"
def TabB (B : Nat) (w : World) : Prop := Lib.TabBelow Tryd.prog B w "internal/strconv.uint64pow10" .u64 Lib.pow10Tab
structure Buf (B : Nat) (w0 w : World) (v : Value) (l : List UInt8) : Prop where
  own : w.ownsRow B 5 1 v l.length (Lib.byteCells l)
  below : Below B w0 w
  kept : Lib.OthersKept 5 none w0 w
  size : B ≤ w.heap.size
theorem kept_grown {w w' : World} {B : Nat} {v : Value} {n : Nat} {xs : List Value} (ho : w.ownsRow B 5 1 v n xs) (hg : w.grownBy w' v.ownBlock) : Lib.OthersKept 5 none w w' := by
  intro k o hk _ hno
  have hlt : k < w.heap.size := (Array.getElem?_eq_some_iff.1 hk).1
  rw [hg.block k hlt ?_]
  · exact hk
  · intro he
    rcases ho.2 with ⟨h0, _⟩ | ⟨g, cap, cur, hv, _, hb, _⟩
    · rw [h0] at he; simp [Value.ownBlock] at he
    · rw [hv] at he
      simp [Value.ownBlock] at he
      subst he
      rw [hb] at hk
      simp only [Option.some.injEq] at hk
      exact hno _ _ hk.symm
theorem own_base {w : World} {B : Nat} {v : Value} {n : Nat} {xs : List Value} (ho : w.ownsRow B 5 1 v n xs) : ∀ k, v.ownBlock = some k → B ≤ k := by
  intro k he
  rcases ho.2 with ⟨h0, _⟩ | ⟨g, cap, cur, hv, hb, _⟩
  · rw [h0] at he; simp [Value.ownBlock] at he
  · rw [hv] at he
    simp [Value.ownBlock] at he
    omega
theorem Buf.alloc {B : Nat} {w0 w : World} {v : Value} {l : List UInt8} (h : Buf B w0 w v l) (o : Obj) : Buf B w0 (w.alloc o) v l :=
  ⟨h.own.alloc o, h.below.alloc h.size o, fun k x hk hn hx => by
    have := h.kept k x hk hn hx
    rw [Below.heap_alloc _ _ _ ((Array.getElem?_eq_some_iff.1 this).1)]
    exact this, by have := h.size; simp; omega⟩
theorem Buf.drew {B : Nat} {w0 w : World} {v : Value} {l : List UInt8} (h : Buf B w0 w v l) : Buf B w0 w.drew v l :=
  ⟨h.own, h.below.drew, h.kept, h.size⟩
theorem Buf.grown {B : Nat} {w0 w w' : World} {v v' : Value} {l l' : List UInt8} (h : Buf B w0 w v l) (ho : w'.ownsRow B 5 1 v' l'.length (Lib.byteCells l')) (hg : w.grownBy w' v.ownBlock) : Buf B w0 w' v' l' :=
  ⟨ho, h.below.grown hg h.size (own_base h.own), h.kept.trans (kept_grown h.own hg), Nat.le_trans h.size hg.size⟩
theorem Buf.block {B : Nat} {w0 w : World} {v : Value} {l : List UInt8} (h : Buf B w0 w v l) {k : Nat} {c : Array Value} {t : TypeId} {f : Nat × Nat} (hb : w0.heap[k]? = some (.cells c t f)) (ht : t ≠ 5) : w.heap[k]? = some (.cells c t f) :=
  h.kept k _ hb (by simp) (fun c' f' e => by simp only [Obj.cells.injEq] at e; exact ht e.2.1)
theorem byte_info : (Tryd.prog.info? 5).map (fun i => (i.zero, i.size, i.bytes)) = some (some (.int .u8 0), 1, 1) := by kernel_rfl
theorem addr_at (g n : Nat) : ((⟨g, 0, none⟩ : Addr).add n) = ⟨g, n, none⟩ := by
  unfold Addr.add
  split
  · subst n; rfl
  · simp
/-- new bytes, in a block of their own -/
theorem cells_new (w : World) (bs : List UInt8) (T : TypeId) : ∀ j u, (Lib.byteCells bs)[j]? = some u → (w.alloc (.cells (Lib.byteCells bs).toArray T)).cell? ((⟨w.heap.size, 0, none⟩ : Addr).add j) = some u := by
  intro j u h
  rw [addr_at, blk_cell (MapKept.heap_alloc w _).1]
  simpa using h
theorem bytes_one (bs : List UInt8) : ∀ u ∈ Lib.byteCells bs, u.oneCell' = true := by
  intro u hu
  obtain ⟨b, _, rfl⟩ := List.mem_map.1 hu
  rfl
section
variable {ops : Array Oper} {rest : List Oper} {o : Oper} {a : Act} {Q : Exit → Act → World → Prop}
theorem wpList_buf_new (hgd : o.guard = none) (s x : Operand) (ho : o.op = .call { callee := .builtin .append, args := #[s, x], argTypes := #[22, 22] })
    (B : Nat) (w0 w : World) (v : Value) (l : List UInt8) (hb : Buf B w0 w v l) (hs : a.eval s = v) (bs : List UInt8) (cs : Array Value) (hcs : cs = (Lib.byteCells bs).toArray) (m : Nat) (hm : bs.length = m)
    (hx : a.eval x = .slice (some ⟨w.heap.size, 0, none⟩) m m) (hlen : l.length + m ≤ 140737488355328)
    (h : ∀ v' w', Buf B w0 w' v' (l ++ bs) → wpList Tryd.prog ops Q rest (a.put o.dst v') w') : wpList Tryd.prog ops Q (o :: rest) a (w.alloc (.cells cs 5)) := by
  subst hcs
  subst hm
  obtain ⟨i0, hi, hz0, hz1, hz2⟩ := info_parts byte_info
  have hb' := hb.alloc (.cells (Lib.byteCells bs).toArray 5)
  refine wpList_append_own _ hgd s x 22 ho B 5 i0 (.int .u8 0) 1 1 Tryd.underlying22 hi hz0 hz1 hz2 rfl (by decide) v l.length (Lib.byteCells l) hs hb'.own ⟨w.heap.size, 0, none⟩ bs.length bs.length (Lib.byteCells bs) hx (by simp [Lib.byteCells]) (cells_new w bs _) (bytes_one bs) (by unfold maxLen; omega) (by omega) hb'.size ?_
  intro v' w' ho' hg _
  refine h v' w' (hb'.grown (l' := l ++ bs) ?_ hg)
  rw [Lib.byteCells_append, List.length_append]
  exact ho'
theorem wpList_buf_text (hgd : o.guard = none) (s x : Operand) (ho : o.op = .call { callee := .builtin .append, args := #[s, x], argTypes := #[22, 9] })
    (B : Nat) (w0 w : World) (v : Value) (l : List UInt8) (hb : Buf B w0 w v l) (hs : a.eval s = v) (t : ByteArray) (hx : a.eval x = .string t) (hlen : l.length + t.size ≤ 140737488355328)
    (h : ∀ v' w', Buf B w0 w' v' (l ++ t.data.toList) → wpList Tryd.prog ops Q rest (a.put o.dst v') w') : wpList Tryd.prog ops Q (o :: rest) a w := by
  obtain ⟨i0, hi, hz0, hz1, hz2⟩ := info_parts byte_info
  refine Lib.wpList_append_own_string w hgd s x 22 9 ho B 5 i0 Tryd.underlying22 Tryd.underlying9 hi hz0 hz1 hz2 v l.length (Lib.byteCells l) hs hb.own t hx (by unfold maxLen; omega) hlen hb.size ?_
  intro v' w' ho' hg _
  refine h v' w' (hb.grown (l' := l ++ t.data.toList) ?_ hg)
  rw [Lib.byteCells_append, List.length_append, ← Lib.size_eq]
  exact ho'
end
/-! ### numbers -/
theorem buf_int (B : Nat) (w0 w : World) (v : Value) (l : List UInt8) (h : Buf B w0 w v l) (tb : TabB B w0) (i : Int) (h0 : -9223372036854775808 ≤ i) (h1 : i ≤ 9223372036854775807) (hl : l.length + 21 ≤ 140737488355328) :
    Calls Tryd.prog 35 #[v, .int .i64 i, .int .i64 10] w fun e w' => ∃ v', e = .returned v' ∧ Buf B w0 w' v' (l ++ Lib.itoa i) := by
  refine (Tryd.strconv_AppendInt_10 B l.length i h0 h1 v (Lib.byteCells l) w h.own h.size hl (tb.on h.below)).mono fun e w' ⟨v', he, ho, hb, hk⟩ => ⟨v', he, ?_, h.below.trans hb, h.kept.trans hk, Nat.le_trans h.size hb.size⟩
  rw [Lib.byteCells_append, List.length_append]
  exact ho
theorem uint_any (B : Nat) (w0 w : World) (v : Value) (l : List UInt8) (h : Buf B w0 w v l) (tb : TabB B w0) (u : Int) (h0 : 0 ≤ u) (h1 : u ≤ 18446744073709551615) (hl : l.length + 20 ≤ 140737488355328) :
    Calls Tryd.prog 47 #[v, .int .u64 u, .int .i64 10] w fun e w' => ∃ v', e = .returned v' ∧ Buf B w0 w' v' (l ++ natT u) := by
  obtain ⟨n, rfl⟩ := Int.eq_ofNat_of_zero_le h0
  refine (Tryd.internal_strconv_AppendUint_10 B l.length n (by omega) v (Lib.byteCells l) w h.own h.size hl (tb.on h.below).here).mono fun e w' ⟨v', he, ho, hb, hk⟩ => ⟨v', he, ?_, h.below.trans hb, h.kept.trans hk, Nat.le_trans h.size hb.size⟩
  rw [Lib.byteCells_append, List.length_append]
  exact ho
theorem buf_uint (B : Nat) (w0 w : World) (v : Value) (l : List UInt8) (h : Buf B w0 w v l) (tb : TabB B w0) (u : Int) (h0 : 0 ≤ u) (h1 : u ≤ 18446744073709551615) (hl : l.length + 20 ≤ 140737488355328) :
    Calls Tryd.prog 33 #[v, .int .u64 u, .int .i64 10] w fun e w' => ∃ v', e = .returned v' ∧ Buf B w0 w' v' (l ++ natT u) := by
  have H := Lib.hid h
  have T := Lib.hid tb
  clear h tb
  go_enter Tryd.func33, Tryd.ntmps33
  go_wp2_with fail
  refine (uint_any B w0 w v l H.out T.out u h0 h1 hl).mono ?_
  rintro e w1 ⟨v', rfl, hb⟩
  have HB := Lib.hid hb
  clear hb
  go_wp2_with fail
  go_ret
  exact ⟨v', rfl, HB.out⟩
end Go.Proofs.YtnoeiaicligmiaaDoor
