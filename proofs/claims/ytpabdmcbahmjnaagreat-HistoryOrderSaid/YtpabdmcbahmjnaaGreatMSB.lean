/- Part of a proof: SBuf SApp SFmtP SFull SFmt SUns SSig SDig SNat SWho SRune. -/
import Derived.Lib.AppendIntMem
import Derived.Test.YtpabdmcbahmjnaaGreatMSA
import Derived.OwnWalk
import Derived.Lib.AppendStr
import Derived.Lib.OthersKept
import Derived.StillTailTactics
import Derived.Deep.RegionLaw
import Derived.Laws.IdiomStrings
import Derived.Lib.BufferRead
import Derived.Lib.SlBytesConst
import Derived.ArgAppend
import Derived.Lib.ItoaMem
import Derived.Lib.ItoaWalk
import Derived.BigCall
import Derived.BigGuard
import Derived.CellFam
import Derived.Lib.Walk
import Derived.Laws.RangeAny
import Derived.Laws.Runes
import Derived.Lib.Bytealg
import Derived.WalkMore
import Derived.IntWalk
namespace Go.Proofs.YtpabdmcbahmjnaaGreat.Sc
open Go Go.RowKit
set_option linter.unusedSimpArgs false
set_option linter.unusedVariables false
def TabB (B : Nat) (w : World) : Prop := Lib.TabBelow Tryz.prog B w "internal/strconv.uint64pow10" .u64 Lib.pow10Tab
structure Buf (B : Nat) (w0 w : World) (v : Value) (l : List UInt8) : Prop where
 own : w.ownsRow B 5 1 v l.length (Lib.byteCells l)
 below : Below B w0 w
 kept : Lib.OthersKept 5 none w0 w
 size : B ≤ w.heap.size
theorem kept_grown {w w' : World} {B : Nat} {v : Value} {n : Nat} {xs : List Value} (ho : w.ownsRow B 5 1 v n xs) (hg : w.grownBy w' v.ownBlock) : Lib.OthersKept 5 none w w' := by
 intro k o hk _ hno
 have hlt : k < w.heap.size := (Array.getElem?_eq_some_iff.1 hk).1
 rw [hg.block k hlt ?_]
 ·exact hk
 ·intro he
  rcases ho.2 with ⟨h0, _⟩ | ⟨g, cap, cur, hv, _, hb, _⟩
  ·rw [h0] at he; simp [Value.ownBlock] at he
  ·rw [hv] at he
   simp [Value.ownBlock] at he
   subst he
   rw [hb] at hk
   simp only [Option.some.injEq] at hk
   exact hno _ _ hk.symm
theorem own_base {w : World} {B : Nat} {v : Value} {n : Nat} {xs : List Value} (ho : w.ownsRow B 5 1 v n xs) : ∀ k, v.ownBlock = some k → B ≤ k := by
 intro k he
 rcases ho.2 with ⟨h0, _⟩ | ⟨g, cap, cur, hv, hb, _⟩
 ·rw [h0] at he; simp [Value.ownBlock] at he
 ·rw [hv] at he
  simp [Value.ownBlock] at he
  omega
theorem Buf.alloc {B : Nat} {w0 w : World} {v : Value} {l : List UInt8} (h : Buf B w0 w v l) (o : Obj) : Buf B w0 (w.alloc o) v l :=
 ⟨h.own.alloc o, h.below.alloc h.size o, fun k x hk hn hx => by
  have := h.kept k x hk hn hx
  rw [Below.heap_alloc _ _ _ ((Array.getElem?_eq_some_iff.1 this).1)]
  exact this, by have := h.size; simp; omega⟩
theorem Buf.drew {B : Nat} {w0 w : World} {v : Value} {l : List UInt8} (h : Buf B w0 w v l) : Buf B w0 w.drew v l :=
 ⟨h.own, h.below.drew, h.kept, h.size⟩
theorem Buf.grown {B : Nat} {w0 w w' : World} {v v' : Value} {l l' : List UInt8} (h : Buf B w0 w v l) (ho : w'.ownsRow B 5 1 v' l'.length (Lib.byteCells l')) (hg : w.grownBy w' v.ownBlock) : Buf B w0 w' v' l' :=
 ⟨ho, h.below.grown hg h.size (own_base h.own), h.kept.trans (kept_grown h.own hg), Nat.le_trans h.size hg.size⟩
theorem Buf.block {B : Nat} {w0 w : World} {v : Value} {l : List UInt8} (h : Buf B w0 w v l) {k : Nat} {c : Array Value} {t : TypeId} {f : Nat × Nat} (hb : w0.heap[k]? = some (.cells c t f)) (ht : t ≠ 5) : w.heap[k]? = some (.cells c t f) :=
 h.kept k _ hb (by simp) (fun c' f' e => by simp only [Obj.cells.injEq] at e; exact ht e.2.1)
theorem addr_at (g n : Nat) : ((⟨g, 0, none⟩ : Addr).add n) = ⟨g, n, none⟩ := by
 unfold Addr.add
 split
 ·subst n; rfl
 ·simp
section
variable {ops : Array Oper} {rest : List Oper} {o : Oper} {a : Act} {Q : Exit → Act → World → Prop}
end
def opV (o : OpD) : Value := .agg #[.int .i64 o.kind, .int .i64 o.handle, .string o.key, .int .u64 o.value, .int .u64 o.expect]
def opObj (o : OpD) : Obj := .cells #[.int .i64 o.kind, .int .i64 o.handle, .string o.key, .int .u64 o.value, .int .u64 o.expect] 68
theorem Buf.shape {B : Nat} {w0 w : World} {v : Value} {l : List UInt8} (h : Buf B w0 w v l) : ∃ a cap, v = .slice a l.length cap := by
 rcases h.own.2 with ⟨rfl, h0⟩ | ⟨g, cap, cur, rfl, _⟩
 ·exact ⟨none, 0, by rw [h0]⟩
 ·exact ⟨_, cap, rfl⟩
theorem Buf.start (w : World) (l : List UInt8) (cs : Array Value) (m : Nat) (hm : l.length = m) (hcs : cs = (Lib.byteCells l).toArray) (hl : l.length ≤ 140737488355328) : Buf w.heap.size w (w.alloc (.cells cs 5)) (.slice (some ⟨w.heap.size, 0, none⟩) m m) l := by
 subst hcs
 subst hm
 refine ⟨⟨by simp [Lib.byteCells], .inr ⟨w.heap.size, l.length, _, rfl, Nat.le_refl _, (MapKept.heap_alloc w _).1, Nat.le_refl _, by unfold maxLen; omega, by simp [Lib.byteCells], ?_⟩⟩, (Below.refl _ _).alloc (Nat.le_refl _) _, ?_, by simp⟩
 ·rw [List.take_of_length_le (by simp [Lib.byteCells])]
 ·intro k x hk hn hx
  rw [Below.heap_alloc _ _ _ ((Array.getElem?_eq_some_iff.1 hk).1)]
  exact hk
end Go.Proofs.YtpabdmcbahmjnaaGreat.Sc
namespace Go.Proofs.YtpabdmcbahmjnaaGreat.Sc
open Go Go.RowKit Go.Sort
set_option linter.unusedSimpArgs false
set_option linter.unusedVariables false
section
variable {ops : Array Oper} {rest : List Oper} {o : Oper} {a : Act} {Q : Exit → Act → World → Prop}
end
theorem row_le {w : World} {b b' size n : Nat} {e : TypeId} {v : Value} {xs : List Value} (h : w.ownsRow b e size v n xs) (hb : b' ≤ b) : w.ownsRow b' e size v n xs :=
 ⟨h.1, h.2.elim Or.inl (fun ⟨g, cap, cur, hv, hg, r⟩ => Or.inr ⟨g, cap, cur, hv, Nat.le_trans hb hg, r⟩)⟩
theorem below_new {w w' : World} (hg : w.grownBy w' none) : Below w.heap.size w w' := (Below.refl _ _).grown hg (Nat.le_refl _) (fun k hk => by simp at hk)
end Go.Proofs.YtpabdmcbahmjnaaGreat.Sc
