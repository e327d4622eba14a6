/- Part of a proof: SBuf SApp SFmtP SFull SFmt SUns SSig SDig SNat SWho SRune. -/
import Derived.Lib.AppendIntMem
import Derived.Test.YtpabdmcbahmjnaaGreatMSA
import Derived.OwnWalk
import Derived.Lib.AppendStr
import Derived.Lib.OthersKept
import Derived.StillTailTactics
import Derived.Deep.RegionLaw
import Derived.Laws.IdiomStrings
import Derived.Lib.BufferRead
import Derived.Lib.SlBytesConst
import Derived.ArgAppend
import Derived.Lib.ItoaMem
import Derived.Lib.ItoaWalk
import Derived.BigCall
import Derived.BigGuard
import Derived.CellFam
import Derived.Lib.Walk
import Derived.Laws.RangeAny
import Derived.Laws.Runes
import Derived.Lib.Bytealg
import Derived.WalkMore
import Derived.IntWalk
namespace Go.Proofs.YtpabdmcbahmjnaaGreat.Sc
open Go Go.RowKit
set_option linter.unusedSimpArgs false
set_option linter.unusedVariables false
def TabB (B : Nat) (w : World) : Prop := Lib.TabBelow Tryz.prog B w "internal/strconv.uint64pow10" .u64 Lib.pow10Tab
structure Buf (B : Nat) (w0 w : World) (v : Value) (l : List UInt8) : Prop where
 own : w.ownsRow B 5 1 v l.length (Lib.byteCells l)
 below : Below B w0 w
 kept : Lib.OthersKept 5 none w0 w
 size : B ≤ w.heap.size
theorem addr_at (g n : Nat) : ((⟨g, 0, none⟩ : Addr).add n) = ⟨g, n, none⟩ := by
 unfold Addr.add
 split
 ·subst n; rfl
 ·simp
section
variable {ops : Array Oper} {rest : List Oper} {o : Oper} {a : Act} {Q : Exit → Act → World → Prop}
end
def opV (o : OpD) : Value := .agg #[.int .i64 o.kind, .int .i64 o.handle, .string o.key, .int .u64 o.value, .int .u64 o.expect]
def opObj (o : OpD) : Obj := .cells #[.int .i64 o.kind, .int .i64 o.handle, .string o.key, .int .u64 o.value, .int .u64 o.expect] 68
end Go.Proofs.YtpabdmcbahmjnaaGreat.Sc
namespace Go.Proofs.YtpabdmcbahmjnaaGreat.Sc
open Go Go.RowKit Go.Sort
set_option linter.unusedSimpArgs false
set_option linter.unusedVariables false
section
variable {ops : Array Oper} {rest : List Oper} {o : Oper} {a : Act} {Q : Exit → Act → World → Prop}
end
theorem row_le {w : World} {b b' size n : Nat} {e : TypeId} {v : Value} {xs : List Value} (h : w.ownsRow b e size v n xs) (hb : b' ≤ b) : w.ownsRow b' e size v n xs :=
 ⟨h.1, h.2.elim Or.inl (fun ⟨g, cap, cur, hv, hg, r⟩ => Or.inr ⟨g, cap, cur, hv, Nat.le_trans hb hg, r⟩)⟩
theorem below_new {w w' : World} (hg : w.grownBy w' none) : Below w.heap.size w w' := (Below.refl _ _).grown hg (Nat.le_refl _) (fun k hk => by simp at hk)
end Go.Proofs.YtpabdmcbahmjnaaGreat.Sc
