/-
  No cell of these rows narrows 'for every input' (looked for: loops, veiled, ifaces, maps, wideKeys, modest, calm, conditions, laid).
  DERIVED. THE GIVEN ROWS OF THIS SEAT. 4 by the template 'for every input the law returns true; each argument reads behind the call as it read before'; 0 by the template 'total and deterministic' (their statements: YtpabdmcbahmjnaaGreatTotals.lean).
  GIVEN WITH THE SEED: the statements are not yours to turn. If you find one false, say at which input.
  Laid BY PROGRAM, IN A SANDBOX (cutbox-rows.mjs): the forced cells as the released guide's own fill.sh prints them over the translation ad5f6c014c1b5301… (all of the seat's roots in one cut). By AI agents, Wed Nov 11 2026. No macro, syntax, notation, axiom, sorry.
-/
import Derived.Test.YtpabdmcbahmjnaaGreatChecked
import GoSem.Claim
import GoSem.ClaimJoined
import GoSem.ClaimMapViews
import Derived.JoinedTies
import Derived.KernelRfl
namespace Go.Proofs.YtpabdmcbahmjnaaGreat
/- THE CELL 'sum', in the pinned program and in every row, IS THE sha256 OF THE DUMP (.gsa) THAT YtpabdmcbahmjnaaGreatProg.lean LOADS. Nothing in Lean hashes anything: it is a label: what it is worth is what the hold of that sum in a sandbox is worth. -/
noncomputable def Tryz.pinned : Pinned := { name := "ytpabdmcbahmjnaagreat", sum := "ad5f6c014c1b53011ee66863f8d9673f1a500f70e003117645bf48070263a363", checked := Tryz.checked }
namespace Rows
def none {H : Type} : Left H := { results := [], args := [] }

/-- 'ctrielaw26.HistoryRuns': WHATEVER THE INPUT: true; the input reads as it did. -/
def historyRunsSpec : ChangeSpec := { name := "historyRuns", fn := fun _ => fun
  | [d1, d2] => { results := [.lit (.bool true)], args := [d1, d2] }
  | _ => none }
def historyRunsRow : OpenClaim := { program := "ytpabdmcbahmjnaagreat", sum := "ad5f6c014c1b53011ee66863f8d9673f1a500f70e003117645bf48070263a363", func := "ctrie/ctrielaw26.HistoryRuns", spec := "historyRuns", plainKeys := false, apart := false }
def HistoryRunsSaid : Prop := historyRunsRow.holds Tryz.pinned (OpenSpec.ofChange historyRunsSpec)

/-- ITS FALSE NEIGHBOUR: 'it returns false'. Refute it at one input. -/
def historyRunsWrong : ChangeSpec := { name := "historyRuns", fn := fun _ => fun
  | [d1, d2] => { results := [.lit (.bool false)], args := [d1, d2] }
  | _ => none }
def HistoryRunsWrongFalsely : Prop := historyRunsRow.holds Tryz.pinned (OpenSpec.ofChange historyRunsWrong)

/-- 'ctrielaw26.HistoryOrder': WHATEVER THE INPUT: true; the input reads as it did. -/
def historyOrderSpec : ChangeSpec := { name := "historyOrder", fn := fun _ => fun
  | [d] => { results := [.lit (.bool true)], args := [d] }
  | _ => none }
def historyOrderRow : OpenClaim := { program := "ytpabdmcbahmjnaagreat", sum := "ad5f6c014c1b53011ee66863f8d9673f1a500f70e003117645bf48070263a363", func := "ctrie/ctrielaw26.HistoryOrder", spec := "historyOrder", plainKeys := false, apart := false }
def HistoryOrderSaid : Prop := historyOrderRow.holds Tryz.pinned (OpenSpec.ofChange historyOrderSpec)

/-- ITS FALSE NEIGHBOUR: 'it returns false'. Refute it at one input. -/
def historyOrderWrong : ChangeSpec := { name := "historyOrder", fn := fun _ => fun
  | [d] => { results := [.lit (.bool false)], args := [d] }
  | _ => none }
def HistoryOrderWrongFalsely : Prop := historyOrderRow.holds Tryz.pinned (OpenSpec.ofChange historyOrderWrong)

/-- 'ctrielaw26.HistoryExact': WHATEVER THE INPUT: true; the input reads as it did. -/
def historyExactSpec : ChangeSpec := { name := "historyExact", fn := fun _ => fun
  | [d1, d2, d3, d4, d5, d6, d7] => { results := [.lit (.bool true)], args := [d1, d2, d3, d4, d5, d6, d7] }
  | _ => none }
def historyExactRow : OpenClaim := { program := "ytpabdmcbahmjnaagreat", sum := "ad5f6c014c1b53011ee66863f8d9673f1a500f70e003117645bf48070263a363", func := "ctrie/ctrielaw26.HistoryExact", spec := "historyExact", plainKeys := false, apart := false }
def HistoryExactSaid : Prop := historyExactRow.holds Tryz.pinned (OpenSpec.ofChange historyExactSpec)

/-- ITS FALSE NEIGHBOUR: 'it returns false'. Refute it at one input. -/
def historyExactWrong : ChangeSpec := { name := "historyExact", fn := fun _ => fun
  | [d1, d2, d3, d4, d5, d6, d7] => { results := [.lit (.bool false)], args := [d1, d2, d3, d4, d5, d6, d7] }
  | _ => none }
def HistoryExactWrongFalsely : Prop := historyExactRow.holds Tryz.pinned (OpenSpec.ofChange historyExactWrong)

/-- 'ctrielaw26.HistoryThreads': WHATEVER THE INPUT: true; the input reads as it did. -/
def historyThreadsSpec : ChangeSpec := { name := "historyThreads", fn := fun _ => fun
  | [d] => { results := [.lit (.bool true)], args := [d] }
  | _ => none }
def historyThreadsRow : OpenClaim := { program := "ytpabdmcbahmjnaagreat", sum := "ad5f6c014c1b53011ee66863f8d9673f1a500f70e003117645bf48070263a363", func := "ctrie/ctrielaw26.HistoryThreads", spec := "historyThreads", plainKeys := false, apart := false }
def HistoryThreadsSaid : Prop := historyThreadsRow.holds Tryz.pinned (OpenSpec.ofChange historyThreadsSpec)

/-- ITS FALSE NEIGHBOUR: 'it returns false'. Refute it at one input. -/
def historyThreadsWrong : ChangeSpec := { name := "historyThreads", fn := fun _ => fun
  | [d] => { results := [.lit (.bool false)], args := [d] }
  | _ => none }
def HistoryThreadsWrongFalsely : Prop := historyThreadsRow.holds Tryz.pinned (OpenSpec.ofChange historyThreadsWrong)

/- THE SECOND FORM. 'bulk': how many values and letters a reading holds, each counted each time it is reached (what is shared counts as often as it is met; a slice's spare places count too). A statement '..UptoSaid' is the law's where the arguments, and the package variables that the reading takes, are together of bulk at most 1048576: NARROWER than '..Said'. Prove '..Said' where nothing that the law and all that it calls make is longer than what came in: it says more and counts as full. Else prove '..UptoSaid'. A law counts once. -/
mutual
def uptoBulk {H : Type} : DataW H → Nat
  | .lit (.string bytes) => bytes.length + 1
  | .lit _ => 1
  | .nil => 1
  | .ptr d => uptoBulk d + 1
  | .slice elems spare => uptoBulkAll elems + uptoBulkAll spare + 1
  | .agg parts => uptoBulkAll parts + 1
  | .iface _ d => uptoBulk d + 1
  | .map entries => uptoBulkEntries entries + 1
  | .held _ => 1
def uptoBulkAll {H : Type} : List (DataW H) → Nat
  | [] => 0
  | d :: r => uptoBulk d + uptoBulkAll r
def uptoBulkEntries {H : Type} : List (Lit × DataW H) → Nat
  | [] => 0
  | x :: r => uptoBulkEntry x + uptoBulkEntries r
def uptoBulkEntry {H : Type} : Lit × DataW H → Nat
  | (.string bytes, d) => bytes.length + uptoBulk d + 1
  | (_, d) => uptoBulk d + 1
 end
def uptoSmall : (H : Type) → List (DataW H) → Bool := fun _ ds => decide (uptoBulkAll ds ≤ 1048576)
def OpenSpec.upto (s : _root_.Go.ChangeSpec) : _root_.Go.OpenSpec := { _root_.Go.OpenSpec.ofChange s with cond := some uptoSmall }

/-- 'ctrielaw26.HistoryRuns', WHERE WHAT IT READS IS OF BULK AT MOST 1048576: true; the input reads as it did. -/
def historyRunsUptoRow : OpenClaim := { program := "ytpabdmcbahmjnaagreat", sum := "ad5f6c014c1b53011ee66863f8d9673f1a500f70e003117645bf48070263a363", func := "ctrie/ctrielaw26.HistoryRuns", spec := "historyRuns", plainKeys := false, apart := false, narrowed := true }
def HistoryRunsUptoSaid : Prop := historyRunsUptoRow.holds Tryz.pinned (OpenSpec.upto historyRunsSpec)

/-- 'ctrielaw26.HistoryOrder', WHERE WHAT IT READS IS OF BULK AT MOST 1048576: true; the input reads as it did. -/
def historyOrderUptoRow : OpenClaim := { program := "ytpabdmcbahmjnaagreat", sum := "ad5f6c014c1b53011ee66863f8d9673f1a500f70e003117645bf48070263a363", func := "ctrie/ctrielaw26.HistoryOrder", spec := "historyOrder", plainKeys := false, apart := false, narrowed := true }
def HistoryOrderUptoSaid : Prop := historyOrderUptoRow.holds Tryz.pinned (OpenSpec.upto historyOrderSpec)

/-- 'ctrielaw26.HistoryExact', WHERE WHAT IT READS IS OF BULK AT MOST 1048576: true; the input reads as it did. -/
def historyExactUptoRow : OpenClaim := { program := "ytpabdmcbahmjnaagreat", sum := "ad5f6c014c1b53011ee66863f8d9673f1a500f70e003117645bf48070263a363", func := "ctrie/ctrielaw26.HistoryExact", spec := "historyExact", plainKeys := false, apart := false, narrowed := true }
def HistoryExactUptoSaid : Prop := historyExactUptoRow.holds Tryz.pinned (OpenSpec.upto historyExactSpec)

/-- 'ctrielaw26.HistoryThreads', WHERE WHAT IT READS IS OF BULK AT MOST 1048576: true; the input reads as it did. -/
def historyThreadsUptoRow : OpenClaim := { program := "ytpabdmcbahmjnaagreat", sum := "ad5f6c014c1b53011ee66863f8d9673f1a500f70e003117645bf48070263a363", func := "ctrie/ctrielaw26.HistoryThreads", spec := "historyThreads", plainKeys := false, apart := false, narrowed := true }
def HistoryThreadsUptoSaid : Prop := historyThreadsUptoRow.holds Tryz.pinned (OpenSpec.upto historyThreadsSpec)

end Rows
end Go.Proofs.YtpabdmcbahmjnaaGreat
