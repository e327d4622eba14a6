/-
  No cell of these rows narrows 'for every input' (looked for: loops, veiled, ifaces, maps, wideKeys, modest, calm, conditions, laid).
  DERIVED. THE GIVEN ROWS OF THIS SEAT. 4 by the template 'for every input the law returns true; each argument reads behind the call as it read before'; 0 by the template 'total and deterministic' (their statements: YtagfghihnkkfiaaTotals.lean).
  GIVEN WITH THE SEED: the statements are not yours to turn. If you find one false, say at which input.
  Laid BY PROGRAM, IN A SANDBOX (cutbox-rows.mjs): the forced cells as the released guide's own fill.sh prints them over the translation ec4f01e2ff76582c… (all of the seat's roots in one cut). By AI agents, Wed Nov 11 2026. No macro, syntax, notation, axiom, sorry.
-/
import Derived.Test.YtagfghihnkkfiaaChecked
import GoSem.Claim
import GoSem.ClaimJoined
import GoSem.ClaimMapViews
import Derived.JoinedTies
import Derived.KernelRfl
namespace Go.Proofs.Ytagfghihnkkfiaa
/- THE CELL 'sum', in the pinned program and in every row, IS THE sha256 OF THE DUMP (.gsa) THAT YtagfghihnkkfiaaProg.lean LOADS. Nothing in Lean hashes anything: it is a label: what it is worth is what the hold of that sum in a sandbox is worth. -/
noncomputable def Try.pinned : Pinned := { name := "ytagfghihnkkfiaa", sum := "ec4f01e2ff76582ccfc2f175f2c49f0ca81a6644c59a7c8f246c5b0abfe69e50", checked := Try.checked }
namespace Rows
def none {H : Type} : Left H := { results := [], args := [] }

/-- 'ctrielaw27.ModelOrder': WHATEVER THE INPUT: true; the input reads as it did. -/
def modelOrderSpec : ChangeSpec := { name := "modelOrder", fn := fun _ => fun
  | [d1, d2] => { results := [.lit (.bool true)], args := [d1, d2] }
  | _ => none }
def modelOrderRow : OpenClaim := { program := "ytagfghihnkkfiaa", sum := "ec4f01e2ff76582ccfc2f175f2c49f0ca81a6644c59a7c8f246c5b0abfe69e50", func := "ctrie/ctrielaw27.ModelOrder", spec := "modelOrder", inPlace := ["maps.clone"], unfollowed := true, recurses := true, apart := false }
def ModelOrderSaid : Prop := modelOrderRow.holds Try.pinned (OpenSpec.ofChange modelOrderSpec)

/-- ITS FALSE NEIGHBOUR: 'it returns false'. Refute it at one input. -/
def modelOrderWrong : ChangeSpec := { name := "modelOrder", fn := fun _ => fun
  | [d1, d2] => { results := [.lit (.bool false)], args := [d1, d2] }
  | _ => none }
def ModelOrderWrongFalsely : Prop := modelOrderRow.holds Try.pinned (OpenSpec.ofChange modelOrderWrong)

/-- 'ctrielaw27.ModelKeys': WHATEVER THE INPUT: true; the input reads as it did. -/
def modelKeysSpec : ChangeSpec := { name := "modelKeys", fn := fun _ => fun
  | [d1, d2, d3, d4, d5, d6] => { results := [.lit (.bool true)], args := [d1, d2, d3, d4, d5, d6] }
  | _ => none }
def modelKeysRow : OpenClaim := { program := "ytagfghihnkkfiaa", sum := "ec4f01e2ff76582ccfc2f175f2c49f0ca81a6644c59a7c8f246c5b0abfe69e50", func := "ctrie/ctrielaw27.ModelKeys", spec := "modelKeys", inPlace := ["maps.clone"], unfollowed := true, recurses := true, apart := false }
def ModelKeysSaid : Prop := modelKeysRow.holds Try.pinned (OpenSpec.ofChange modelKeysSpec)

/-- ITS FALSE NEIGHBOUR: 'it returns false'. Refute it at one input. -/
def modelKeysWrong : ChangeSpec := { name := "modelKeys", fn := fun _ => fun
  | [d1, d2, d3, d4, d5, d6] => { results := [.lit (.bool false)], args := [d1, d2, d3, d4, d5, d6] }
  | _ => none }
def ModelKeysWrongFalsely : Prop := modelKeysRow.holds Try.pinned (OpenSpec.ofChange modelKeysWrong)

/-- 'ctrielaw27.ModelIsolates': WHATEVER THE INPUT: true; the input reads as it did. -/
def modelIsolatesSpec : ChangeSpec := { name := "modelIsolates", fn := fun _ => fun
  | [d1, d2, d3] => { results := [.lit (.bool true)], args := [d1, d2, d3] }
  | _ => none }
def modelIsolatesRow : OpenClaim := { program := "ytagfghihnkkfiaa", sum := "ec4f01e2ff76582ccfc2f175f2c49f0ca81a6644c59a7c8f246c5b0abfe69e50", func := "ctrie/ctrielaw27.ModelIsolates", spec := "modelIsolates", inPlace := ["maps.clone"], unfollowed := true, recurses := true, apart := false }
def ModelIsolatesSaid : Prop := modelIsolatesRow.holds Try.pinned (OpenSpec.ofChange modelIsolatesSpec)

/-- ITS FALSE NEIGHBOUR: 'it returns false'. Refute it at one input. -/
def modelIsolatesWrong : ChangeSpec := { name := "modelIsolates", fn := fun _ => fun
  | [d1, d2, d3] => { results := [.lit (.bool false)], args := [d1, d2, d3] }
  | _ => none }
def ModelIsolatesWrongFalsely : Prop := modelIsolatesRow.holds Try.pinned (OpenSpec.ofChange modelIsolatesWrong)

/-- 'ctrielaw27.ModelPlays': WHATEVER THE INPUT: true; the input reads as it did. -/
def modelPlaysSpec : ChangeSpec := { name := "modelPlays", fn := fun _ => fun
  | [d1, d2, d3] => { results := [.lit (.bool true)], args := [d1, d2, d3] }
  | _ => none }
def modelPlaysRow : OpenClaim := { program := "ytagfghihnkkfiaa", sum := "ec4f01e2ff76582ccfc2f175f2c49f0ca81a6644c59a7c8f246c5b0abfe69e50", func := "ctrie/ctrielaw27.ModelPlays", spec := "modelPlays", inPlace := ["maps.clone"], unfollowed := true, recurses := true, apart := false }
def ModelPlaysSaid : Prop := modelPlaysRow.holds Try.pinned (OpenSpec.ofChange modelPlaysSpec)

/-- ITS FALSE NEIGHBOUR: 'it returns false'. Refute it at one input. -/
def modelPlaysWrong : ChangeSpec := { name := "modelPlays", fn := fun _ => fun
  | [d1, d2, d3] => { results := [.lit (.bool false)], args := [d1, d2, d3] }
  | _ => none }
def ModelPlaysWrongFalsely : Prop := modelPlaysRow.holds Try.pinned (OpenSpec.ofChange modelPlaysWrong)

/- THE SECOND FORM. 'bulk': how many values and letters a reading holds, each counted each time it is reached (what is shared counts as often as it is met; a slice's spare places count too). A statement '..UptoSaid' is the law's where the arguments, and the package variables that the reading takes, are together of bulk at most 1048576: NARROWER than '..Said'. Prove '..Said' where nothing that the law and all that it calls make is longer than what came in: it says more and counts as full. Else prove '..UptoSaid'. A law counts once. -/
mutual
def uptoBulk {H : Type} : DataW H → Nat
  | .lit (.string bytes) => bytes.length + 1
  | .lit _ => 1
  | .nil => 1
  | .ptr d => uptoBulk d + 1
  | .slice elems spare => uptoBulkAll elems + uptoBulkAll spare + 1
  | .agg parts => uptoBulkAll parts + 1
  | .iface _ d => uptoBulk d + 1
  | .map entries => uptoBulkEntries entries + 1
  | .held _ => 1
def uptoBulkAll {H : Type} : List (DataW H) → Nat
  | [] => 0
  | d :: r => uptoBulk d + uptoBulkAll r
def uptoBulkEntries {H : Type} : List (Lit × DataW H) → Nat
  | [] => 0
  | x :: r => uptoBulkEntry x + uptoBulkEntries r
def uptoBulkEntry {H : Type} : Lit × DataW H → Nat
  | (.string bytes, d) => bytes.length + uptoBulk d + 1
  | (_, d) => uptoBulk d + 1
 end
def uptoSmall : (H : Type) → List (DataW H) → Bool := fun _ ds => decide (uptoBulkAll ds ≤ 1048576)
def OpenSpec.upto (s : _root_.Go.ChangeSpec) : _root_.Go.OpenSpec := { _root_.Go.OpenSpec.ofChange s with cond := some uptoSmall }

/-- 'ctrielaw27.ModelOrder', WHERE WHAT IT READS IS OF BULK AT MOST 1048576: true; the input reads as it did. -/
def modelOrderUptoRow : OpenClaim := { program := "ytagfghihnkkfiaa", sum := "ec4f01e2ff76582ccfc2f175f2c49f0ca81a6644c59a7c8f246c5b0abfe69e50", func := "ctrie/ctrielaw27.ModelOrder", spec := "modelOrder", inPlace := ["maps.clone"], unfollowed := true, recurses := true, apart := false, narrowed := true }
def ModelOrderUptoSaid : Prop := modelOrderUptoRow.holds Try.pinned (OpenSpec.upto modelOrderSpec)

/-- 'ctrielaw27.ModelKeys', WHERE WHAT IT READS IS OF BULK AT MOST 1048576: true; the input reads as it did. -/
def modelKeysUptoRow : OpenClaim := { program := "ytagfghihnkkfiaa", sum := "ec4f01e2ff76582ccfc2f175f2c49f0ca81a6644c59a7c8f246c5b0abfe69e50", func := "ctrie/ctrielaw27.ModelKeys", spec := "modelKeys", inPlace := ["maps.clone"], unfollowed := true, recurses := true, apart := false, narrowed := true }
def ModelKeysUptoSaid : Prop := modelKeysUptoRow.holds Try.pinned (OpenSpec.upto modelKeysSpec)

/-- 'ctrielaw27.ModelIsolates', WHERE WHAT IT READS IS OF BULK AT MOST 1048576: true; the input reads as it did. -/
def modelIsolatesUptoRow : OpenClaim := { program := "ytagfghihnkkfiaa", sum := "ec4f01e2ff76582ccfc2f175f2c49f0ca81a6644c59a7c8f246c5b0abfe69e50", func := "ctrie/ctrielaw27.ModelIsolates", spec := "modelIsolates", inPlace := ["maps.clone"], unfollowed := true, recurses := true, apart := false, narrowed := true }
def ModelIsolatesUptoSaid : Prop := modelIsolatesUptoRow.holds Try.pinned (OpenSpec.upto modelIsolatesSpec)

/-- 'ctrielaw27.ModelPlays', WHERE WHAT IT READS IS OF BULK AT MOST 1048576: true; the input reads as it did. -/
def modelPlaysUptoRow : OpenClaim := { program := "ytagfghihnkkfiaa", sum := "ec4f01e2ff76582ccfc2f175f2c49f0ca81a6644c59a7c8f246c5b0abfe69e50", func := "ctrie/ctrielaw27.ModelPlays", spec := "modelPlays", inPlace := ["maps.clone"], unfollowed := true, recurses := true, apart := false, narrowed := true }
def ModelPlaysUptoSaid : Prop := modelPlaysUptoRow.holds Try.pinned (OpenSpec.upto modelPlaysSpec)

end Rows
end Go.Proofs.Ytagfghihnkkfiaa
