/- ModelIsolates, for all inputs. -/
import Derived.Test.YtagfghihnkkfiaaIso
import Derived.Test.YtagfghihnkkfiaaFrame
namespace Go.Proofs.Ytagfghihnkkfiaa
set_option linter.unusedVariables false
set_option linter.unusedSimpArgs false
open Go.RowKit Go.MapKept
theorem modelIsolates_walk (a0 : Int) (s1 : Option Addr) (n1 c1 : Nat) (a2 : Bool) (W : World) (w0 : (Lit.int .u64 a0).wf = true) (w1 : IntsAt W s1 n1) :
    Calls Try.prog 5 #[.int .u64 a0, .slice s1 n1 c1, .bool a2] W fun e w' => e = .returned (.bool true) ∧ Below W.heap.size W w' := by
  have b0 := bounds_u64 w0
  exact iso_main W a0 s1 n1 c1 a2 b0.1 b0.2 w1.1 w1.2
end Go.Proofs.Ytagfghihnkkfiaa
