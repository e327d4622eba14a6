/- ModelKeys, for all inputs. -/
import Derived.Test.YtagfghihnkkfiaaKeys
import Derived.Test.YtagfghihnkkfiaaFrame
namespace Go.Proofs.Ytagfghihnkkfiaa
set_option linter.unusedVariables false
set_option linter.unusedSimpArgs false
open Go.RowKit Go.MapKept
theorem modelKeys_walk (a0 : Int) (s1 : Option Addr) (n1 c1 : Nat) (a2 a3 : ByteArray) (a4 a5 : Int) (W : World) (w0 : (Lit.int .u64 a0).wf = true) (w1 : IntsAt W s1 n1) (w2 : a2.size ≤ maxLen) (w3 : a3.size ≤ maxLen) (w4 : (Lit.int .u64 a4).wf = true) (w5 : (Lit.int .u64 a5).wf = true) :
    Calls Try.prog 4 #[.int .u64 a0, .slice s1 n1 c1, .string a2, .string a3, .int .u64 a4, .int .u64 a5] W fun e w' => e = .returned (.bool true) ∧ Below W.heap.size W w' := by
  have b0 := bounds_u64 w0
  have b4 := bounds_u64 w4
  by_cases h1 : 64 < a2.size
  · exact keys_early W a0 s1 n1 c1 a2 a3 a4 a5 w2 w3 (Or.inl h1)
  by_cases h2 : 64 < a3.size
  · exact keys_early W a0 s1 n1 c1 a2 a3 a4 a5 w2 w3 (Or.inr (Or.inl ⟨by omega, h2⟩))
  by_cases h3 : a2 = a3
  · exact keys_early W a0 s1 n1 c1 a2 a3 a4 a5 w2 w3 (Or.inr (Or.inr ⟨by omega, by omega, h3⟩))
  · exact keys_main W a0 s1 n1 c1 a2 a3 a4 a5 b0.1 b0.2 (by omega) (by omega) h3 b4.1 b4.2 w1.1 w1.2
end Go.Proofs.Ytagfghihnkkfiaa
