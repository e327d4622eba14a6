/- The reference's Apply, whole. -/
import Derived.Test.YtagfghihnkkfiaaRApC
import Derived.Test.YtagfghihnkkfiaaRApF
namespace Go.Proofs.Ytagfghihnkkfiaa
set_option linter.unusedVariables false
set_option linter.unusedSimpArgs false
open Go Go.RowKit Go.MapKept
/-- room in a family for one operation more -/
structure RRoom (g : RFam) : Prop where
  maps : g.maps.length < 1048576
  walks : g.walks.length < 1048576
  pairs : ∀ x ∈ g.maps, x.pairs.length < 1048576
  back : ∀ p ∈ g.walks, (findM g.maps p.2.number).isSome = true
theorem rapply_any (T : Nat → Prop) (w : World) (A D : Option Addr) (c d : Nat) (g : RFam) (h : RFamAt T w A D g) (t i : Int) (ht : -9223372036854775808 ≤ t ∧ t ≤ 9223372036854775807) (hi : -9223372036854775808 ≤ i ∧ i ≤ 9223372036854775807) (o : OpD) (hkey : o.key.size ≤ maxLen) (hd0 : D = none → d = 0) (room : RRoom g) :
    Calls Try.prog 26 #[rfamV g A c D d, .int .i64 t, .int .i64 i, o.val] w (RApPost T w (applyR g t i o)) := by
  by_cases hz : refusedR g t i o = 0
  · obtain ⟨⟨_, k1, k2⟩, _⟩ := refusedR_none hz
    by_cases h7 : o.kind ≤ 7
    · exact rapply_keyed T w A D c d g h t i ht hi o hkey hd0 hz k1 h7 room.pairs
    · have kinds : o.kind = 8 ∨ o.kind = 9 ∨ o.kind = 10 ∨ o.kind = 11 ∨ o.kind = 12 ∨ o.kind = 13 := by omega
      rcases kinds with k | k | k | k | k | k
      · exact rapply_snap8 T w A D c d g h t i ht hi o hkey hd0 hz k room.maps
      · exact rapply_snap9 T w A D c d g h t i ht hi o hkey hd0 hz k room.maps
      · exact rapply_clear T w A D c d g h t i ht hi o hkey hd0 hz k
      · exact rapply_size T w A D c d g h t i ht hi o hkey hd0 hz k
      · exact rapply_iter T w A D c d g h t i ht hi o hkey hd0 hz k room.walks
      · exact rapply_next T w A D c d g h t i ht hi o hkey hd0 hz k room.back
  · exact rapply_ref T w A D c d g h t i ht hi o hkey hd0 hz
end Go.Proofs.Ytagfghihnkkfiaa
