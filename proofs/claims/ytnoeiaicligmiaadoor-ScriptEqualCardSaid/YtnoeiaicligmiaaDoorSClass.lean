/- A region that draws its order, walked once, over a class of worlds: the operations read, the callees make memory. -/
import Derived.Test.YtnoeiaicligmiaaDoorSMem
import Derived.BigQuiet
import Derived.Deep.Quiet
namespace Go.Proofs.YtnoeiaicligmiaaDoor
set_option linter.unusedVariables false
set_option linter.unusedSimpArgs false
open Go Go.RowKit
section
variable {P : Program} {ops : Array Oper} {C : World → Prop} {Q : Act → Prop} {a : Act} {o : Oper} {rest : List Oper}
theorem wp_region_class {id : Nat} {Q : Exit → Act → World → Prop} {a : Act} {w : World} {l : List Oper} (hm : P.follows .mixedOrders = true) (hB : Region.lexB .any l.toArray = true) (hC : C w.drew)
    (h : wpQuiet P l.toArray C (fun a' => ∀ w', C w' → Q .normal a' w') l a) : (Code.region id l.toArray true).wp P Q a w :=
  wp_region_quiet (C := C) hm hB hC (by simpa using h)
theorem wpQuiet_take {v : Value} (hw : Region.wanted o (yielded ops a.tmps) = true) (hy : ∀ w, C w → o.quietAt P a C w v) (h : wpQuiet P ops C Q rest (a.put o.dst v)) : wpQuiet P ops C Q (o :: rest) a :=
  wpQuiet_step fun K hK => by rw [if_pos hw]; exact ⟨v, hy, hK _ h⟩
end
end Go.Proofs.YtnoeiaicligmiaaDoor
