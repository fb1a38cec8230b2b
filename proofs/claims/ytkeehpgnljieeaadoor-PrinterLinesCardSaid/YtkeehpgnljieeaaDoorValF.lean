/- The contracts of ast.isTask and ast.Valid. -/
import Derived.Test.YtkeehpgnljieeaaDoorValE
namespace Go.Proofs.YtkeehpgnljieeaaDoor
open Go.RowKit Go.Maps
open PP (Tree ArrD TaskD ProgD)
def VarRel (vs : List (List UInt8)) (w : World) (i : Value) (wr : World) : Prop := ∃ j : Nat, j ≤ vs.length ∧ i = .int .i64 (j : Int) ∧ (∀ l t, l < j → vs[l]? = some t → PL.isName t = true) ∧ Below w.heap.size w wr
section
set_option maxHeartbeats 8000000
set_option maxRecDepth 100000
end
end Go.Proofs.YtkeehpgnljieeaaDoor
