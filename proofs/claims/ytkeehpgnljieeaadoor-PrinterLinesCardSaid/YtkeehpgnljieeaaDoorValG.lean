/- The contract of ast.Valid. -/
import Derived.Test.YtkeehpgnljieeaaDoorValF
namespace Go.Proofs.YtkeehpgnljieeaaDoor
open Go.RowKit Go.Maps
open PP (Tree ArrD TaskD ProgD)
def TaskRel (ts : List TaskD) (w : World) (i : Value) (wr : World) : Prop := ∃ j : Nat, j ≤ ts.length ∧ i = .int .i64 (j : Int) ∧ (∀ l t, l < j → ts[l]? = some t → PP.okTask t = true) ∧ Below w.heap.size w wr
structure NmTask (t : TaskD) : Prop where
  n : t.name.length ≤ 65536
  v : ∀ v ∈ t.vars, v.length ≤ 65536
  a : NmArr t.arrays
  b : PP.nmT t.body = true
  s : t.body.size ≤ 1000000
section
set_option maxHeartbeats 8000000
set_option maxRecDepth 100000
end
end Go.Proofs.YtkeehpgnljieeaaDoor
