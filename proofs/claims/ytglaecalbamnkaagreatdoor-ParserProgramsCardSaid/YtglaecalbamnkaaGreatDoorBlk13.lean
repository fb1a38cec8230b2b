/- The contract of parser.Block. -/
import Derived.Test.YtglaecalbamnkaaGreatDoorKF
namespace Go.Proofs.YtglaecalbamnkaaGreatDoor
open Go.RowKit Go.Maps
open PP (Tree)
def BlockEnd (s : ByteArray) (w : World) (r : Ending) (w' : World) : Prop :=
  ∃ v n q, PP.blockP (envOf s) n (sigOf s) = some q ∧ r = .returned (.tuple #[v, .int .i64 ((PP.out PP.zeroT q).2.1 : Int), .int .i64 ((PP.out PP.zeroT q).2.2 : Int)]) ∧ NodeV w' (w.heap.size ≤ ·) v (PP.out PP.zeroT q).1 ∧ Below w.heap.size w w'
theorem cf_more (v : Value) (W : World) : Sem.run Tryz.prog (callFunc 15 #[v]) W = .ok (Next.enter 15 #[v]) W := by kernel_rfl
section
set_option maxHeartbeats 2000000
set_option maxRecDepth 100000
end
end Go.Proofs.YtglaecalbamnkaaGreatDoor
