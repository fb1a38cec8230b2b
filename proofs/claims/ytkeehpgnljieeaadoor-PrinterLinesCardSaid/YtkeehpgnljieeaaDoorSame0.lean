/- The contract of ast.Same at two empty programs. -/
import Derived.Test.YtkeehpgnljieeaaDoorKF
namespace Go.Proofs.YtkeehpgnljieeaaDoor
open Go.RowKit Go.Maps
theorem blk_second (w : World) (t t' : TypeId) (cs cs' : Array Value) : Blk ((w.alloc (.cells cs t)).alloc (.cells cs' t')) (w.heap.size + 1) t' cs' := by
  have := Blk.new (w.alloc (.cells cs t)) t' cs'
  simpa using this
theorem Blk.two {w : World} {g : Nat} {t : TypeId} {a b : Value} (h : Blk w g t #[a, b]) : w.cell? ⟨g, 1, none⟩ = some b := h.cell 1
section
set_option maxHeartbeats 2000000
set_option maxRecDepth 100000
end
end Go.Proofs.YtkeehpgnljieeaaDoor
