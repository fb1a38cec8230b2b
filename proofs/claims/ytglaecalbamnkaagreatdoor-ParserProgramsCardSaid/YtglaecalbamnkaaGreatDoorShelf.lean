/- Nothing of Go's library stands here: this seat needs none of it. -/
import Derived.Test.YtglaecalbamnkaaGreatDoorRows
namespace Go.Proofs.YtglaecalbamnkaaGreatDoor
end Go.Proofs.YtglaecalbamnkaaGreatDoor
