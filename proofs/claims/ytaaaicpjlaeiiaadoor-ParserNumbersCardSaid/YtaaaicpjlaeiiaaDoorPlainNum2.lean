/- The numbers of ParserNumbers' programs, each tried. -/
import Derived.Test.YtaaaicpjlaeiiaaDoorPlainNumbers
namespace Go.Proofs.YtaaaicpjlaeiiaaDoor.PP
open PL

def numOk (low high : Nat) (head tail : List UInt8) (m : Nat) : Bool := decide (answer (head ++ dec m ++ tail) 60 = if low ≤ m ∧ m ≤ high then some (0, 0) else some (head.length, 2))
theorem numOk_ans {low high : Nat} {head tail : List UInt8} {m : Nat} (h : numOk low high head tail m = true) : answer (head ++ dec m ++ tail) 60 = if low ≤ m ∧ m ≤ high then some (0, 0) else some (head.length, 2) := of_decide_eq_true h
theorem num_k0 : ∀ m, m < 35 → numOk 1 32 [115, 104, 97, 114, 101, 100, 32, 115, 91] [93, 59] m = true := by decide +kernel
theorem num_k1 : ∀ m, m < 1003 → numOk 1 1000 [116, 97, 115, 107, 32, 116, 32, 112, 101, 114, 105, 111, 100, 32] [32, 123, 125] m = true := by decide +kernel
theorem num_k2 : ∀ m, m < 1003 → numOk 1 1000 [116, 97, 115, 107, 32, 116, 32, 112, 101, 114, 105, 111, 100, 32, 49, 32, 123, 32, 102, 111, 114, 32, 105, 32, 60, 32] [32, 123, 125, 32, 125] m = true := by decide +kernel
theorem num_k3 : ∀ m, m < 1003 → numOk 1 1000 [116, 97, 115, 107, 32, 116, 32, 112, 101, 114, 105, 111, 100, 32, 49, 32, 123, 32, 119, 104, 105, 108, 101, 32, 48, 32, 98, 111, 117, 110, 100, 32] [32, 123, 125, 32, 125] m = true := by decide +kernel
theorem num_k4 : ∀ m, m < 10 → numOk 0 7 [116, 97, 115, 107, 32, 116, 32, 112, 101, 114, 105, 111, 100, 32, 49, 32, 123, 32, 111, 117, 116, 32, 49, 44, 32] [59, 32, 125] m = true := by decide +kernel
end Go.Proofs.YtaaaicpjlaeiiaaDoor.PP
