/- The texts of ParserLimits, and what the parser's plain functions answer (written by wip/genlimits.py). -/
import Derived.Test.YtkeehpgnljieeaaDoorKA
namespace Go.Proofs.YtkeehpgnljieeaaDoor.PP
open PL

def rep (h o : List UInt8) : Nat → List UInt8
  | 0 => h
  | n + 1 => rep h o n ++ o
def repB (h o : ByteArray) : Nat → ByteArray
  | 0 => h
  | n + 1 => repB h o n ++ o
theorem repB_list (h o : ByteArray) : ∀ n, (repB h o n).data.toList = rep h.data.toList o.data.toList n
  | 0 => rfl
  | n + 1 => by
    have := repB_list h o n
    simp only [repB, rep, ← this]
    simp [ByteArray.data_append]
theorem rep_length (h o : List UInt8) : ∀ n, (rep h o n).length = h.length + n * o.length
  | 0 => by simp [rep]
  | n + 1 => by
    have := rep_length h o n
    simp only [rep, List.length_append, this, Nat.add_mul]
    omega
def answer (l : List UInt8) (n : Nat) : Option (Nat × Nat) := (programP (envL l) n (sigT l)).map fun q => (q.1.off, q.1.err)
theorem lim_s0 : answer (rep [] [115, 104, 97, 114, 101, 100, 32, 115, 91, 49, 93, 59, 32] 4 ++ []) 120 = some (0, 0) := by decide +kernel
theorem lim_t0 : answer (rep [] [115, 104, 97, 114, 101, 100, 32, 115, 91, 49, 93, 59, 32] 4 ++ [115, 104, 97, 114, 101, 100, 32, 115, 91, 49, 93, 59, 32] ++ []) 120 = some (52, 5) := by decide +kernel
theorem lim_s1 : answer (rep [] [116, 97, 115, 107, 32, 116, 32, 112, 101, 114, 105, 111, 100, 32, 49, 32, 123, 125, 32] 8 ++ []) 120 = some (0, 0) := by decide +kernel
theorem lim_t1 : answer (rep [] [116, 97, 115, 107, 32, 116, 32, 112, 101, 114, 105, 111, 100, 32, 49, 32, 123, 125, 32] 8 ++ [116, 97, 115, 107, 32, 116, 32, 112, 101, 114, 105, 111, 100, 32, 49, 32, 123, 125, 32] ++ []) 120 = some (152, 5) := by decide +kernel
theorem lim_s2 : answer (rep [116, 97, 115, 107, 32, 116, 32, 112, 101, 114, 105, 111, 100, 32, 49, 32, 123, 32] [118, 97, 114, 32, 120, 59, 32] 12 ++ [125]) 120 = some (0, 0) := by decide +kernel
theorem lim_t2 : answer (rep [116, 97, 115, 107, 32, 116, 32, 112, 101, 114, 105, 111, 100, 32, 49, 32, 123, 32] [118, 97, 114, 32, 120, 59, 32] 12 ++ [118, 97, 114, 32, 120, 59, 32] ++ [125]) 120 = some (102, 5) := by decide +kernel
theorem lim_s3 : answer (rep [116, 97, 115, 107, 32, 116, 32, 112, 101, 114, 105, 111, 100, 32, 49, 32, 123, 32] [97, 114, 114, 97, 121, 32, 97, 91, 50, 93, 59, 32] 4 ++ [125]) 120 = some (0, 0) := by decide +kernel
theorem lim_t3 : answer (rep [116, 97, 115, 107, 32, 116, 32, 112, 101, 114, 105, 111, 100, 32, 49, 32, 123, 32] [97, 114, 114, 97, 121, 32, 97, 91, 50, 93, 59, 32] 4 ++ [97, 114, 114, 97, 121, 32, 97, 91, 50, 93, 59, 32] ++ [125]) 120 = some (66, 5) := by decide +kernel
theorem lim_s4 : answer (rep (rep [116, 97, 115, 107, 32, 116, 32, 112, 101, 114, 105, 111, 100, 32, 49, 32, 123] [32, 102, 111, 114, 32, 105, 32, 60, 32, 50, 32, 123] 4 ++ []) [125] 4 ++ [125]) 120 = some (0, 0) := by decide +kernel
theorem lim_t4 : answer (rep (rep [116, 97, 115, 107, 32, 116, 32, 112, 101, 114, 105, 111, 100, 32, 49, 32, 123] [32, 102, 111, 114, 32, 105, 32, 60, 32, 50, 32, 123] 4 ++ [32, 102, 111, 114, 32, 105, 32, 60, 32, 50, 32, 123] ++ []) [125] 4 ++ [125, 125]) 120 = some (16, 5) := by decide +kernel
end Go.Proofs.YtkeehpgnljieeaaDoor.PP
