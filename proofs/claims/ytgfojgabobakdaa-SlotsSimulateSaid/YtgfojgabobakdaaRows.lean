/-
  No cell of these rows narrows 'for every input' (looked for: loops, veiled, ifaces, maps, wideKeys, modest, calm, conditions, laid).
  DERIVED. THE GIVEN ROWS OF THIS SEAT. 5 by the template 'for every input the law returns true; each argument reads behind the call as it read before'; 0 by the template 'total and deterministic' (their statements: YtgfojgabobakdaaTotals.lean).
  GIVEN WITH THE SEED: the statements are not yours to turn. If you find one false, say at which input.
  Laid BY PROGRAM, IN A SANDBOX (cutbox-rows.mjs): the forced cells as the released guide's own fill.sh prints them over the translation 7bffc3e2969ae85d… (all of the seat's roots in one cut). By AI agents, Wed Nov 11 2026. No macro, syntax, notation, axiom, sorry.
-/
import Derived.Test.YtgfojgabobakdaaChecked
import GoSem.Claim
import GoSem.ClaimJoined
import GoSem.ClaimMapViews
import Derived.JoinedTies
import Derived.KernelRfl
namespace Go.Proofs.Ytgfojgabobakdaa
/- THE CELL 'sum', in the pinned program and in every row, IS THE sha256 OF THE DUMP (.gsa) THAT YtgfojgabobakdaaProg.lean LOADS. Nothing in Lean hashes anything: it is a label: what it is worth is what the hold of that sum in a sandbox is worth. -/
noncomputable def Try.pinned : Pinned := { name := "ytgfojgabobakdaa", sum := "7bffc3e2969ae85de0bffec65e3194864748238502e9c87e1fb933718914b169", checked := Try.checked }
namespace Rows
def none {H : Type} : Left H := { results := [], args := [] }

/-- 'ontimelaw46.SlotsSimulate': WHATEVER THE INPUT: true; the input reads as it did. -/
def slotsSimulateSpec : ChangeSpec := { name := "slotsSimulate", fn := fun _ => fun
  | [d] => { results := [.lit (.bool true)], args := [d] }
  | _ => none }
def slotsSimulateRow : OpenClaim := { program := "ytgfojgabobakdaa", sum := "7bffc3e2969ae85de0bffec65e3194864748238502e9c87e1fb933718914b169", func := "ontime/ontimelaw46.SlotsSimulate", spec := "slotsSimulate", unfollowed := true, recurses := true, apart := false }
def SlotsSimulateSaid : Prop := slotsSimulateRow.holds Try.pinned (OpenSpec.ofChange slotsSimulateSpec)

/-- ITS FALSE NEIGHBOUR: 'it returns false'. Refute it at one input. -/
def slotsSimulateWrong : ChangeSpec := { name := "slotsSimulate", fn := fun _ => fun
  | [d] => { results := [.lit (.bool false)], args := [d] }
  | _ => none }
def SlotsSimulateWrongFalsely : Prop := slotsSimulateRow.holds Try.pinned (OpenSpec.ofChange slotsSimulateWrong)

/-- 'ontimelaw46.SlotsCausal': WHATEVER THE INPUT: true; the input reads as it did. -/
def slotsCausalSpec : ChangeSpec := { name := "slotsCausal", fn := fun _ => fun
  | [d1, d2] => { results := [.lit (.bool true)], args := [d1, d2] }
  | _ => none }
def slotsCausalRow : OpenClaim := { program := "ytgfojgabobakdaa", sum := "7bffc3e2969ae85de0bffec65e3194864748238502e9c87e1fb933718914b169", func := "ontime/ontimelaw46.SlotsCausal", spec := "slotsCausal", unfollowed := true, recurses := true, apart := false }
def SlotsCausalSaid : Prop := slotsCausalRow.holds Try.pinned (OpenSpec.ofChange slotsCausalSpec)

/-- ITS FALSE NEIGHBOUR: 'it returns false'. Refute it at one input. -/
def slotsCausalWrong : ChangeSpec := { name := "slotsCausal", fn := fun _ => fun
  | [d1, d2] => { results := [.lit (.bool false)], args := [d1, d2] }
  | _ => none }
def SlotsCausalWrongFalsely : Prop := slotsCausalRow.holds Try.pinned (OpenSpec.ofChange slotsCausalWrong)

/-- 'ontimelaw46.SlotsPreempts': WHATEVER THE INPUT: true; the input reads as it did. -/
def slotsPreemptsSpec : ChangeSpec := { name := "slotsPreempts", fn := fun _ => fun
  | [d1, d2, d3] => { results := [.lit (.bool true)], args := [d1, d2, d3] }
  | _ => none }
def slotsPreemptsRow : OpenClaim := { program := "ytgfojgabobakdaa", sum := "7bffc3e2969ae85de0bffec65e3194864748238502e9c87e1fb933718914b169", func := "ontime/ontimelaw46.SlotsPreempts", spec := "slotsPreempts", unfollowed := true, recurses := true, apart := false }
def SlotsPreemptsSaid : Prop := slotsPreemptsRow.holds Try.pinned (OpenSpec.ofChange slotsPreemptsSpec)

/-- ITS FALSE NEIGHBOUR: 'it returns false'. Refute it at one input. -/
def slotsPreemptsWrong : ChangeSpec := { name := "slotsPreempts", fn := fun _ => fun
  | [d1, d2, d3] => { results := [.lit (.bool false)], args := [d1, d2, d3] }
  | _ => none }
def SlotsPreemptsWrongFalsely : Prop := slotsPreemptsRow.holds Try.pinned (OpenSpec.ofChange slotsPreemptsWrong)

/-- 'ontimelaw46.SlotsCheck': WHATEVER THE INPUT: true; the input reads as it did. -/
def slotsCheckSpec : ChangeSpec := { name := "slotsCheck", fn := fun _ => fun
  | [d1, d2] => { results := [.lit (.bool true)], args := [d1, d2] }
  | _ => none }
def slotsCheckRow : OpenClaim := { program := "ytgfojgabobakdaa", sum := "7bffc3e2969ae85de0bffec65e3194864748238502e9c87e1fb933718914b169", func := "ontime/ontimelaw46.SlotsCheck", spec := "slotsCheck", unfollowed := true, recurses := true, apart := false }
def SlotsCheckSaid : Prop := slotsCheckRow.holds Try.pinned (OpenSpec.ofChange slotsCheckSpec)

/-- ITS FALSE NEIGHBOUR: 'it returns false'. Refute it at one input. -/
def slotsCheckWrong : ChangeSpec := { name := "slotsCheck", fn := fun _ => fun
  | [d1, d2] => { results := [.lit (.bool false)], args := [d1, d2] }
  | _ => none }
def SlotsCheckWrongFalsely : Prop := slotsCheckRow.holds Try.pinned (OpenSpec.ofChange slotsCheckWrong)

/-- 'ontimelaw46.SlotsChecked': WHATEVER THE INPUT: true; the input reads as it did. -/
def slotsCheckedSpec : ChangeSpec := { name := "slotsChecked", fn := fun _ => fun
  | [d] => { results := [.lit (.bool true)], args := [d] }
  | _ => none }
def slotsCheckedRow : OpenClaim := { program := "ytgfojgabobakdaa", sum := "7bffc3e2969ae85de0bffec65e3194864748238502e9c87e1fb933718914b169", func := "ontime/ontimelaw46.SlotsChecked", spec := "slotsChecked", unfollowed := true, recurses := true, apart := false }
def SlotsCheckedSaid : Prop := slotsCheckedRow.holds Try.pinned (OpenSpec.ofChange slotsCheckedSpec)

/-- ITS FALSE NEIGHBOUR: 'it returns false'. Refute it at one input. -/
def slotsCheckedWrong : ChangeSpec := { name := "slotsChecked", fn := fun _ => fun
  | [d] => { results := [.lit (.bool false)], args := [d] }
  | _ => none }
def SlotsCheckedWrongFalsely : Prop := slotsCheckedRow.holds Try.pinned (OpenSpec.ofChange slotsCheckedWrong)

/- THE SECOND FORM. 'bulk': how many values and letters a reading holds, each counted each time it is reached (what is shared counts as often as it is met; a slice's spare places count too). A statement '..UptoSaid' is the law's where the arguments, and the package variables that the reading takes, are together of bulk at most 1048576: NARROWER than '..Said'. Prove '..Said' where nothing that the law and all that it calls make is longer than what came in: it says more and counts as full. Else prove '..UptoSaid'. A law counts once. -/
mutual
def uptoBulk {H : Type} : DataW H → Nat
  | .lit (.string bytes) => bytes.length + 1
  | .lit _ => 1
  | .nil => 1
  | .ptr d => uptoBulk d + 1
  | .slice elems spare => uptoBulkAll elems + uptoBulkAll spare + 1
  | .agg parts => uptoBulkAll parts + 1
  | .iface _ d => uptoBulk d + 1
  | .map entries => uptoBulkEntries entries + 1
  | .held _ => 1
def uptoBulkAll {H : Type} : List (DataW H) → Nat
  | [] => 0
  | d :: r => uptoBulk d + uptoBulkAll r
def uptoBulkEntries {H : Type} : List (Lit × DataW H) → Nat
  | [] => 0
  | x :: r => uptoBulkEntry x + uptoBulkEntries r
def uptoBulkEntry {H : Type} : Lit × DataW H → Nat
  | (.string bytes, d) => bytes.length + uptoBulk d + 1
  | (_, d) => uptoBulk d + 1
 end
def uptoSmall : (H : Type) → List (DataW H) → Bool := fun _ ds => decide (uptoBulkAll ds ≤ 1048576)
def OpenSpec.upto (s : _root_.Go.ChangeSpec) : _root_.Go.OpenSpec := { _root_.Go.OpenSpec.ofChange s with cond := some uptoSmall }

/-- 'ontimelaw46.SlotsSimulate', WHERE WHAT IT READS IS OF BULK AT MOST 1048576: true; the input reads as it did. -/
def slotsSimulateUptoRow : OpenClaim := { program := "ytgfojgabobakdaa", sum := "7bffc3e2969ae85de0bffec65e3194864748238502e9c87e1fb933718914b169", func := "ontime/ontimelaw46.SlotsSimulate", spec := "slotsSimulate", unfollowed := true, recurses := true, apart := false, narrowed := true }
def SlotsSimulateUptoSaid : Prop := slotsSimulateUptoRow.holds Try.pinned (OpenSpec.upto slotsSimulateSpec)

/-- 'ontimelaw46.SlotsCausal', WHERE WHAT IT READS IS OF BULK AT MOST 1048576: true; the input reads as it did. -/
def slotsCausalUptoRow : OpenClaim := { program := "ytgfojgabobakdaa", sum := "7bffc3e2969ae85de0bffec65e3194864748238502e9c87e1fb933718914b169", func := "ontime/ontimelaw46.SlotsCausal", spec := "slotsCausal", unfollowed := true, recurses := true, apart := false, narrowed := true }
def SlotsCausalUptoSaid : Prop := slotsCausalUptoRow.holds Try.pinned (OpenSpec.upto slotsCausalSpec)

/-- 'ontimelaw46.SlotsPreempts', WHERE WHAT IT READS IS OF BULK AT MOST 1048576: true; the input reads as it did. -/
def slotsPreemptsUptoRow : OpenClaim := { program := "ytgfojgabobakdaa", sum := "7bffc3e2969ae85de0bffec65e3194864748238502e9c87e1fb933718914b169", func := "ontime/ontimelaw46.SlotsPreempts", spec := "slotsPreempts", unfollowed := true, recurses := true, apart := false, narrowed := true }
def SlotsPreemptsUptoSaid : Prop := slotsPreemptsUptoRow.holds Try.pinned (OpenSpec.upto slotsPreemptsSpec)

/-- 'ontimelaw46.SlotsCheck', WHERE WHAT IT READS IS OF BULK AT MOST 1048576: true; the input reads as it did. -/
def slotsCheckUptoRow : OpenClaim := { program := "ytgfojgabobakdaa", sum := "7bffc3e2969ae85de0bffec65e3194864748238502e9c87e1fb933718914b169", func := "ontime/ontimelaw46.SlotsCheck", spec := "slotsCheck", unfollowed := true, recurses := true, apart := false, narrowed := true }
def SlotsCheckUptoSaid : Prop := slotsCheckUptoRow.holds Try.pinned (OpenSpec.upto slotsCheckSpec)

/-- 'ontimelaw46.SlotsChecked', WHERE WHAT IT READS IS OF BULK AT MOST 1048576: true; the input reads as it did. -/
def slotsCheckedUptoRow : OpenClaim := { program := "ytgfojgabobakdaa", sum := "7bffc3e2969ae85de0bffec65e3194864748238502e9c87e1fb933718914b169", func := "ontime/ontimelaw46.SlotsChecked", spec := "slotsChecked", unfollowed := true, recurses := true, apart := false, narrowed := true }
def SlotsCheckedUptoSaid : Prop := slotsCheckedUptoRow.holds Try.pinned (OpenSpec.upto slotsCheckedSpec)

end Rows
end Go.Proofs.Ytgfojgabobakdaa
