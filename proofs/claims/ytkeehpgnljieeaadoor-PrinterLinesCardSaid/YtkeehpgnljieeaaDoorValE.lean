/- The contract of ast.isSmall. -/
import Derived.Test.YtkeehpgnljieeaaDoorValD
namespace Go.Proofs.YtkeehpgnljieeaaDoor
open Go.RowKit Go.Maps
open PP (Tree ArrD TaskD ProgD)
def SmallEnd (lb : Nat) (t : Tree) (d : Nat) (L : Int) (W : World) (e : Ending) (w' : World) : Prop :=
  ∃ L' : Int, e = .returned (.bool (decide (t.depth ≤ d) && decide ((t.size : Int) ≤ L))) ∧ Fr lb W w' ∧ Blk w' lb 3 #[.int .i64 L'] ∧ (t.depth ≤ d → (t.size : Int) ≤ L → L' = L - t.size)
def SmallRel (kids : List Tree) (lb : Nat) (d : Nat) (L : Int) (w0 : World) (i : Value) (wr : World) : Prop :=
  ∃ j : Nat, j ≤ kids.length ∧ i = .int .i64 (j : Int) ∧ Fr lb w0 wr ∧ Blk wr lb 3 #[.int .i64 (L - 1 - (PP.sizeL (kids.take j) : Int))] ∧ PP.depthL (kids.take j) + 1 ≤ d ∧ (1 + PP.sizeL (kids.take j) : Int) ≤ L
theorem PP.depth_mem {l : List Tree} {t : Tree} (h : t ∈ l) : t.depth ≤ PP.depthL l := by
  induction l with
  | nil => simp at h
  | cons a l ih =>
    simp only [PP.depthL]
    rcases List.mem_cons.1 h with rfl | h
    · omega
    · have := ih h; omega
section
set_option maxHeartbeats 4000000
set_option maxRecDepth 100000
end
end Go.Proofs.YtkeehpgnljieeaaDoor
