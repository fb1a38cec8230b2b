/- The contracts of ast.areArrays and ast.isSmall. -/
import Derived.Test.YtkeehpgnljieeaaDoorValC
import Derived.Test.YtkeehpgnljieeaaDoorSame2
namespace Go.Proofs.YtkeehpgnljieeaaDoor
open Go.RowKit Go.Maps
open PP (Tree ArrD TaskD ProgD)
theorem all_at {α : Type} {p : α → Bool} {l : List α} (h : ∀ (i : Nat) x, l[i]? = some x → p x = true) : l.all p = true := List.all_eq_true.2 fun x hx => by
  obtain ⟨i, hi⟩ := List.mem_iff_getElem?.1 hx
  exact h i x hi
theorem all_bad {α : Type} {p : α → Bool} {l : List α} {i : Nat} {x : α} (h : l[i]? = some x) (hp : p x = false) : l.all p = false := by
  rw [List.all_eq_false]
  exact ⟨x, List.mem_of_getElem? h, by simp [hp]⟩
section
set_option maxHeartbeats 2000000
set_option maxRecDepth 100000
def ArrRel (ar : List ArrD) (w : World) (i : Value) (wr : World) : Prop := ∃ j : Nat, j ≤ ar.length ∧ i = .int .i64 (j : Int) ∧ (∀ l t, l < j → ar[l]? = some t → PP.okArr t = true) ∧ Below w.heap.size w wr
def NmArr (ar : List ArrD) : Prop := ∀ a ∈ ar, a.name.length ≤ 65536
end
end Go.Proofs.YtkeehpgnljieeaaDoor
