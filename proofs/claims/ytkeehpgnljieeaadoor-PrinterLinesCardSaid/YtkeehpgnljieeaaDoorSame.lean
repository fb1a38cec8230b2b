/- The contract of ast.Same at two equal programs. -/
import Derived.Test.YtkeehpgnljieeaaDoorSame0
import Derived.Test.YtkeehpgnljieeaaDoorEq
namespace Go.Proofs.YtkeehpgnljieeaaDoor
open Go.RowKit Go.Maps
open PP (Tree ArrD TaskD ProgD)
/-- A slice value reads as a list of cells. -/
def Row (w : World) (A : Option Addr) (xs : List Value) : Prop := xs ≠ [] → ∃ b o, A = some ⟨b, o, none⟩ ∧ b < w.heap.size ∧ ∀ i v, xs[i]? = some v → w.cell? ⟨b, o + i, none⟩ = some v
theorem Row.below {w w' : World} {A : Option Addr} {xs : List Value} (h : Row w A xs) (hb : Below w.heap.size w w') : Row w' A xs := fun hn => by
  obtain ⟨b, o, rfl, hlt, hc⟩ := h hn
  exact ⟨b, o, rfl, Nat.lt_of_lt_of_le hlt hb.size, fun i v hi => (hb.cell (p := ⟨b, o + i, none⟩) hlt).trans (hc i v hi)⟩
theorem arr_at {ar : List ArrD} {i : Nat} {a : ArrD} (h : ar[i]? = some a) : (arrCells ar)[i * 2]? = some (.string ⟨a.name.toArray⟩) ∧ (arrCells ar)[i * 2 + 1]? = some (.int .i64 a.len) := by
  induction ar generalizing i with
  | nil => simp at h
  | cons b ar ih =>
    cases i with
    | zero => simp at h; subst h; simp [arrCells]
    | succ i =>
      obtain ⟨h0, h1⟩ := ih (i := i) (by simpa using h)
      have e : arrCells (b :: ar) = [Value.string ⟨b.name.toArray⟩, Value.int .i64 b.len] ++ arrCells ar := by simp [arrCells]
      rw [e]
      refine ⟨?_, ?_⟩
      · rw [List.getElem?_append_right (by simp; omega), show (i + 1) * 2 - [Value.string ⟨b.name.toArray⟩, Value.int .i64 b.len].length = i * 2 from by simp; omega]; exact h0
      · rw [List.getElem?_append_right (by simp; omega), show (i + 1) * 2 + 1 - [Value.string ⟨b.name.toArray⟩, Value.int .i64 b.len].length = i * 2 + 1 from by simp; omega]; exact h1
theorem Row.arr {w : World} {A : Option Addr} {ar : List ArrD} (h : Row w A (arrCells ar)) (hn : ar ≠ []) : ∃ b o, A = some ⟨b, o, none⟩ ∧ b < w.heap.size ∧ ∀ i a, ar[i]? = some a → w.cell? ⟨b, o + i * 2, none⟩ = some (.string ⟨a.name.toArray⟩) ∧ w.cell? ⟨b, o + i * 2 + 1, none⟩ = some (.int .i64 a.len) := by
  obtain ⟨b, o, h1, h2, h3⟩ := h (by cases ar with | nil => exact absurd rfl hn | cons a ar => simp [arrCells])
  exact ⟨b, o, h1, h2, fun i a hi => ⟨h3 _ _ (arr_at hi).1, h3 _ _ (arr_at hi).2⟩⟩
theorem Row.str {w : World} {A : Option Addr} {vs : List (List UInt8)} (h : Row w A (strCells vs)) (hn : vs ≠ []) : ∃ b o, A = some ⟨b, o, none⟩ ∧ b < w.heap.size ∧ ∀ i a, vs[i]? = some a → w.cell? ⟨b, o + i, none⟩ = some (.string ⟨a.toArray⟩) := by
  obtain ⟨b, o, h1, h2, h3⟩ := h (by cases vs with | nil => exact absurd rfl hn | cons a ar => simp [strCells])
  exact ⟨b, o, h1, h2, fun i a hi => h3 _ _ (by simp [strCells, hi])⟩
section
set_option maxHeartbeats 2000000
set_option maxRecDepth 100000
end
end Go.Proofs.YtkeehpgnljieeaaDoor
