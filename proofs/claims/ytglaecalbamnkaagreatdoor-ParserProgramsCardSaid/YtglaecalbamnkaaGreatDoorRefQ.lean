/- The contracts of the reference printer's level and Expr. -/
import Derived.Test.YtglaecalbamnkaaGreatDoorRefP
import Derived.Deep.RegionHeld3
import Derived.Deep.RegionWith
import Derived.BigRegion
namespace Go.Proofs.YtglaecalbamnkaaGreatDoor
open Go.RowKit
open PP (Tree)
theorem levCells_at {k : Nat} (h1 : 4 ≤ k) (h2 : k ≤ 23) : levCells[k - 4]? = some (.int .i64 (PP.level k : Int)) := by
  obtain ⟨i, rfl⟩ : ∃ i, k = i + 4 := ⟨k - 4, by omega⟩
  have hi : i < 20 := by omega
  simp [levCells, hi]
theorem symCells_at {k : Nat} (h1 : 4 ≤ k) (h2 : k ≤ 23) : symCells[k - 4]? = some (.string ⟨(PP.symbol k).toArray⟩) := by
  obtain ⟨i, rfl⟩ : ∃ i, k = i + 4 := ⟨k - 4, by omega⟩
  have hi : i < 20 := by omega
  simp [symCells, hi]
section
set_option maxHeartbeats 1000000
set_option maxRecDepth 100000
theorem levels_ex (w : World) : Calls Tryz.prog 105 #[] w fun e w' => ∃ g, e = .returned (.slice (some ⟨g, 0, none⟩) 20 20) ∧ Blk w' g 3 levCells ∧ Below w.heap.size w w' :=
  (levels_any w).mono fun _ _ ⟨h1, h2⟩ => ⟨_, h1, by rw [h2]; exact Blk.new _ _ _, by rw [h2]; exact (Below.refl _ _).alloc (Nat.le_refl _) _⟩
theorem symbols_ex (w : World) : Calls Tryz.prog 108 #[] w fun e w' => ∃ g, e = .returned (.slice (some ⟨g, 0, none⟩) 20 20) ∧ Blk w' g 9 symCells ∧ Below w.heap.size w w' :=
  (symbols_any w).mono fun _ _ ⟨h1, h2⟩ => ⟨_, h1, by rw [h2]; exact Blk.new _ _ _, by rw [h2]; exact (Below.refl _ _).alloc (Nat.le_refl _) _⟩
theorem wrap_u8 {x : Int} (h1 : 0 ≤ x) (h2 : x ≤ 255) : IntKind.u8.wrap x = x := by
  unfold IntKind.wrap
  simp [IntKind.bits, IntKind.signed]
  omega
end
end Go.Proofs.YtglaecalbamnkaaGreatDoor
