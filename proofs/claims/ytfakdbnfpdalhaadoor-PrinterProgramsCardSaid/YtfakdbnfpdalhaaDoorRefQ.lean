/- The contracts of the reference printer's level and Expr. -/
import Derived.Test.YtfakdbnfpdalhaaDoorRefP
import Derived.Deep.RegionHeld3
import Derived.Deep.RegionWith
import Derived.BigRegion
namespace Go.Proofs.YtfakdbnfpdalhaaDoor
open Go.RowKit
open PP (Tree)
theorem levCells_at {k : Nat} (h1 : 4 ≤ k) (h2 : k ≤ 23) : levCells[k - 4]? = some (.int .i64 (PP.level k : Int)) := by
  obtain ⟨i, rfl⟩ : ∃ i, k = i + 4 := ⟨k - 4, by omega⟩
  have hi : i < 20 := by omega
  simp [levCells, hi]
theorem symCells_at {k : Nat} (h1 : 4 ≤ k) (h2 : k ≤ 23) : symCells[k - 4]? = some (.string ⟨(PP.symbol k).toArray⟩) := by
  obtain ⟨i, rfl⟩ : ∃ i, k = i + 4 := ⟨k - 4, by omega⟩
  have hi : i < 20 := by omega
  simp [symCells, hi]
section
set_option maxHeartbeats 1000000
set_option maxRecDepth 100000
theorem levels_ex (w : World) : Calls Tryd.prog 68 #[] w fun e w' => ∃ g, e = .returned (.slice (some ⟨g, 0, none⟩) 20 20) ∧ Blk w' g 3 levCells ∧ Below w.heap.size w w' :=
  (levels_any w).mono fun _ _ ⟨h1, h2⟩ => ⟨_, h1, by rw [h2]; exact Blk.new _ _ _, by rw [h2]; exact (Below.refl _ _).alloc (Nat.le_refl _) _⟩
theorem symbols_ex (w : World) : Calls Tryd.prog 31 #[] w fun e w' => ∃ g, e = .returned (.slice (some ⟨g, 0, none⟩) 20 20) ∧ Blk w' g 9 symCells ∧ Below w.heap.size w w' :=
  (symbols_any w).mono fun _ _ ⟨h1, h2⟩ => ⟨_, h1, by rw [h2]; exact Blk.new _ _ _, by rw [h2]; exact (Below.refl _ _).alloc (Nat.le_refl _) _⟩
theorem wrap_u8 {x : Int} (h1 : 0 ≤ x) (h2 : x ≤ 255) : IntKind.u8.wrap x = x := by
  unfold IntKind.wrap
  simp [IntKind.bits, IntKind.signed]
  omega
theorem level14 (k : Nat) (num : Int) (nm : List UInt8) (A : Option Addr) (n c : Nat) (w : World) (h1 : 4 ≤ k) (h2 : k ≤ 23) : Calls Tryd.prog 34 #[.agg #[.int .u8 (k : Int), .int .i64 num, .string ⟨nm.toArray⟩, .slice A n c]] w fun e w' => e = .returned (.int .i64 (PP.level k : Int)) ∧ Below w.heap.size w w' := by
  have hb : Below w.heap.size w (w.alloc (.cells #[.int .u8 (k : Int), .int .i64 num, .string ⟨nm.toArray⟩, .slice A n c] 24)) := (Below.refl _ _).alloc (Nat.le_refl _) _
  have hk := Blk.new w 24 #[.int .u8 (k : Int), .int .i64 num, .string ⟨nm.toArray⟩, .slice A n c]
  go_enter Tryd.func34, Tryd.ntmps34
  go_wp2_with fail
  generalize w.alloc (.cells #[.int .u8 (k : Int), .int .i64 num, .string ⟨nm.toArray⟩, .slice A n c] 24) = w6 at *
  have X := Lib.hid hk.four.1.1
  have Xd := Lib.hid (show w6.drew.cell? ⟨w.heap.size, 0, none⟩ = some (.int .u8 (k : Int)) from X.out)
  have HL := Lib.hid (levels_ex w6.drew)
  have HLT := Lib.hid (show w.heap.size < w6.drew.heap.size from hk.lt)
  have p0 : IntKind.u8.wrap ((k : Int) - 4) = (k : Int) - 4 := wrap_u8 (by omega) (by omega)
  have p1 : (0 : Int) ≤ (k : Int) - 4 := by omega
  have p2 : (k : Int) - 4 < 20 := by omega
  have p3 : ((k : Int) - 4).toNat = k - 4 := by omega
  clear hk
  have x0 := X.out
  go_region_with (first | (go_at_call 68; refine HL.out.mono ?_; rintro e w7 ⟨g, rfl, hg7, hb7⟩; have hc7 := (hg7.cell (k - 4)).trans (levCells_at h1 h2); have hl7 := hg7.lt; have hx7 := (hb7.cell (p := ⟨w.heap.size, 0, none⟩) HLT.out).trans Xd.out))
  all_goals
    clear p0 p1 p2 p3
    go_wp2_with fail
    go_ret
    exact ⟨rfl, hb.drew.trans (hb7.mono hb.drew.size)⟩
end
end Go.Proofs.YtfakdbnfpdalhaaDoor
