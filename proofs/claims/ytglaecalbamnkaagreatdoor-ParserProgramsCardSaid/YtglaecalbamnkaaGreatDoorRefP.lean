/- The contracts of the reference printer's small functions. -/
import Derived.Test.YtglaecalbamnkaaGreatDoorPrA
import Derived.Lib.QuietBelow
namespace Go.Proofs.YtglaecalbamnkaaGreatDoor
open Go.RowKit
open PP (Tree)
section
set_option maxHeartbeats 1000000
set_option maxRecDepth 100000
def symCells : Array Value := ((List.range 20).map fun i => Value.string ⟨(PP.symbol (i + 4)).toArray⟩).toArray
def levCells : Array Value := ((List.range 20).map fun i => Value.int .i64 (PP.level (i + 4) : Int)).toArray
theorem symbols_any (w : World) : Calls Tryz.prog 108 #[] w fun e w' => e = .returned (.slice (some ⟨w.heap.size, 0, none⟩) 20 20) ∧ w' = w.alloc (.cells symCells 9) := by
  go_enter Tryz.func108, Tryz.ntmps108
  go_wp2_with fail
  go_ret
  exact ⟨rfl, rfl⟩
theorem levels_any (w : World) : Calls Tryz.prog 105 #[] w fun e w' => e = .returned (.slice (some ⟨w.heap.size, 0, none⟩) 20 20) ∧ w' = w.alloc (.cells levCells 3) := by
  go_enter Tryz.func105, Tryz.ntmps105
  go_wp2_with fail
  go_ret
  exact ⟨rfl, rfl⟩
theorem str_eq {a : ByteArray} {l : List UInt8} (h : a.data.toList = l) : Ending.returned (.string a) = .returned (.string ⟨l.toArray⟩) := by
  subst h; rfl
theorem dec_digits {n : Nat} (h : n ≤ 2147483647) : PP.dec n = Lib.decDigits n := (digits_dec 19 n (by omega)).symm
theorem dec_small {n : Nat} (h : n < 10) : PP.dec n = [PP.dig n] := by
  rw [dec_digits (by omega), Lib.decDigits, dif_pos h]
  unfold PP.dig
  rw [Nat.mod_eq_of_lt h]
theorem dec_step {n : Nat} (h : ¬ n < 10) (h2 : n ≤ 2147483647) : PP.dec n = PP.dec (n / 10) ++ [PP.dig n] := by
  rw [dec_digits h2, dec_digits (by omega), Lib.decDigits, dif_neg h]; rfl
theorem dig_extract (n : Nat) : (⟨#[48, 49, 50, 51, 52, 53, 54, 55, 56, 57]⟩ : ByteArray).extract (n % 10) (n % 10 + 1) = ⟨#[PP.dig n]⟩ := by
  unfold PP.dig
  have h : n % 10 < 10 := Nat.mod_lt _ (by omega)
  generalize n % 10 = m at h
  match m, h with
  | 0, _ => rfl
  | 1, _ => rfl
  | 2, _ => rfl
  | 3, _ => rfl
  | 4, _ => rfl
  | 5, _ => rfl
  | 6, _ => rfl
  | 7, _ => rfl
  | 8, _ => rfl
  | 9, _ => rfl
  | m + 10, h => omega
end
end Go.Proofs.YtglaecalbamnkaaGreatDoor
