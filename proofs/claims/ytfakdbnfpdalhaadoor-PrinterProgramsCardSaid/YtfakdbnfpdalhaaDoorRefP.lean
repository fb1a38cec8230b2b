/- The contracts of the reference printer's small functions. -/
import Derived.Test.YtfakdbnfpdalhaaDoorPrA
import Derived.Lib.QuietBelow
namespace Go.Proofs.YtfakdbnfpdalhaaDoor
open Go.RowKit
open PP (Tree)
section
set_option maxHeartbeats 1000000
set_option maxRecDepth 100000
def symCells : Array Value := ((List.range 20).map fun i => Value.string ⟨(PP.symbol (i + 4)).toArray⟩).toArray
def levCells : Array Value := ((List.range 20).map fun i => Value.int .i64 (PP.level (i + 4) : Int)).toArray
theorem symbols_any (w : World) : Calls Tryd.prog 31 #[] w fun e w' => e = .returned (.slice (some ⟨w.heap.size, 0, none⟩) 20 20) ∧ w' = w.alloc (.cells symCells 9) := by
  go_enter Tryd.func31, Tryd.ntmps31
  go_wp2_with fail
  go_ret
  exact ⟨rfl, rfl⟩
theorem levels_any (w : World) : Calls Tryd.prog 68 #[] w fun e w' => e = .returned (.slice (some ⟨w.heap.size, 0, none⟩) 20 20) ∧ w' = w.alloc (.cells levCells 3) := by
  go_enter Tryd.func68, Tryd.ntmps68
  go_wp2_with fail
  go_ret
  exact ⟨rfl, rfl⟩
theorem str_eq {a : ByteArray} {l : List UInt8} (h : a.data.toList = l) : Ending.returned (.string a) = .returned (.string ⟨l.toArray⟩) := by
  subst h; rfl
theorem dec_digits {n : Nat} (h : n ≤ 2147483647) : PP.dec n = Lib.decDigits n := (digits_dec 19 n (by omega)).symm
theorem dec_small {n : Nat} (h : n < 10) : PP.dec n = [PP.dig n] := by
  rw [dec_digits (by omega), Lib.decDigits, dif_pos h]
  unfold PP.dig
  rw [Nat.mod_eq_of_lt h]
theorem dec_step {n : Nat} (h : ¬ n < 10) (h2 : n ≤ 2147483647) : PP.dec n = PP.dec (n / 10) ++ [PP.dig n] := by
  rw [dec_digits h2, dec_digits (by omega), Lib.decDigits, dif_neg h]; rfl
theorem dig_extract (n : Nat) : (⟨#[48, 49, 50, 51, 52, 53, 54, 55, 56, 57]⟩ : ByteArray).extract (n % 10) (n % 10 + 1) = ⟨#[PP.dig n]⟩ := by
  unfold PP.dig
  have h : n % 10 < 10 := Nat.mod_lt _ (by omega)
  generalize n % 10 = m at h
  match m, h with
  | 0, _ => rfl
  | 1, _ => rfl
  | 2, _ => rfl
  | 3, _ => rfl
  | 4, _ => rfl
  | 5, _ => rfl
  | 6, _ => rfl
  | 7, _ => rfl
  | 8, _ => rfl
  | 9, _ => rfl
  | m + 10, h => omega
theorem wrap14 (s : ByteArray) (p : Bool) (w : World) (hs : s.size ≤ 1000000000) : Calls Tryd.prog 33 #[.string s, .bool p] w fun e w' => e = .returned (.string ⟨(PP.wrapP p s.data.toList).toArray⟩) ∧ w = w' := by
  cases p with
  | false =>
    go_enter Tryd.func33, Tryd.ntmps33
    go_wp2_with fail
    go_ret
    exact ⟨rfl, rfl⟩
  | true =>
    go_enter Tryd.func33, Tryd.ntmps33
    go_wp2_with fail
    go_ret
    exact ⟨str_eq (by simp [PP.wrapP, ByteArray.data_append]), rfl⟩
theorem decimal14 : ∀ (n : Nat) (w : World), n ≤ 2147483647 → Calls Tryd.prog 30 #[.int .i64 (n : Int)] w fun e w' => e = .returned (.string ⟨(PP.dec n).toArray⟩) ∧ w = w' := by
  intro n
  induction n using Nat.strongRecOn with
  | _ n ih =>
    intro w hn
    have hx := dig_extract n
    by_cases hlt : n < 10
    · have hd := dec_small hlt
      generalize PP.dec n = D at *
      subst hd
      clear ih
      go_enter Tryd.func30, Tryd.ntmps30
      go_wp2_with fail
      go_ret
      exact ⟨congrArg (fun x => Ending.returned (.string x)) hx, rfl⟩
    · have HD := Lib.hid (dec_step hlt hn)
      have hlen : (⟨(PP.dec (n / 10)).toArray⟩ : ByteArray).size ≤ 20 := by
        have := PP.dec_len (n / 10)
        simpa [ByteArray.size] using this
      have hc := ih (n / 10) (by omega) w (by omega)
      rw [show ((n / 10 : Nat) : Int) = (n : Int) / 10 from by omega] at hc
      have HX := Lib.hid hx
      have hlx : ((⟨#[48, 49, 50, 51, 52, 53, 54, 55, 56, 57]⟩ : ByteArray).extract (n % 10) (n % 10 + 1)).size = 1 := by rw [hx]; rfl
      have HT : Hid ((⟨(PP.dec (n / 10)).toArray⟩ : ByteArray).data.toList = PP.dec (n / 10)) := Lib.hid rfl
      generalize (⟨(PP.dec (n / 10)).toArray⟩ : ByteArray) = T at hc hlen HT
      have HC := Lib.hid hc
      clear ih hc hx
      go_enter Tryd.func30, Tryd.ntmps30
      go_wp2_with fail
      refine HC.out.mono ?_
      rintro e w' ⟨rfl, rfl⟩
      go_wp2_with fail
      go_ret
      refine ⟨str_eq ?_, rfl⟩
      rw [HX.out, HD.out, ByteArray.data_append, Array.toList_append, HT.out]
theorem binary14 (k : Nat) (num : Int) (nm : List UInt8) (A : Option Addr) (n c : Nat) (w : World) (hk : k ≤ 255) : Calls Tryd.prog 32 #[.agg #[.int .u8 (k : Int), .int .i64 num, .string ⟨nm.toArray⟩, .slice A n c]] w fun e w' => e = .returned (.bool (PP.bin k)) ∧ Below w.heap.size w w' := by
  have hb : Below w.heap.size w (w.alloc (.cells #[.int .u8 (k : Int), .int .i64 num, .string ⟨nm.toArray⟩, .slice A n c] 24)) := (Below.refl _ _).alloc (Nat.le_refl _) _
  unfold PP.bin
  by_cases h1 : 6 ≤ k
  · by_cases h2 : k ≤ 23
    · go_enter Tryd.func32, Tryd.ntmps32
      go_wp2_with fail
      go_ret
      exact ⟨by simp [h1, h2]; omega, hb⟩
    · go_enter Tryd.func32, Tryd.ntmps32
      go_wp2_with fail
      go_ret
      exact ⟨by simp [h2]; omega, hb⟩
  · go_enter Tryd.func32, Tryd.ntmps32
    go_wp2_with fail
    go_ret
    exact ⟨by simp, hb⟩
end
end Go.Proofs.YtfakdbnfpdalhaaDoor
