/- The contract of the law's decimal. -/
import Derived.Test.YtaaaicpjlaeiiaaDoorLawLimits
import Derived.Test.YtaaaicpjlaeiiaaDoorPlainNum2
import Derived.Laws.IdiomStrings
namespace Go.Proofs.YtaaaicpjlaeiiaaDoor
open Go.RowKit Go.Maps
open PP (Tree ArrD TaskD ProgD)

theorem conv_dig (k : Nat) (x : Int) (hx : x = 48 + (k : Int) % 10) (w : World) : (convert 43 9 (.slice (some ⟨w.heap.size, 0, none⟩) 1 1)).run Tryd.prog (w.alloc (.cells #[.int .u8 x] 5)) = .ok (.string ⟨#[PP.dig k]⟩) (w.alloc (.cells #[.int .u8 x] 5)) := by
  refine run_convert_bytes_back _ 43 9 5 ⟨w.heap.size, 0, none⟩ 1 [PP.dig k] Tryd.underlying43 Tryd.underlying5 Tryd.underlying9 (fun j hj => ?_)
  obtain rfl : j = 0 := by simp at hj; omega
  have h1 : ((PP.dig k).toNat : Int) = x := by
    have : ∀ i, i < 10 → ((UInt8.ofNat (48 + i)).toNat : Int) = 48 + (i : Int) := by decide
    have h2 := this (k % 10) (Nat.mod_lt _ (by omega))
    rw [hx]; unfold PP.dig; rw [h2]; omega
  have h2 := Blk.new w 5 #[.int .u8 x]
  have h3 := h2.cell 0
  simp only [List.getElem_cons_zero]
  rw [h1]; exact h3
def DecEnd (n : Nat) (w : World) (s m : Value) (wr : World) : Prop := ∃ k S, m = .int .i64 ((k : Nat) : Int) ∧ s = .string S ∧ PP.DecRel n k (S : ByteArray).data.toList ∧ k ≤ n ∧ Below w.heap.size w wr
section
set_option maxHeartbeats 2000000
set_option maxRecDepth 100000
theorem decimal_any (n : Nat) (w : World) (hn : n ≤ 4294967295) : Calls Tryd.prog 31 #[.int .i64 (n : Int)] w fun e w' => e = .returned (.string ⟨(PP.dec n).toArray⟩) ∧ Below w.heap.size w w' := by
  have hcv := conv_dig n _ rfl w
  generalize hD : PP.dec n = D
  have HD := Lib.hid hD
  clear hD
  go_enter Tryd.func31, Tryd.ntmps31
  go_wp2_with fail
  clear hcv
  go_loopw [0, 3] (fun m s wr => DecEnd n w s m wr) (fun m _ _ => (intOf m).toNat)
  case atStart => exact ⟨n, ⟨#[PP.dig n]⟩, rfl, rfl, PP.DecRel.start n (by omega), Nat.le_refl _, (Below.refl _ _).alloc (Nat.le_refl _) _⟩
  case round =>
    obtain ⟨k, S, rfl, rfl, hrel, hk, hbr⟩ := hrel
    have hsz := hbr.size
    have hll : S.size ≤ 20 := by
      obtain ⟨f, _, _, h3⟩ := hrel
      rw [Lib.size_eq]; omega
    by_cases hlt : 9 < k
    · have hcv := conv_dig (k / 10) (48 + (k : Int) / 10 % 10) (by omega) wr
      have HN := Lib.hid (show PP.DecRel n (k / 10) ((⟨#[PP.dig (k / 10)]⟩ : ByteArray) ++ S).data.toList by rw [ByteArray.data_append]; simpa using hrel.next hlt)
      clear hrel
      go_wp2_with fail
      go_roundw
      case rel => exact ⟨k / 10, _, by go_num, rfl, HN.out, by omega, hbr.alloc hsz _⟩
      case measure => simp [intOf]; omega
    · have hs := hrel.stop (by omega)
      rw [HD.out] at hs
      have hS : S = ⟨D.toArray⟩ := by rw [hs]
      have HS := Lib.hid hS
      clear hs hS
      clear hrel
      go_wp2_with fail
      go_ret
      exact ⟨by rw [HS.out]; rfl, hbr⟩
end
end Go.Proofs.YtaaaicpjlaeiiaaDoor
