/- AsmFull: the texts and the code at the limits. -/
import Derived.Test.YtgeagpplihecmaaDoorPlainAsm4
namespace Go.Proofs.YtgeagpplihecmaaDoor.AS
def zeros (n : Nat) : List Ins := List.replicate n Ins.zero
theorem zero_valid : valid Ins.zero = true := by decide
theorem zeros_valid (n : Nat) : (zeros n).all valid = true := by
  rw [List.all_eq_true]
  intro i hi
  rw [List.eq_of_mem_replicate hi]
  exact zero_valid
theorem zeros_len (n : Nat) : (zeros n).length = n := List.length_replicate
theorem line_zero : line Ins.zero = [110, 111, 112, 10] := by decide
theorem fmtL_zeros : ∀ n, (fmtL (zeros n)).length = 4 * n
  | 0 => rfl
  | n + 1 => by
    have h := fmtL_zeros n
    unfold zeros fmtL at h ⊢
    rw [List.replicate_succ, List.flatMap_cons, List.length_append, h, line_zero]
    simp; omega
theorem fmt_zeros : fmt (zeros 4096) = (fmtL (zeros 4096), 0) := by
  unfold fmt
  rw [if_neg (by rw [zeros_len]; omega), if_pos (zeros_valid _)]
theorem fmt_zeros1 : fmt (zeros 4097) = ([], 5) := by
  unfold fmt
  rw [if_pos (by rw [zeros_len]; omega)]
theorem parse_zeros : parse (fmtL (zeros 4096)) = (zeros 4096, 0, 0) := parse_fmt (zeros_valid _) (by rw [zeros_len]; omega) (by rw [fmtL_zeros]; omega)
theorem parse_zeros1 : parse (fmtL (zeros 4096) ++ [110, 111, 112]) = ([], 4097, 5) := by
  unfold parse
  rw [if_neg (by rw [List.length_append, fmtL_zeros]; simp), lines_fmt _ (zeros_valid _), rdLines_fmt _ (zeros_valid _) _ 0 [] (by rw [zeros_len]; simp)]
  rw [show lines [] [110, 111, 112] = [[110, 111, 112]] from by decide, rdLines, show words [110, 111, 112] = [[110, 111, 112]] from by decide]
  show (match rdLine [110, 111, 112] [] with | none => ([], 0 + (zeros 4096).length + 1, 3) | some i => if ([] ++ zeros 4096).length = 4096 then ([], 0 + (zeros 4096).length + 1, 5) else rdLines [] (0 + (zeros 4096).length + 1) ([] ++ zeros 4096 ++ [i])) = _
  rw [show rdLine [110, 111, 112] [] = some Ins.zero from by decide]
  rw [List.nil_append, zeros_len]
  rfl
theorem lines_spaces : ∀ (n : Nat) (cur : Bytes), lines cur (List.replicate n 32) = [cur ++ List.replicate n 32]
  | 0, cur => by simp [lines]
  | n + 1, cur => by
    rw [List.replicate_succ, lines, if_neg (by decide), lines_spaces n (cur ++ [32])]
    simp
theorem words_spaces (n : Nat) : words (List.replicate n 32) = [] := by
  unfold words
  rw [cutC_no _ (fun b hb => by rw [List.eq_of_mem_replicate hb]; decide)]
  induction n with
  | zero => rfl
  | succ n ih => rw [List.replicate_succ, flds]; exact ih
theorem parse_spaces {n : Nat} (h : n ≤ 65536) : parse (List.replicate n 32) = ([], 0, 0) := by
  unfold parse
  rw [if_neg (by simp; omega), lines_spaces, rdLines, List.nil_append, words_spaces]
  rfl
theorem parse_spaces1 {n : Nat} (h : 65536 < n) : parse (List.replicate n 32) = ([], 0, 5) := by
  unfold parse
  rw [if_pos (by simpa using h)]
end Go.Proofs.YtgeagpplihecmaaDoor.AS
