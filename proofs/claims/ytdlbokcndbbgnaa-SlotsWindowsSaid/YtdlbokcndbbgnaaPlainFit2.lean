/- Merged from PlainFit, PlainFit2. -/
import Derived.Test.YtdlbokcndbbgnaaPlainPD3
import Derived.Test.YtdlbokcndbbgnaaPlainBig2
/- The load of tasks as a fraction that is summed in lowest terms: plain law of taskset.Fits. -/
namespace Go.Proofs.Ytdlbokcndbbgnaa
theorem fit_step {N D N' D' N1 D1 a b c p : Nat} (hD : 0 < D) (hD' : 0 < D') (h : N * b = a * D) (h' : N' * p = c * D') (h1 : N1 * (D * D') = (N * D' + N' * D) * D1) (n1 : N ≤ a) (d1 : D ≤ b) (n2 : N' ≤ c) (d2 : D' ≤ p) (n3 : N1 ≤ N * D' + N' * D) (d3 : D1 ≤ D * D') :
    N1 * (b * p) = (a * p + c * b) * D1 ∧ N1 ≤ a * p + c * b ∧ D1 ≤ b * p := by
  refine ⟨?_, ?_, Nat.le_trans d3 (Nat.mul_le_mul d1 d2)⟩
  · have hp : 0 < D * D' := Nat.mul_pos hD hD'
    apply Nat.eq_of_mul_eq_mul_left hp
    have e1 : D * D' * (N1 * (b * p)) = (N1 * (D * D')) * (b * p) := by ac_rfl
    have e2 : (N * D' + N' * D) * D1 * (b * p) = ((N * b) * (D' * p) + (N' * p) * (D * b)) * D1 := by
      rw [Nat.add_mul, Nat.add_mul, Nat.add_mul]
      congr 1 <;> ac_rfl
    have e3 : (a * D * (D' * p) + c * D' * (D * b)) * D1 = D * D' * ((a * p + c * b) * D1) := by
      rw [Nat.add_mul, Nat.add_mul, Nat.mul_add]
      congr 1 <;> ac_rfl
    rw [e1, h1, e2, h, h', e3]
  · refine Nat.le_trans n3 (Nat.add_le_add (Nat.mul_le_mul n1 d2) ?_)
    exact Nat.mul_le_mul n2 d1
/-- N / D against M: as the sum's comparison answers. -/
theorem fit_cmp {N D a b M : Nat} (hD : 0 < D) (hb : 0 < b) (h : N * b = a * D) : N ≤ M * D ↔ a ≤ M * b := by
  constructor
  · intro hle
    apply Nat.le_of_mul_le_mul_right (c := D) _ hD
    rw [← h, Nat.mul_right_comm]
    exact Nat.mul_le_mul_right b hle
  · intro hle
    apply Nat.le_of_mul_le_mul_right (c := b) _ hb
    rw [h, Nat.mul_right_comm]
    exact Nat.mul_le_mul_right D hle
end Go.Proofs.Ytdlbokcndbbgnaa
/- The relation that the loop of taskset.Fits keeps, and what its last comparison says. -/
namespace Go.Proofs.Ytdlbokcndbbgnaa
open SL (Tk)
open PD (fitsP ldF)
def FitR (l : List Tk) (k N D : Nat) : Prop := ∃ a b : Nat, ldF (l.take k) = ((a : Int), (b : Int)) ∧ N * b = a * D ∧ N ≤ a ∧ D ≤ b ∧ 0 < b ∧ a ≤ k * b ∧ b ≤ 1000 ^ k
theorem FitR.zero {l : List Tk} {N D : Nat} (h1 : N = 0 * D) (h3 : D ≤ 1) : FitR l 0 N D := by
  refine ⟨0, 1, by simp [ldF], by rw [h1, Nat.zero_mul], by rw [h1]; omega, h3, by omega, by omega, by simp⟩
theorem fit_big : 40 * 1000 ^ 40 < BG.B ^ 200 := by decide
theorem fit_small : 1000 < BG.B ^ 200 := by decide
theorem FitR.lt {l : List Tk} {k N D : Nat} (h : FitR l k N D) (hk : k ≤ 40) : N < BG.B ^ 200 ∧ D < BG.B ^ 200 := by
  obtain ⟨a, b, -, -, h1, h2, -, h3, h4⟩ := h
  have h5 : 1000 ^ k ≤ 1000 ^ 40 := Nat.pow_le_pow_right (by omega) hk
  have h6 : k * b ≤ 40 * 1000 ^ 40 := Nat.mul_le_mul hk (Nat.le_trans h4 h5)
  have h7 : 1 * 1000 ^ 40 ≤ 40 * 1000 ^ 40 := Nat.mul_le_mul_right _ (by omega)
  rw [Nat.one_mul] at h7
  exact ⟨Nat.lt_of_le_of_lt (Nat.le_trans h1 (Nat.le_trans h3 h6)) fit_big, Nat.lt_of_le_of_lt (Nat.le_trans h2 (Nat.le_trans h4 (Nat.le_trans h5 h7))) fit_big⟩
theorem FitR.step {l : List Tk} {k N D N' D' N1 D1 n p : Nat} {t : Tk} (h : FitR l k N D) (htk : l.take (k + 1) = l.take k ++ [t]) (hn : t.cost = (n : Int)) (hp : t.per = (p : Int)) (hnp : n ≤ p) (hp0 : 0 < p) (hp1 : p ≤ 1000) (hD : 0 < D) (hD' : 0 < D') (e1 : N' * p = n * D') (e2 : N' ≤ n) (e3 : D' ≤ p) (e4 : N1 * (D * D') = (N * D' + N' * D) * D1) (e5 : N1 ≤ N * D' + N' * D) (e6 : D1 ≤ D * D') : FitR l (k + 1) N1 D1 := by
  obtain ⟨a, b, h0, h1, h2, h3, h4, h5, h6⟩ := h
  obtain ⟨s1, s2, s3⟩ := fit_step hD hD' h1 e1 e4 h2 h3 e2 e3 e5 e6
  refine ⟨a * p + n * b, b * p, ?_, s1, s2, s3, Nat.mul_pos h4 hp0, ?_, ?_⟩
  · rw [htk, PD.ldF_snoc, h0, hn, hp]
    simp
  · rw [Nat.add_mul, Nat.one_mul, ← Nat.mul_assoc, Nat.mul_comm n b]
    exact Nat.add_le_add (Nat.mul_le_mul_right p h5) (Nat.mul_le_mul_left b hnp)
  · rw [Nat.pow_succ]
    exact Nat.mul_le_mul h6 hp1
theorem FitR.fits {l : List Tk} {k N D M : Nat} (h : FitR l k N D) (hk : l.length ≤ k) (hD : 0 < D) : fitsP l M ↔ N ≤ M * D := by
  obtain ⟨a, b, h0, h1, h2, h3, h4, h5, h6⟩ := h
  rw [fit_cmp hD h4 h1]
  unfold fitsP
  rw [List.take_of_length_le hk] at h0
  rw [h0]
  show (a : Int) ≤ (M : Int) * (b : Int) ↔ _
  rw [← Int.natCast_mul, Int.ofNat_le]
end Go.Proofs.Ytdlbokcndbbgnaa
