/- The group deadline in closed form is the reference's; the reference's windows and priorities. -/
import Derived.Test.YtehdgdlndlamjaaPlainSl3
namespace Go.Proofs.Ytehdgdlndlamjaa.SL
/-- Groups end at such a time. -/
def isEnd (c p t : Int) (k : Int) : Bool := (decide (t = (k * p + c - 1) / c) && !(k * p % c != 0)) || (decide (t + 1 = (k * p + c - 1) / c) && decide ((k * p + c - 1) / c - (k - 1) * p / c = 3))
def anyEnd (c p t : Int) : Bool := (List.range c.toNat).any fun k => isEnd c p t ((k : Int) + 1)
/-- The reference's group deadline: the first end from the deadline on. -/
def grpR (c p d : Int) : Nat → Int → Int
  | 0, _ => p
  | n + 1, t => if t ≤ p then (if anyEnd c p t then t else grpR c p d n (t + 1)) else p
theorem up_iff {a b t : Int} (hb : 0 < b) : (a + b - 1) / b = t ↔ a ≤ t * b ∧ (t - 1) * b < a := by
  have e1 : (t - 1) * b = t * b - b := by rw [Int.sub_mul, Int.one_mul]
  constructor
  · rintro rfl
    have h1 := Int.mul_ediv_add_emod (a + b - 1) b
    have h2 := Int.emod_nonneg (a + b - 1) (by omega : b ≠ 0)
    have h3 := Int.emod_lt_of_pos (a + b - 1) hb
    rw [Int.mul_comm] at h1
    omega
  · rintro ⟨h1, h2⟩
    have h3 : t * b ≤ a + b - 1 := by omega
    have h4 : a + b - 1 < (t + 1) * b := by rw [Int.add_mul, Int.one_mul]; omega
    have h5 := (Int.le_ediv_iff_mul_le hb).2 h3
    have h6 := (Int.ediv_lt_iff_lt_mul hb).2 h4
    omega
theorem pos_l {a b : Int} (h : 0 < a * b) (hb : 0 ≤ b) : 0 < a := by
  rcases Int.lt_or_le 0 a with h1 | h1
  · exact h1
  · have := Int.mul_le_mul_of_nonneg_right h1 hb
    rw [Int.zero_mul] at this
    omega
theorem down_iff {a b t : Int} (hb : 0 < b) : a / b = t ↔ t * b ≤ a ∧ a < (t + 1) * b := by
  constructor
  · rintro rfl
    have h1 := Int.mul_ediv_add_emod a b
    have h2 := Int.emod_nonneg a (by omega : b ≠ 0)
    have h3 := Int.emod_lt_of_pos a hb
    rw [Int.mul_comm] at h1
    rw [Int.add_mul, Int.one_mul]
    omega
  · rintro ⟨h1, h2⟩
    have h5 := (Int.le_ediv_iff_mul_le hb).2 h1
    have h6 := (Int.ediv_lt_iff_lt_mul hb).2 h2
    omega
/-- An end: a multiple of the period between two multiples of the cost. -/
theorem isEnd_iff {c p t k : Int} (hc : 0 < c) (hp : c < p) (h2 : p ≤ 2 * c) : isEnd c p t k = true ↔ t * c ≤ k * p ∧ (k - 1) * p < (t - 1) * c := by
  have e1 : (k - 1) * p = k * p - p := by rw [Int.sub_mul, Int.one_mul]
  have e2 : (t - 1) * c = t * c - c := by rw [Int.sub_mul, Int.one_mul]
  have e3 : (t + 1) * c = t * c + c := by rw [Int.add_mul, Int.one_mul]
  have e4 : (t + 1 - 1) * c = t * c := by rw [show t + 1 - 1 = t from by omega]
  have e5 : (t - 2) * c = t * c - 2 * c := by rw [Int.sub_mul]
  have e6 : (t - 2 + 1) * c = t * c - c := by rw [show t - 2 + 1 = t - 1 from by omega, e2]
  unfold isEnd
  simp only [Bool.or_eq_true, Bool.and_eq_true, decide_eq_true_eq, Bool.not_eq_true', bne_eq_false_iff_eq]
  constructor
  · rintro (⟨h3, h4⟩ | ⟨h3, h4⟩)
    · obtain ⟨h5, h6⟩ := (up_iff hc).1 h3.symm
      have h7 : c ∣ k * p := Int.dvd_of_emod_eq_zero h4
      obtain ⟨m, hm⟩ := h7
      rw [Int.mul_comm c m] at hm
      rw [hm] at h5 h6
      have h8 : m ≤ t := Int.le_of_mul_le_mul_right h5 hc
      have h9 : t - 1 < m := Int.lt_of_mul_lt_mul_right h6 (by omega)
      have h10 : m = t := by omega
      rw [h10] at hm
      omega
    · obtain ⟨h5, h6⟩ := (up_iff hc).1 h3.symm
      rw [← h3] at h4
      obtain ⟨h7, h8⟩ := (down_iff hc).1 (show (k - 1) * p / c = t - 2 by omega)
      omega
  · rintro ⟨h3, h4⟩
    by_cases h5 : k * p = t * c
    · left
      exact ⟨((up_iff hc).2 (by omega)).symm, by rw [h5]; exact Int.mul_emod_left t c⟩
    · right
      have h6 : (k * p + c - 1) / c = t + 1 := (up_iff hc).2 (by omega)
      have h7 : (k - 1) * p / c = t - 2 := (down_iff hc).2 (by omega)
      omega
/-- The same, in the closed form's terms. -/
theorem anyEnd_iff {c p t : Int} (hc : 0 < c) (hp : c < p) (h2 : p ≤ 2 * c) (ht : 1 ≤ t) (htp : t ≤ p) : anyEnd c p t = true ↔ ∃ m : Int, 1 ≤ m ∧ m ≤ p - c ∧ up (m * p) (p - c) = t := by
  have hg : 0 < p - c := by omega
  unfold anyEnd up
  simp only [List.any_eq_true, List.mem_range]
  constructor
  · rintro ⟨k, hk, he⟩
    obtain ⟨h3, h4⟩ := (isEnd_iff hc hp h2).1 he
    have e1 : ((k : Int) + 1 - 1) * p = ((k : Int) + 1) * p - p := by rw [Int.sub_mul, Int.one_mul]
    have e2 : (t - 1) * c = t * c - c := by rw [Int.sub_mul, Int.one_mul]
    have e3 : (t - ((k : Int) + 1)) * p = t * p - ((k : Int) + 1) * p := by rw [Int.sub_mul]
    have e4 : t * (p - c) = t * p - t * c := by rw [Int.mul_sub]
    have e5 : (t - 1) * (p - c) = t * p - t * c - p + c := by rw [Int.sub_mul, Int.mul_sub, Int.one_mul]; omega
    refine ⟨t - ((k : Int) + 1), ?_, ?_, (up_iff hg).2 ⟨by omega, by omega⟩⟩
    · have h5 : 0 < (t - ((k : Int) + 1)) * p := by
        have h6 : 0 ≤ (t - 1) * (p - c) := Int.mul_nonneg (by omega) (by omega)
        omega
      have := pos_l h5 (by omega)
      omega
    · have h5 : (t - ((k : Int) + 1)) * p ≤ (p - c) * p := by
        have h6 : t * (p - c) ≤ p * (p - c) := Int.mul_le_mul_of_nonneg_right htp (by omega)
        rw [Int.mul_comm (p - c) p]
        omega
      exact Int.le_of_mul_le_mul_right h5 (by omega)
  · rintro ⟨m, hm1, hm2, he⟩
    obtain ⟨h3, h4⟩ := (up_iff hg).1 he
    have e2 : (t - 1) * c = t * c - c := by rw [Int.sub_mul, Int.one_mul]
    have e3 : (t - m) * p = t * p - m * p := by rw [Int.sub_mul]
    have e4 : t * (p - c) = t * p - t * c := by rw [Int.mul_sub]
    have e5 : (t - 1) * (p - c) = t * p - t * c - p + c := by rw [Int.sub_mul, Int.mul_sub, Int.one_mul]; omega
    have e6 : (t - m - 1) * p = (t - m) * p - p := by rw [Int.sub_mul (t - m), Int.one_mul]
    have h5 : t * c ≤ (t - m) * p := by omega
    have h6 : (t - m - 1) * p < (t - 1) * c := by omega
    have h7 : 0 < t - m := by
      have h8 : 0 < t * c := Int.mul_pos (by omega) hc
      have h9 : 0 < (t - m) * p := by omega
      exact pos_l h9 (by omega)
    have h10 : t - m ≤ c := by
      have h8 : (t - 1) * c ≤ (p - 1) * c := Int.mul_le_mul_of_nonneg_right (by omega) (by omega)
      have e7 : (p - 1) * c = c * p - c := by rw [Int.sub_mul, Int.one_mul, Int.mul_comm]
      have h9 : (t - m - 1) * p < c * p := by omega
      have := Int.lt_of_mul_lt_mul_right h9 (by omega)
      omega
    refine ⟨(t - m - 1).toNat, by omega, ?_⟩
    rw [show (((t - m - 1).toNat : Nat) : Int) + 1 = t - m from by omega]
    exact (isEnd_iff hc hp h2).2 ⟨h5, h6⟩
/-- The search finds the least place at which a monotone test holds. -/
theorem bsr_spec (f : Nat → Bool) (hm : ∀ a b, a ≤ b → f a = true → f b = true) : ∀ (n i j : Nat), j - i ≤ n → i ≤ j → (∀ k, k < i → f k = false) → (∀ k, j ≤ k → f k = true ∨ False ∨ k = k) →
    i ≤ bsr f n i j ∧ bsr f n i j ≤ j ∧ (∀ k, k < bsr f n i j → f k = false) ∧ (bsr f n i j < j → f (bsr f n i j) = true)
  | 0, i, j, hn, hij, h1, _ => by
    simp only [bsr]
    exact ⟨Nat.le_refl _, hij, h1, fun h => by omega⟩
  | n + 1, i, j, hn, hij, h1, h2 => by
    simp only [bsr]
    by_cases hlt : i < j
    · rw [if_pos hlt]
      have hmid : (i + j) / 2 < j := by omega
      have hmid2 : i ≤ (i + j) / 2 := by omega
      cases hf : f ((i + j) / 2) with
      | true =>
        obtain ⟨a, b, c, d⟩ := bsr_spec f hm n i ((i + j) / 2) (by omega) (by omega) h1 (fun k _ => .inr (.inr rfl))
        rw [if_pos rfl]
        refine ⟨a, by omega, c, fun _ => ?_⟩
        rcases Nat.lt_or_ge (bsr f n i ((i + j) / 2)) ((i + j) / 2) with h | h
        · exact d h
        · have : bsr f n i ((i + j) / 2) = (i + j) / 2 := by omega
          rw [this]; exact hf
      | false =>
        rw [if_neg (by simp)]
        obtain ⟨a, b, c, d⟩ := bsr_spec f hm n ((i + j) / 2 + 1) j (by omega) (by omega) (fun k hk => by
          rw [← Bool.not_eq_true]
          intro h
          have := hm k ((i + j) / 2) (by omega) h
          rw [hf] at this; cases this) (fun k _ => .inr (.inr rfl))
        exact ⟨by omega, b, c, d⟩
    · rw [if_neg hlt]
      exact ⟨Nat.le_refl _, hij, h1, fun h => absurd h hlt⟩
theorem up_mono {a b g : Int} (hg : 0 < g) (h : a ≤ b) : up a g ≤ up b g := by
  unfold up
  exact Int.ediv_le_ediv hg (by omega)
theorem gend_mono {t : Tk} (hg : 0 < t.per - t.cost) (hp : 0 ≤ t.per) {m m' : Int} (h : m ≤ m') : gend t m ≤ gend t m' := by
  unfold gend
  exact up_mono hg (Int.mul_le_mul_of_nonneg_right h hp)
/-- The first end from a time on. -/
theorem grpR_spec {c p d e : Int} (hle : d ≤ e) (hep : e ≤ p) (he : anyEnd c p e = true) (hno : ∀ t, d ≤ t → t < e → anyEnd c p t = false) : ∀ (n : Nat) (t : Int), d ≤ t → t ≤ e → e - t < n → grpR c p d n t = e
  | 0, t, _, h1, h2 => by omega
  | n + 1, t, h0, h1, h2 => by
    rw [grpR, if_pos (by omega)]
    by_cases h3 : t = e
    · subst h3; rw [if_pos he]
    · rw [hno t h0 (by omega), if_neg (by simp)]
      exact grpR_spec hle hep he hno n (t + 1) (by omega) (by omega) (by omega)
theorem heavy_iff {t : Tk} : heavy t = true ↔ t.cost < t.per ∧ t.per ≤ 2 * t.cost := by unfold heavy; simp
theorem winD_bounds {t : Tk} {i : Int} (hw : okW t i) : 1 ≤ winD t i ∧ winD t i ≤ t.per := by
  obtain ⟨hv, hi1, hi2⟩ := hw
  obtain ⟨v1, v2, v3⟩ := okTk_iff.1 hv
  obtain ⟨h1, h2⟩ := (up_iff (a := i * t.per) (b := t.cost) (t := winD t i) (by omega)).1 rfl
  constructor
  · have h3 : 0 < i * t.per := Int.mul_pos (by omega) (by omega)
    have h4 : 0 < winD t i * t.cost := by omega
    have := pos_l h4 (by omega)
    omega
  · have h3 : i * t.per ≤ t.cost * t.per := Int.mul_le_mul_of_nonneg_right hi2 (by omega)
    have h4 : (winD t i - 1) * t.cost < t.per * t.cost := by rw [Int.mul_comm t.per]; omega
    have := Int.lt_of_mul_lt_mul_right h4 (by omega)
    omega
/-- The closed form is the reference's group deadline. -/
theorem grp_eq {t : Tk} {i : Int} (hw : okW t i) (hh : heavy t = true) (n : Nat) (hn : t.per - winD t i < n) : grpR t.cost t.per (winD t i) n (winD t i) = grp t i := by
  obtain ⟨d1, d2⟩ := winD_bounds hw
  obtain ⟨hv, hi1, hi2⟩ := hw
  obtain ⟨v1, v2, v3⟩ := okTk_iff.1 hv
  obtain ⟨h1, h2⟩ := heavy_iff.1 hh
  have hg : 0 < t.per - t.cost := by omega
  obtain ⟨s0, s1, s2, s3⟩ := bsr_spec (fun n => decide (winD t i ≤ gend t ((n : Int) + 1))) (fun a b hab h => by
    simp only [decide_eq_true_eq] at *
    exact Int.le_trans h (gend_mono hg (by omega) (by omega))) (t.per - t.cost - 1).toNat 0 (t.per - t.cost - 1).toNat (by omega) (by omega) (fun k hk => by omega) (fun k _ => .inr (.inr rfl))
  unfold grp
  generalize bsr (fun n => decide (winD t i ≤ gend t ((n : Int) + 1))) (t.per - t.cost - 1).toNat 0 (t.per - t.cost - 1).toNat = q at *
  have hq : (q : Int) ≤ t.per - t.cost - 1 := by omega
  have hlast : gend t (t.per - t.cost) = t.per := by
    unfold gend up
    rw [up_iff hg]
    rw [Int.mul_comm, Int.sub_mul]
    omega
  have hge : winD t i ≤ gend t (1 + (q : Int)) := by
    rcases Nat.lt_or_ge q (t.per - t.cost - 1).toNat with h | h
    · have := s3 h
      simp only [decide_eq_true_eq] at this
      rw [Int.add_comm]; exact this
    · rw [show 1 + (q : Int) = t.per - t.cost from by omega, hlast]; exact d2
  have hle : gend t (1 + (q : Int)) ≤ t.per := by rw [← hlast]; exact gend_mono hg (by omega) (by omega)
  refine grpR_spec hge hle ((anyEnd_iff (by omega) h1 h2 (by omega) hle).2 ⟨1 + (q : Int), by omega, by omega, rfl⟩) (fun x hx1 hx2 => ?_) n _ (Int.le_refl _) hge (by omega)
  rw [← Bool.not_eq_true]
  intro hx
  obtain ⟨m, hm1, hm2, hm3⟩ := (anyEnd_iff (by omega) h1 h2 (by omega) (by omega)).1 hx
  have hm4 : gend t m = x := hm3
  rcases Int.lt_or_le m (1 + (q : Int)) with h | h
  · have h5 := s2 (m - 1).toNat (by omega)
    simp only [decide_eq_false_iff_not] at h5
    rw [show (((m - 1).toNat : Nat) : Int) + 1 = m from by omega, hm4] at h5
    exact h5 hx1
  · have := gend_mono (t := t) hg (by omega) h
    omega
end Go.Proofs.Ytehdgdlndlamjaa.SL
