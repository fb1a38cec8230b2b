/- Numbers as digits: addition, comparison, division step by step. -/
import Derived.Test.YtdlbokcndbbgnaaPlainSl
namespace Go.Proofs.Ytdlbokcndbbgnaa.BG
/-! Numbers as digits to the base 2^32, least digit first. -/
def B : Nat := 4294967296
def val : List Nat → Nat
  | [] => 0
  | d :: l => d + B * val l
def ok (l : List Nat) : Prop := ∀ d ∈ l, d < B
theorem B_pos : 0 < B := by decide
def dig (n : Nat) : List Nat := if _h : n = 0 then [] else n % B :: dig (n / B)
termination_by n
decreasing_by exact Nat.div_lt_self (by omega) (by decide)
theorem dig_zero : dig 0 = [] := by rw [dig]; rfl
theorem dig_pos {n : Nat} (h : n ≠ 0) : dig n = n % B :: dig (n / B) := by rw [dig, dif_neg h]
theorem val_dig (n : Nat) : val (dig n) = n := by
  induction n using Nat.strongRecOn with
  | ind n ih =>
    by_cases h : n = 0
    · subst h; rw [dig_zero]; rfl
    · rw [dig_pos h, val, ih _ (Nat.div_lt_self (by omega) (by decide))]
      exact Nat.mod_add_div n B
theorem ok_dig (n : Nat) : ok (dig n) := by
  induction n using Nat.strongRecOn with
  | ind n ih =>
    by_cases h : n = 0
    · subst h; rw [dig_zero]; intro d hd; simp at hd
    · rw [dig_pos h]
      intro d hd
      rcases List.mem_cons.1 hd with rfl | hd
      · exact Nat.mod_lt _ B_pos
      · exact ih _ (Nat.div_lt_self (by omega) (by decide)) d hd
theorem ok_cons {d : Nat} {l : List Nat} : ok (d :: l) ↔ d < B ∧ ok l := by unfold ok; simp
theorem ok_append {l m : List Nat} : ok (l ++ m) ↔ ok l ∧ ok m := by
  unfold ok
  constructor
  · exact fun h => ⟨fun d hd => h d (List.mem_append.2 (.inl hd)), fun d hd => h d (List.mem_append.2 (.inr hd))⟩
  · exact fun ⟨h1, h2⟩ d hd => (List.mem_append.1 hd).elim (h1 d) (h2 d)
theorem ok_take {l : List Nat} (h : ok l) (k : Nat) : ok (l.take k) := fun d hd => h d (List.mem_of_mem_take hd)
theorem ok_at {l : List Nat} (h : ok l) {i d : Nat} (hi : l[i]? = some d) : d < B := h d (List.mem_of_getElem? hi)
theorem val_lt {l : List Nat} (h : ok l) : val l < B ^ l.length := by
  induction l with
  | nil => simp [val]
  | cons d l ih =>
    rw [ok_cons] at h
    have := ih h.2
    rw [val, List.length_cons, Nat.pow_succ, Nat.mul_comm (B ^ l.length)]
    have h1 : B * (val l + 1) ≤ B * B ^ l.length := Nat.mul_le_mul_left _ this
    rw [Nat.mul_add] at h1
    omega
theorem val_append (l m : List Nat) : val (l ++ m) = val l + B ^ l.length * val m := by
  induction l with
  | nil => simp [val]
  | cons d l ih =>
    have e : B ^ l.length * B * val m = B * (B ^ l.length * val m) := by rw [Nat.mul_comm (B ^ l.length), Nat.mul_assoc]
    rw [List.cons_append, val, val, ih, List.length_cons, Nat.pow_succ, e, Nat.mul_add]
    omega
theorem val_snoc (l : List Nat) (d : Nat) : val (l ++ [d]) = val l + B ^ l.length * d := by rw [val_append]; simp [val]
theorem take_snoc {l : List Nat} {i d : Nat} (h : l[i]? = some d) : l.take (i + 1) = l.take i ++ [d] := by
  rw [List.take_add_one, h]; rfl
theorem val_take_succ {l : List Nat} {i d : Nat} (h : l[i]? = some d) : val (l.take (i + 1)) = val (l.take i) + B ^ i * d := by
  have hi := (List.getElem?_eq_some_iff.1 h).1
  rw [take_snoc h, val_snoc, List.length_take, Nat.min_eq_left (by omega)]
theorem drop_cons {l : List Nat} {i d : Nat} (h : l[i]? = some d) : l.drop i = d :: l.drop (i + 1) := by
  obtain ⟨hi, rfl⟩ := List.getElem?_eq_some_iff.1 h
  exact List.drop_eq_getElem_cons hi
theorem val_take_end {l : List Nat} {i : Nat} (h : l.length ≤ i) : l.take i = l := List.take_of_length_le h
theorem val_split (l : List Nat) (k : Nat) (h : k ≤ l.length) : val l = val (l.take k) + B ^ k * val (l.drop k) := by
  conv => lhs; rw [← List.take_append_drop k l]
  rw [val_append, List.length_take, Nat.min_eq_left h]
theorem val_zeros {l : List Nat} (h : ∀ d ∈ l, d = 0) : val l = 0 := by
  induction l with
  | nil => rfl
  | cons d l ih =>
    rw [val, ih (fun d hd => h d (List.mem_cons_of_mem _ hd)), h d List.mem_cons_self]; rfl
theorem val_zero_iff {l : List Nat} (h : val l = 0) : ∀ d ∈ l, d = 0 := by
  induction l with
  | nil => intro d hd; simp at hd
  | cons d l ih =>
    rw [val] at h
    have hd : d = 0 := by omega
    have hl : val l = 0 := by
      have : B * val l = 0 := by omega
      rcases Nat.mul_eq_zero.1 this with h | h
      · exact absurd h (by decide)
      · exact h
    intro x hx
    rcases List.mem_cons.1 hx with rfl | hx
    · exact hd
    · exact ih hl x hx
/-- Without leading zeros. -/
def can (l : List Nat) : Prop := ∀ d, l[l.length - 1]? = some d → d ≠ 0
theorem dig_val {l : List Nat} (h : ok l) (hc : can l) : dig (val l) = l := by
  induction l with
  | nil => exact dig_zero
  | cons d l ih =>
    rw [ok_cons] at h
    have hne : val (d :: l) ≠ 0 := fun h0 => by
      have hz := val_zero_iff h0
      cases hl : (d :: l)[(d :: l).length - 1]? with
      | none => rw [List.getElem?_eq_none_iff] at hl; simp at hl; omega
      | some x => exact hc x hl (hz x (List.mem_of_getElem? hl))
    rw [dig_pos hne, val]
    have h1 : (d + B * val l) % B = d := by rw [Nat.add_mul_mod_self_left, Nat.mod_eq_of_lt h.1]
    have h2 : (d + B * val l) / B = val l := by rw [Nat.add_mul_div_left _ _ B_pos, Nat.div_eq_of_lt h.1, Nat.zero_add]
    rw [h1, h2]
    congr 1
    refine ih h.2 fun x hx => hc x ?_
    rw [List.length_cons, Nat.add_sub_cancel]
    cases l with
    | nil => simp at hx
    | cons y l =>
      rw [List.length_cons] at hx ⊢
      rw [List.getElem?_cons_succ]
      simpa using hx
theorem can_dig (n : Nat) : can (dig n) := by
  induction n using Nat.strongRecOn with
  | ind n ih =>
    by_cases h : n = 0
    · subst h; rw [dig_zero]; intro d hd; simp at hd
    · intro d hd
      have hlt := Nat.div_lt_self (show 0 < n by omega) (show 1 < B by decide)
      rw [dig_pos h] at hd
      by_cases h0 : n / B = 0
      · rw [h0, dig_zero] at hd
        simp at hd
        have := Nat.mod_add_div n B
        rw [h0, Nat.mul_zero] at this
        omega
      · refine ih _ hlt d ?_
        have hl : 0 < (dig (n / B)).length := by rw [dig_pos h0]; simp
        rw [List.length_cons, Nat.add_sub_cancel] at hd
        obtain ⟨k, hk⟩ : ∃ k, (dig (n / B)).length = k + 1 := ⟨_, (Nat.sub_add_cancel hl).symm⟩
        rw [hk] at hd ⊢
        simpa using hd
/-- Leading zeros taken off. -/
theorem trim_eq {l : List Nat} (h : ok l) {k : Nat} (hk : k ≤ l.length) (hz : ∀ i, k ≤ i → i < l.length → l[i]? = some 0) (hn : ∀ d, 0 < k → l[k - 1]? = some d → d ≠ 0) : l.take k = dig (val l) := by
  have hv : val l = val (l.take k) := by
    rw [val_split l k hk, val_zeros (l := l.drop k) fun d hd => ?_]
    · omega
    · obtain ⟨j, hj⟩ := List.mem_iff_getElem?.1 hd
      rw [List.getElem?_drop] at hj
      have := (List.getElem?_eq_some_iff.1 hj).1
      rw [hz (k + j) (by omega) this] at hj
      injection hj with hj; exact hj.symm
  rw [hv, dig_val (ok_take h k)]
  intro d hd
  rw [List.length_take, Nat.min_eq_left hk] at hd
  rcases Nat.eq_zero_or_pos k with h0 | h0
  · subst h0; simp at hd
  · rw [List.getElem?_take, if_pos (by omega)] at hd
    exact hn d h0 hd
theorem dig_len {n k : Nat} (h : n < B ^ k) : (dig n).length ≤ k := by
  induction k generalizing n with
  | zero =>
    rw [Nat.pow_zero] at h
    have : n = 0 := by omega
    rw [this, dig_zero]; simp
  | succ k ih =>
    by_cases h0 : n = 0
    · rw [h0, dig_zero]; simp
    · rw [dig_pos h0, List.length_cons]
      have : n / B < B ^ k := by
        rw [Nat.div_lt_iff_lt_mul B_pos, ← Nat.pow_succ]; exact h
      have := ih this
      omega
theorem dig_len_iff (n k : Nat) : (dig n).length ≤ k ↔ n < B ^ k := by
  constructor
  · intro h
    have := val_lt (ok_dig n)
    rw [val_dig] at this
    exact Nat.lt_of_lt_of_le this (Nat.pow_le_pow_right B_pos h)
  · exact dig_len
theorem dig_lt_of_len {m n : Nat} (h : (dig m).length < (dig n).length) : m < n := by
  have h1 : m < B ^ (dig m).length := by have := val_lt (ok_dig m); rwa [val_dig] at this
  have h2 : ¬ n < B ^ (dig m).length := fun h3 => by have := dig_len h3; omega
  omega
/-- Comparing from the top: the digits above i are the same. -/
theorem cmp_top {a b : List Nat} (ha : ok a) (hl : a.length = b.length) {i x y : Nat} (hx : a[i]? = some x) (hy : b[i]? = some y) (ht : a.drop (i + 1) = b.drop (i + 1)) (hlt : x < y) : val a < val b := by
  have hi := (List.getElem?_eq_some_iff.1 hx).1
  rw [val_split a (i + 1) (by omega), val_split b (i + 1) (by omega), ht, val_take_succ hx, val_take_succ hy]
  have h1 := val_lt (ok_take ha i)
  rw [List.length_take, Nat.min_eq_left (by omega)] at h1
  have h2 : B ^ i * (x + 1) ≤ B ^ i * y := Nat.mul_le_mul_left _ hlt
  rw [Nat.mul_add] at h2
  omega
/-! One step of each loop. -/
theorem step_add {r a b q c c' x y t : Nat} (h : r + q * c = a + b) (ht : x + c + y = t) (hc : c' = t / B) : (r + q * (t % B)) + (q * B) * c' = (a + q * x) + (b + q * y) := by
  subst hc
  have h1 := Nat.mod_add_div t B
  have h2 : q * (t % B) + (q * B) * (t / B) = q * t := by rw [Nat.mul_assoc, ← Nat.mul_add, h1]
  have h3 : q * t = q * x + q * c + q * y := by rw [← ht, Nat.mul_add, Nat.mul_add]
  omega
theorem step_mul {r z q c c' a b x t u : Nat} (h : r + q * c = z + a * b) (ht : a * x + u + c = t) (hc : c' = t / B) : (r + q * (t % B)) + (q * B) * c' = (z + q * u) + a * (b + q * x) := by
  subst hc
  have h1 := Nat.mod_add_div t B
  have h2 : q * (t % B) + (q * B) * (t / B) = q * t := by rw [Nat.mul_assoc, ← Nat.mul_add, h1]
  have h3 : q * t = q * (a * x) + q * u + q * c := by rw [← ht, Nat.mul_add, Nat.mul_add]
  have h4 : a * (q * x) = q * (a * x) := by rw [Nat.mul_left_comm]
  rw [Nat.mul_add, h4]
  omega
/-! Division. -/
theorem div_step {b rem x Q D : Nat} (hb : 0 < b) (hr : rem < b) (hx : x < B) (hD : D = Q * b + rem) : (rem * B + x) / b < B ∧ x + B * D = (B * Q + (rem * B + x) / b) * b + (rem * B + x) % b := by
  constructor
  · rw [Nat.div_lt_iff_lt_mul hb]
    have h1 : (rem + 1) * B ≤ b * B := Nat.mul_le_mul_right _ hr
    rw [Nat.add_mul, Nat.mul_comm b] at h1
    omega
  · have h1 := Nat.mod_add_div (rem * B + x) b
    rw [hD, Nat.mul_add, Nat.add_mul, Nat.mul_comm ((rem * B + x) / b) b, ← Nat.mul_assoc, Nat.mul_comm B rem]
    omega
/-- The quotient and the remainder, by uniqueness. -/
theorem div_of {a b q r : Nat} (hr : r < b) (h : a = q * b + r) : a / b = q ∧ a % b = r := by
  have hb : 0 < b := by omega
  subst h
  constructor
  · rw [Nat.add_comm, Nat.add_mul_div_right _ _ hb, Nat.div_eq_of_lt hr, Nat.zero_add]
  · rw [Nat.add_comm, Nat.add_mul_mod_self_right, Nat.mod_eq_of_lt hr]
/-- A digit moved to the right, with the one above it. -/
theorem unshift_step {S x D ab D' : Nat} (hS : 0 < S) (hB : B % S = 0) (hx : x < B) (hD : D = ab + B * D') : (x + B * D) / S = ((ab * B + x) / S) % B + B * (D / S) := by
  obtain ⟨k, hk⟩ : ∃ k, B = S * k := ⟨B / S, by have := Nat.mod_add_div B S; omega⟩
  have e1 := Nat.mod_add_div D S
  have e2 := Nat.mod_add_div ab S
  have hρ : D % S = ab % S := by rw [hD, hk, Nat.mul_assoc, Nat.add_mul_mod_self_left]
  have hlt := Nat.mod_lt ab hS
  have h1 : (x + B * D) / S = (x + B * (ab % S)) / S + B * (D / S) := by
    have : x + B * D = x + B * (ab % S) + S * (B * (D / S)) := by
      rw [Nat.mul_left_comm S B]
      conv => lhs; rw [← e1, hρ, Nat.mul_add]
      omega
    rw [this, Nat.add_mul_div_left _ _ hS]
  have h2 : (ab * B + x) / S = (x + B * (ab % S)) / S + B * (ab / S) := by
    have : ab * B + x = x + B * (ab % S) + S * (B * (ab / S)) := by
      rw [Nat.mul_left_comm S B, Nat.mul_comm ab]
      conv => lhs; rw [← e2, Nat.mul_add]
      omega
    rw [this, Nat.add_mul_div_left _ _ hS]
  have h3 : (x + B * (ab % S)) / S < B := by
    rw [Nat.div_lt_iff_lt_mul hS]
    have h4 : B * (ab % S + 1) ≤ B * S := Nat.mul_le_mul_left _ hlt
    rw [Nat.mul_add] at h4
    omega
  rw [h1, h2, Nat.add_mul_mod_self_left, Nat.mod_eq_of_lt h3]
/-- The guess of a digit of the quotient: its invariant. -/
structure Guess (U V high v1 q l : Nat) : Prop where
  sum : q * v1 + l = high
  ge : U / V ≤ q
/-- Numbers by their two highest digits (the divisor) and three highest ones (the dividend). -/
structure Tops (n U V high v1 v2 u2 : Nat) : Prop where
  n0 : 2 ≤ n
  v1B : v1 < B
  v1h : 2147483648 ≤ v1
  v2B : v2 < B
  u2B : u2 < B
  vlo : (v1 * B + v2) * B ^ (n - 2) ≤ V
  vhi : V < (v1 * B + v2 + 1) * B ^ (n - 2)
  ulo : (high * B + u2) * B ^ (n - 2) ≤ U
  uhi : U < (high * B + u2 + 1) * B ^ (n - 2)
  lt : U < B * V
theorem Tops.Vpos {n U V high v1 v2 u2 : Nat} (h : Tops n U V high v1 v2 u2) : 0 < V := by
  have := h.vlo
  have h1 : 1 * 1 ≤ (v1 * B + v2) * B ^ (n - 2) := Nat.mul_le_mul (by have := h.v1h; unfold B; omega) (Nat.pow_pos B_pos)
  omega
theorem Tops.high_lt {n U V high v1 v2 u2 : Nat} (h : Tops n U V high v1 v2 u2) : high < (v1 + 1) * B := by
  have h1 := h.ulo
  have h2 := h.vhi
  have h3 := h.lt
  have hp : 0 < B ^ (n - 2) := Nat.pow_pos B_pos
  have h4 : high * B * B ^ (n - 2) < B * ((v1 * B + v2 + 1) * B ^ (n - 2)) := by
    have a1 : high * B * B ^ (n - 2) ≤ (high * B + u2) * B ^ (n - 2) := Nat.mul_le_mul_right _ (by omega)
    have a2 : B * V < B * ((v1 * B + v2 + 1) * B ^ (n - 2)) := Nat.mul_lt_mul_of_pos_left h2 B_pos
    omega
  rw [← Nat.mul_assoc] at h4
  have h5 := Nat.lt_of_mul_lt_mul_right h4
  rw [Nat.mul_comm B] at h5
  have h6 := Nat.lt_of_mul_lt_mul_right h5
  have := h.v2B
  rw [Nat.add_mul]
  omega
theorem guess0 {n U V high v1 v2 u2 : Nat} (h : Tops n U V high v1 v2 u2) : Guess U V high v1 (high / v1) (high % v1) := by
  have hv1 : 0 < v1 := by have := h.v1h; omega
  refine ⟨by rw [Nat.mul_comm]; exact Nat.div_add_mod _ _, ?_⟩
  rw [Nat.le_div_iff_mul_le hv1]
  have hV := h.Vpos
  have h1 : U / V * V ≤ U := Nat.div_mul_le_self _ _
  have hp : 0 < B ^ (n - 2) := Nat.pow_pos B_pos
  have h2 : U / V * (v1 * B * B ^ (n - 2)) ≤ U / V * V := Nat.mul_le_mul_left _ (Nat.le_trans (Nat.mul_le_mul_right _ (by omega)) h.vlo)
  have h3 := h.uhi
  have h4 : (high * B + u2 + 1) * B ^ (n - 2) ≤ (high + 1) * B * B ^ (n - 2) := Nat.mul_le_mul_right _ (by have := h.u2B; rw [Nat.add_mul]; omega)
  have h5 : U / V * v1 * (B * B ^ (n - 2)) < (high + 1) * (B * B ^ (n - 2)) := by
    rw [Nat.mul_assoc, ← Nat.mul_assoc v1, ← Nat.mul_assoc (high + 1)]
    omega
  have := Nat.lt_of_mul_lt_mul_right h5
  omega
/-- One less, where the guess is too great. -/
theorem guess_dec {n U V high v1 v2 u2 q l : Nat} (h : Tops n U V high v1 v2 u2) (hg : Guess U V high v1 q l) (hc : B ≤ q ∨ l * B + u2 < q * v2) : 1 ≤ q ∧ Guess U V high v1 (q - 1) (l + v1) := by
  have hV := h.Vpos
  have hq : U / V < q := by
    rcases hc with hc | hc
    · have : U / V < B := by rw [Nat.div_lt_iff_lt_mul hV]; exact h.lt
      omega
    · rw [Nat.div_lt_iff_lt_mul hV]
      have h1 : high * B + u2 + 1 ≤ q * (v1 * B + v2) := by
        rw [Nat.mul_add, ← Nat.mul_assoc]
        have := congrArg (· * B) hg.sum
        simp only [Nat.add_mul] at this
        omega
      have h2 : (high * B + u2 + 1) * B ^ (n - 2) ≤ q * ((v1 * B + v2) * B ^ (n - 2)) := by
        rw [← Nat.mul_assoc]; exact Nat.mul_le_mul_right _ h1
      have h3 : q * ((v1 * B + v2) * B ^ (n - 2)) ≤ q * V := Nat.mul_le_mul_left _ h.vlo
      have := h.uhi
      omega
  have hs := hg.sum
  have hz : 1 ≤ q ∧ U / V ≤ q - 1 := by
    generalize U / V = z at *
    omega
  refine ⟨hz.1, ?_, hz.2⟩
  obtain ⟨k, rfl⟩ : ∃ k, q = k + 1 := ⟨q - 1, by omega⟩
  rw [Nat.add_mul] at hs
  rw [Nat.add_sub_cancel]
  omega
/-- Where the tests end, the guess is the digit, or one more. -/
theorem guess_end {n U V high v1 v2 u2 q l : Nat} (h : Tops n U V high v1 v2 u2) (hg : Guess U V high v1 q l) (hc : B ≤ l ∨ (q < B ∧ q * v2 ≤ l * B + u2)) : q < B ∧ q ≤ U / V + 1 ∧ q * V ≤ U + V := by
  have hV := h.Vpos
  have hs := hg.sum
  have hqB : q < B := by
    rcases hc with hc | hc
    · refine Nat.lt_of_not_le fun hge => ?_
      have h1 := h.high_lt
      have h2 : B * v1 ≤ q * v1 := Nat.mul_le_mul_right _ hge
      rw [Nat.add_mul, Nat.mul_comm v1] at h1
      omega
    · exact hc.1
  have ht : q * (v1 * B + v2) ≤ high * B + u2 := by
    rw [Nat.mul_add, ← Nat.mul_assoc]
    have h1 := congrArg (· * B) hs
    simp only [Nat.add_mul] at h1
    rcases hc with hc | hc
    · have h2 : B * B ≤ l * B := Nat.mul_le_mul_right _ hc
      have h3 : q * v2 ≤ B * B := Nat.mul_le_mul (by omega) (by have := h.v2B; omega)
      omega
    · omega
  have h1 : q * ((v1 * B + v2) * B ^ (n - 2)) ≤ U := by
    have h2 : q * (v1 * B + v2) * B ^ (n - 2) ≤ (high * B + u2) * B ^ (n - 2) := Nat.mul_le_mul_right _ ht
    rw [← Nat.mul_assoc]
    exact Nat.le_trans h2 h.ulo
  have h2 : q * V ≤ U + V := by
    have h3 : q * V ≤ q * ((v1 * B + v2 + 1) * B ^ (n - 2)) := Nat.mul_le_mul_left _ (Nat.le_of_lt h.vhi)
    rw [Nat.add_mul _ 1, Nat.mul_add q, Nat.one_mul] at h3
    have h4 : q * B ^ (n - 2) ≤ (v1 * B + v2) * B ^ (n - 2) := Nat.mul_le_mul_right _ (by have := h.v1h; have : 1 * B ≤ v1 * B := Nat.mul_le_mul_right _ (by omega); omega)
    have := h.vlo
    omega
  refine ⟨hqB, ?_, h2⟩
  have h5 : (U + V) / V = U / V + 1 := Nat.add_div_right _ hV
  rw [← h5, Nat.le_div_iff_mul_le hV]
  exact h2
/-- One step of the subtraction. -/
theorem step_sub {nw g va u q c bo x y t d : Nat} (h : nw + g * va = u + q * (c + bo)) (ht : g * x + c = t) (hd : y + B * (if y < t % B + bo then 1 else 0) = d + t % B + bo) :
    (nw + q * d) + g * (va + q * x) = (u + q * y) + (q * B) * (t / B + (if y < t % B + bo then 1 else 0)) := by
  have h1 := Nat.mod_add_div t B
  have h2 : q * (g * x) + q * c = q * t := by rw [← Nat.mul_add, ht]
  have h3 : q * (t % B) + (q * B) * (t / B) = q * t := by rw [Nat.mul_assoc, ← Nat.mul_add, h1]
  generalize (if y < t % B + bo then 1 else 0) = b' at *
  have h4 : q * y + (q * B) * b' = q * d + q * (t % B) + q * bo := by rw [Nat.mul_assoc, ← Nat.mul_add, hd, Nat.mul_add, Nat.mul_add]
  have h5 : g * (q * x) = q * (g * x) := by rw [Nat.mul_left_comm]
  rw [Nat.mul_add g, Nat.mul_add (q * B), h5]
  rw [Nat.mul_add q] at h
  omega
end Go.Proofs.Ytdlbokcndbbgnaa.BG
