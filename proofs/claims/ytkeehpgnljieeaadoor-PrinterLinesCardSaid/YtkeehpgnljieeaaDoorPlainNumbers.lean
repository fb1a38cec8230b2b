/- Decimal digits, and what the parser's plain functions read of them. -/
import Derived.Test.YtkeehpgnljieeaaDoorPlainLimits
namespace Go.Proofs.YtkeehpgnljieeaaDoor.PP
open PL

def dig (n : Nat) : UInt8 := UInt8.ofNat (48 + n % 10)
def decF : Nat → Nat → List UInt8
  | 0, _ => []
  | f + 1, n => if n < 10 then [dig n] else decF f (n / 10) ++ [dig n]
def dec (n : Nat) : List UInt8 := decF 20 n
def preF (f m : Nat) : List UInt8 := if m < 10 then [] else decF f (m / 10)
theorem decF_pre (f m : Nat) : decF (f + 1) m = preF f m ++ [dig m] := by
  unfold preF
  rw [decF]
  split <;> simp
def DecRel (n0 : Nat) (m : Nat) (s : List UInt8) : Prop := ∃ f, decF 20 n0 = preF f m ++ s ∧ m < 10 ^ (f + 1) ∧ s.length + f ≤ 20
theorem DecRel.start (n : Nat) (h : n < 10 ^ 20) : DecRel n n [dig n] := ⟨19, decF_pre 19 n, h, by simp⟩
theorem DecRel.next {n0 m : Nat} {s : List UInt8} (h : DecRel n0 m s) (hm : 9 < m) : DecRel n0 (m / 10) (dig (m / 10) :: s) := by
  obtain ⟨f, h1, h2, h3⟩ := h
  cases f with
  | zero => simp at h2; omega
  | succ f =>
    refine ⟨f, ?_, ?_, by simp; omega⟩
    · rw [h1, show preF (f + 1) m = decF (f + 1) (m / 10) from by unfold preF; rw [if_neg (by omega)], decF_pre]; simp
    · rw [Nat.div_lt_iff_lt_mul (by omega)]
      rw [Nat.pow_succ] at h2; exact h2
theorem DecRel.stop {n0 m : Nat} {s : List UInt8} (h : DecRel n0 m s) (hm : m ≤ 9) : dec n0 = s := by
  obtain ⟨f, h1, _⟩ := h
  unfold dec
  rw [h1]; unfold preF; rw [if_pos (by omega)]; rfl

/-- The value of digits. -/
def valL : Int → List UInt8 → Int
  | v, [] => v
  | v, d :: ds => valL (v * 10 + ((d - 48).toNat : Int)) ds
theorem valL_ge : ∀ (ds : List UInt8) (v : Int), 0 ≤ v → v ≤ valL v ds
  | [], v, _ => by simp [valL]
  | d :: ds, v, hv => by
    have := valL_ge ds (v * 10 + ((d - 48).toNat : Int)) (by omega)
    simp only [valL]
    omega
theorem digitsVal_le {high : Int} : ∀ (ds : List UInt8) (v : Int), 0 ≤ v → valL v ds ≤ high → digitsVal high v ds = valL v ds
  | [], v, _, _ => rfl
  | d :: ds, v, hv, h => by
    have h1 := valL_ge (d :: ds) v hv
    rw [digitsVal, if_pos (by omega)]
    exact digitsVal_le ds _ (by omega) h
theorem digitsVal_gt {high : Int} : ∀ (ds : List UInt8) (v : Int), 0 ≤ v → high < valL v ds → high < digitsVal high v ds
  | [], v, _, h => h
  | d :: ds, v, hv, h => by
    rw [digitsVal]
    split
    · exact digitsVal_gt ds _ (by omega) h
    · omega
theorem valL_append : ∀ (a b : List UInt8) (v : Int), valL v (a ++ b) = valL (valL v a) b
  | [], _, _ => rfl
  | _ :: a, b, _ => valL_append a b _
theorem valL_drop : ∀ (ds : List UInt8), valL 0 (ds.dropWhile (· == 48)) = valL 0 ds
  | [] => rfl
  | d :: ds => by
    rw [List.dropWhile_cons]
    split
    · rename_i h
      have hd : d = 48 := by simpa using h
      rw [valL_drop ds]
      subst hd
      rfl
    · rfl
theorem dig_val (n : Nat) : (((dig n) - 48).toNat : Int) = (n % 10 : Nat) := by
  have : ∀ k, k < 10 → (((UInt8.ofNat (48 + k)) - 48).toNat : Int) = (k : Nat) := by decide
  exact this _ (Nat.mod_lt _ (by omega))
theorem dig_digit (n : Nat) : isDigit (dig n) = true := by
  have : ∀ k, k < 10 → isDigit (UInt8.ofNat (48 + k)) = true := by decide
  exact this _ (Nat.mod_lt _ (by omega))
theorem decF_val : ∀ (f n : Nat), n < 10 ^ f → valL 0 (decF f n) = n
  | 0, n, h => by simp at h; subst h; rfl
  | f + 1, n, h => by
    rw [decF]
    split
    · rename_i hn
      simp only [valL, dig_val]
      omega
    · rw [valL_append, decF_val f (n / 10) (by rw [Nat.div_lt_iff_lt_mul (by omega)]; rw [Nat.pow_succ] at h; exact h)]
      simp only [valL, dig_val]
      omega
theorem decF_digit : ∀ (f n : Nat), ∀ c ∈ decF f n, isDigit c = true
  | 0, n, c, h => by simp [decF] at h
  | f + 1, n, c, h => by
    rw [decF] at h
    split at h
    · simp only [List.mem_cons, List.not_mem_nil, or_false] at h; subst h; exact dig_digit n
    · rcases List.mem_append.1 h with h | h
      · exact decF_digit f _ c h
      · simp only [List.mem_cons, List.not_mem_nil, or_false] at h; subst h; exact dig_digit n
theorem decF_ne (f n : Nat) : decF (f + 1) n ≠ [] := by
  rw [decF]; split <;> simp
theorem decF_len : ∀ (f n : Nat), (decF f n).length ≤ f
  | 0, n => by simp [decF]
  | f + 1, n => by
    rw [decF]
    split
    · simp
    · have := decF_len f (n / 10); simp; omega
/-- The digits with zeros ahead. -/
def zeros (z : Nat) (n : Nat) : List UInt8 := List.replicate z 48 ++ dec n
theorem zeros_val (z n : Nat) (h : n < 10 ^ 20) : valL 0 ((zeros z n).dropWhile (· == 48)) = n := by
  rw [valL_drop, zeros, valL_append]
  have : ∀ z, valL 0 (List.replicate z 48) = 0 := by
    intro z
    induction z with
    | zero => rfl
    | succ z ih => simp only [List.replicate_succ, valL]; exact ih
  rw [this, dec]; exact decF_val 20 n h
theorem zeros_digit (z n : Nat) : ∀ c ∈ zeros z n, isDigit c = true := by
  intro c hc
  rcases List.mem_append.1 hc with h | h
  · rw [List.mem_replicate] at h; rw [h.2]; decide
  · exact decF_digit 20 n c h
theorem zeros_ne (z n : Nat) : zeros z n ≠ [] := by
  unfold zeros dec
  intro h
  have := List.append_eq_nil_iff.1 h
  exact decF_ne 19 n this.2
theorem first_digits {l : List UInt8} (hl : l ≠ []) (h : ∀ c ∈ l, isDigit c = true) : first l = (2, l.length) := by
  obtain ⟨b, t, rfl⟩ : ∃ b t, l = b :: t := by cases l with
    | nil => exact absurd rfl hl
    | cons b t => exact ⟨b, t, rfl⟩
  have hb := h b (by simp)
  have hletter := digit_letter hb
  have ht : t.takeWhile isDigit = t := by
    have := takeWhile_all isDigit t [] (fun c hc => h c (by simp [hc]))
    simpa using this
  unfold first
  simp only [hletter, hb]
  simp [count, ht]; omega
theorem lex_cons {pos k n : Nat} {l : List UInt8} (h : first l = (k, n)) (hn : n ≠ 0) (hl : l ≠ []) : lexFrom pos l = (lexFrom (pos + n) (l.drop n)).map (⟨k, l.take n, pos⟩ :: ·) := by
  rw [lexFrom_step pos l hl (by rw [h]; exact hn), h]
theorem lex_plus {ds : List UInt8} (hn : ds ≠ []) (hd : ∀ c ∈ ds, isDigit c = true) (hl : ds.length ≤ 1000) : lex ([49, 32, 43, 32] ++ ds) = ([⟨2, [49], 0⟩, ⟨4, [32], 1⟩, ⟨3, [43], 2⟩, ⟨4, [32], 3⟩, ⟨2, ds, 4⟩], 0, 0) := by
  obtain ⟨b, t, rfl⟩ : ∃ b t, ds = b :: t := by cases ds with
    | nil => exact absurd rfl hn
    | cons b t => exact ⟨b, t, rfl⟩
  have hb := hd b (by simp)
  have hs := digit_space hb
  have hf := first_digits hn hd
  apply lex_of_ok
  · simp only [List.length_append, List.length_cons, List.length_nil] at hl ⊢; omega
  have e1 : first (49 :: 32 :: 43 :: 32 :: b :: t) = (2, 1) := rfl
  have e2 : first (32 :: 43 :: 32 :: b :: t) = (4, 1) := rfl
  have e3 : first (43 :: 32 :: b :: t) = (3, 1) := rfl
  have e4 : first (32 :: b :: t) = (4, 1) := by
    have hsp : isSpace 32 = true := by decide
    unfold first
    simp only [show isLetter 32 = false from by decide, show isDigit 32 = false from by decide, hsp]
    simp [count, hs]
  have s1 : lexFrom 0 (49 :: 32 :: 43 :: 32 :: b :: t) = (lexFrom 1 (32 :: 43 :: 32 :: b :: t)).map (⟨2, [49], 0⟩ :: ·) := lex_cons (pos := 0) e1 (by decide) (by simp)
  have s2 : lexFrom 1 (32 :: 43 :: 32 :: b :: t) = (lexFrom 2 (43 :: 32 :: b :: t)).map (⟨4, [32], 1⟩ :: ·) := lex_cons (pos := 1) e2 (by decide) (by simp)
  have s3 : lexFrom 2 (43 :: 32 :: b :: t) = (lexFrom 3 (32 :: b :: t)).map (⟨3, [43], 2⟩ :: ·) := lex_cons (pos := 2) e3 (by decide) (by simp)
  have s4 : lexFrom 3 (32 :: b :: t) = (lexFrom 4 (b :: t)).map (⟨4, [32], 3⟩ :: ·) := lex_cons (pos := 3) e4 (by decide) (by simp)
  have s5 : lexFrom 4 (b :: t) = .ok [⟨2, b :: t, 4⟩] := by
    have := first_whole (b :: t) (by rw [hf]; simp) (by rw [hf]) 4
    rw [hf] at this
    exact this
  show lexFrom 0 (49 :: 32 :: 43 :: 32 :: b :: t) = _
  rw [s1, s2, s3, s4, s5]; rfl
/-- The expression: a constant, or an error. -/
theorem num_expr {ds : List UInt8} (hn : ds ≠ []) (hd : ∀ c ∈ ds, isDigit c = true) (hl : ds.length ≤ 1000) (v : Int) (hv : valL 0 (ds.dropWhile (· == 48)) = v) :
    (0 ≤ v → v ≤ 2147483647 → exprP (envL ([49, 32, 43, 32] ++ ds)) 20 (sigT ([49, 32, 43, 32] ++ ds)) = some (⟨3, 0, 0⟩, .node 6 0 [] [.node 1 1 [] [], .node 1 v [] []])) ∧
    (2147483647 < v → ∃ t, exprP (envL ([49, 32, 43, 32] ++ ds)) 20 (sigT ([49, 32, 43, 32] ++ ds)) = some (⟨2, 4, 2⟩, t)) := by
  have hlx := lex_plus hn hd hl
  have henv : envL ([49, 32, 43, 32] ++ ds) = ⟨[⟨2, [49], 0⟩, ⟨3, [43], 2⟩, ⟨2, ds, 4⟩], ([49, 32, 43, 32] ++ ds).length⟩ := by unfold envL; rw [hlx]; rfl
  have hsig : sigT ([49, 32, 43, 32] ++ ds) = ⟨0, 0, 0⟩ := by unfold sigT; rw [hlx]
  rw [henv, hsig]
  generalize ([49, 32, 43, 32] ++ ds).length = L
  obtain ⟨b, t, rfl⟩ : ∃ b t, ds = b :: t := by cases ds with
    | nil => exact absurd rfl hn
    | cons b t => exact ⟨b, t, rfl⟩
  have hb := hd b (by simp)
  have d45 : ((b :: t) == [45]) = false := by
    rw [beq_eq_false_iff_ne]; intro e; injection e with e1 _; rw [e1] at hb; revert hb; decide
  have d33 : ((b :: t) == [33]) = false := by
    rw [beq_eq_false_iff_ne]; intro e; injection e with e1 _; rw [e1] at hb; revert hb; decide
  have d40 : ((b :: t) == [40]) = false := by
    rw [beq_eq_false_iff_ne]; intro e; injection e with e1 _; rw [e1] at hb; revert hb; decide
  generalize hE : (⟨[⟨2, [49], 0⟩, ⟨3, [43], 2⟩, ⟨2, b :: t, 4⟩], L⟩ : Env) = E
  have hlen : E.ts.length = 3 := by rw [← hE]; rfl
  have hm2 : more E ⟨2, 0, 0⟩ = true := by unfold more; rw [hlen]; rfl
  have hc2 : cur E ⟨2, 0, 0⟩ = ⟨2, b :: t, 4⟩ := by rw [← hE]; rfl
  have hse : ∀ x, sees E ⟨2, 0, 0⟩ x = ((b :: t) == x) := by intro x; unfold sees; rw [hm2, hc2]; rfl
  have hpri : ∀ σ v', numP E ⟨2, 0, 0⟩ 0 2147483647 = (σ, v') → unary E 15 ⟨2, 0, 0⟩ = some (σ, .node 1 v' [] []) := by
    intro σ v' h
    rw [unary, hse, d45]
    simp only [Bool.false_eq_true, if_false]
    rw [hse, d33]
    simp only [Bool.false_eq_true, if_false]
    rw [primary, hse, d40, hm2, hc2]
    simp [h]
  have h1 : unary E 18 ⟨0, 0, 0⟩ = some (⟨1, 0, 0⟩, .node 1 1 [] []) := by rw [← hE]; rfl
  have hm1 : more E ⟨1, 0, 0⟩ = true := by unfold more; rw [hlen]; rfl
  have hc1 : cur E ⟨1, 0, 0⟩ = ⟨3, [43], 2⟩ := by rw [← hE]; rfl
  have hop : opOf [43] = some 6 := by rfl
  have hlv : level 6 = 9 := by rfl
  constructor
  · intro h0 hvm
    have hnum : numP E ⟨2, 0, 0⟩ 0 2147483647 = (⟨3, 0, 0⟩, v) := by
      unfold numP
      rw [hm2, hc2]
      simp only [decide_true, Bool.and_self, if_true]
      rw [digitsVal_le _ _ (by omega) (by rw [hv]; exact hvm), hv, if_neg (by omega)]; rfl
    have hm3 : more E ⟨3, 0, 0⟩ = false := by unfold more; rw [hlen]; rfl
    have h2 := hpri _ _ hnum
    have h3 : binary E 16 10 ⟨2, 0, 0⟩ = some (⟨3, 0, 0⟩, .node 1 v [] []) := by
      rw [binary, h2, Option.bind_some, binLoop, hm3]; rfl
    have h4 : binary E 19 0 ⟨0, 0, 0⟩ = some (⟨3, 0, 0⟩, .node 6 0 [] [.node 1 1 [] [], .node 1 v [] []]) := by
      rw [binary, h1, Option.bind_some, binLoop, hm1, hc1]
      simp only [if_true, hop, hlv]
      have h5 : binary E 17 10 (adv ⟨1, 0, 0⟩) = some (⟨3, 0, 0⟩, .node 1 v [] []) := binary_le E (by omega) h3
      rw [if_neg (by omega), h5, Option.bind_some, binLoop, hm3]; rfl
    have h6 := binary_le E (show 19 ≤ 20 by omega) h4
    unfold exprP
    rw [h6]
    simp only [Option.map_some, hm3, Bool.false_eq_true, if_false]
    rfl
  · intro hvm
    have hhere : here E ⟨2, 0, 0⟩ = 4 := by unfold here; rw [hlen, hc2]; rfl
    have hnum : numP E ⟨2, 0, 0⟩ 0 2147483647 = (⟨2, 4, 2⟩, 0) := by
      unfold numP
      rw [hm2, hc2]
      simp only [decide_true, Bool.and_self, if_true]
      have := digitsVal_gt (high := 2147483647) ((b :: t).dropWhile (· == 48)) 0 (by omega) (by rw [hv]; exact hvm)
      rw [if_pos (by right; exact this), hhere]; rfl
    have hm3 : more E ⟨2, 4, 2⟩ = false := by unfold more; rw [hlen]; rfl
    have h2 := hpri _ _ hnum
    have h3 : binary E 16 10 ⟨2, 0, 0⟩ = some (⟨2, 4, 2⟩, .node 1 0 [] []) := by
      rw [binary, h2, Option.bind_some, binLoop, hm3]; rfl
    have h4 : binary E 19 0 ⟨0, 0, 0⟩ = some (⟨2, 4, 2⟩, .node 6 0 [] [.node 1 1 [] [], .node 1 0 [] []]) := by
      rw [binary, h1, Option.bind_some, binLoop, hm1, hc1]
      simp only [if_true, hop, hlv]
      have h5 : binary E 17 10 (adv ⟨1, 0, 0⟩) = some (⟨2, 4, 2⟩, .node 1 0 [] []) := binary_le E (by omega) h3
      rw [if_neg (by omega), h5, Option.bind_some, binLoop, hm3]; rfl
    have h6 := binary_le E (show 19 ≤ 20 by omega) h4
    refine ⟨.node 6 0 [] [.node 1 1 [] [], .node 1 0 [] []], ?_⟩
    unfold exprP
    rw [h6]
    simp only [Option.map_some, hm3, Bool.false_eq_true, if_false]
    rfl
end Go.Proofs.YtkeehpgnljieeaaDoor.PP
