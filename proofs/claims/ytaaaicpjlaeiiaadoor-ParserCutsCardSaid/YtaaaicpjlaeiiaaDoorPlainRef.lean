/- The reference's lexer as plain functions, and that it answers as the lexer does. -/
import Derived.Test.YtaaaicpjlaeiiaaDoorPlainLex2
namespace Go.Proofs.YtaaaicpjlaeiiaaDoor.PL

def refKind (l : List UInt8) : Nat :=
  match l with
  | [] => 0
  | b :: _ =>
    if isLetter b && l.all isInner then 1
    else if l.all isDigit then 2
    else if signs.contains l then 3
    else if l.all isSpace then 4
    else if (b == 35) && l.all isText then 5
    else 0

theorem letter_space {b : UInt8} (h : isLetter b = true) : isSpace b = false := by
  simp [isLetter, UInt8.le_iff_toNat_le] at h
  cases hb : isSpace b with
  | false => rfl
  | true => simp [isSpace, ← UInt8.toNat_inj] at hb; omega
theorem digit_letter {b : UInt8} (h : isDigit b = true) : isLetter b = false := by
  simp [isDigit, UInt8.le_iff_toNat_le] at h
  cases hb : isLetter b with
  | false => rfl
  | true => simp [isLetter, UInt8.le_iff_toNat_le] at hb; omega
theorem letter_digit {b : UInt8} (h : isLetter b = true) : isDigit b = false := by
  cases hb : isDigit b with
  | false => rfl
  | true => rw [digit_letter hb] at h; cases h
theorem digit_space {b : UInt8} (h : isDigit b = true) : isSpace b = false := by
  simp [isDigit, UInt8.le_iff_toNat_le] at h
  cases hb : isSpace b with
  | false => rfl
  | true => simp [isSpace, ← UInt8.toNat_inj] at hb; omega
theorem letter_35 {b : UInt8} (h : isLetter b = true) : (b == 35) = false := by
  simp [isLetter, UInt8.le_iff_toNat_le] at h
  cases hb : (b == 35) with
  | false => rfl
  | true => simp [← UInt8.toNat_inj] at hb; omega
theorem digit_35 {b : UInt8} (h : isDigit b = true) : (b == 35) = false := by
  simp [isDigit, UInt8.le_iff_toNat_le] at h
  cases hb : (b == 35) with
  | false => rfl
  | true => simp [← UInt8.toNat_inj] at hb; omega
theorem space_35 {b : UInt8} (h : isSpace b = true) : (b == 35) = false := by
  cases hb : (b == 35) with
  | false => rfl
  | true => simp [isSpace, ← UInt8.toNat_inj] at h hb; omega
theorem sign_class : ∀ g ∈ signs, ∀ b ∈ g, isLetter b = false ∧ isDigit b = false ∧ isSpace b = false ∧ (b == 35) = false := by decide
theorem sign_none {b : UInt8} {t : List UInt8} (h : isLetter b = true ∨ isDigit b = true ∨ isSpace b = true ∨ (b == 35) = true) : signs.contains (b :: t) = false := by
  cases hc : signs.contains (b :: t) with
  | false => rfl
  | true =>
    have hm : (b :: t) ∈ signs := by simpa using hc
    obtain ⟨h1, h2, h3, h4⟩ := sign_class _ hm b (by simp)
    rcases h with h | h | h | h
    · rw [h1] at h; cases h
    · rw [h2] at h; cases h
    · rw [h3] at h; cases h
    · rw [h4] at h; cases h

/-- A run of bytes of a kind: just the prefixes that are no longer consist of that kind alone. -/
theorem all_take (p : UInt8 → Bool) : ∀ (t : List UInt8) (j : Nat), j ≤ t.length → (t.take j).all p = decide (j ≤ (t.takeWhile p).length)
  | [], j, h => by simp at h; simp [h]
  | a :: t, 0, _ => by simp
  | a :: t, j + 1, h => by
    cases hp : p a with
    | false => simp [hp]
    | true =>
      have ih := all_take p t j (by simpa using h)
      simp [hp, ih]
theorem find_none_of {l : List UInt8} (h : signs.find? (fun g => g.isPrefixOf l) = none) (j : Nat) : signs.contains (l.take j) = false := by
  cases hc : signs.contains (l.take j) with
  | false => rfl
  | true =>
    have hm : l.take j ∈ signs := by simpa using hc
    have := List.find?_eq_none.1 h _ hm
    exact absurd (List.isPrefixOf_iff_prefix.2 (List.take_prefix _ _)) this
theorem find_long {l g : List UInt8} (h : signs.find? (fun g => g.isPrefixOf l) = some g) (j : Nat) (hj : g.length < j) (hl : j ≤ l.length) : signs.contains (l.take j) = false := by
  cases hc : signs.contains (l.take j) with
  | false => rfl
  | true =>
    exfalso
    have hm : l.take j ∈ signs := by simpa using hc
    have hp : (l.take j).isPrefixOf l = true := List.isPrefixOf_iff_prefix.2 (List.take_prefix _ _)
    have hlen : (l.take j).length = j := by simp; omega
    have hmax : ∀ g ∈ signs, g.length = 1 ∨ g.length = 2 := by decide
    have hg1 := hmax g (List.mem_of_find?_eq_some h)
    have hg2 := hmax _ hm
    have hlg : g.length = 1 := by omega
    have hl2 : (l.take j).length = 2 := by omega
    have hsplit : signs = signs.take 8 ++ signs.drop 8 := by rfl
    rw [hsplit, List.find?_append] at h
    have hin : ∀ g ∈ signs, g.length = 2 → g ∈ signs.take 8 := by decide
    cases hf : (signs.take 8).find? (fun g => g.isPrefixOf l) with
    | none =>
      exact absurd hp (List.find?_eq_none.1 hf _ (hin _ hm hl2))
    | some g' =>
      rw [hf] at h
      simp only [Option.some_or, Option.some.injEq] at h
      subst h
      have h8 : ∀ g ∈ signs.take 8, g.length = 2 := by decide
      have := h8 _ (List.mem_of_find?_eq_some hf)
      omega
theorem take_cons_pos {b : UInt8} {t : List UInt8} {j : Nat} (h : 1 ≤ j) : (b :: t).take j = b :: t.take (j - 1) := by
  obtain ⟨j, rfl⟩ : ∃ i, j = i + 1 := ⟨j - 1, by omega⟩
  simp
/-- A prefix of a text is a token of the reference's just where it is no longer than .. : the first token is the longest. -/
theorem ref_first (l : List UInt8) (hl : l ≠ []) (j : Nat) (h1 : 1 ≤ j) (h2 : j ≤ l.length) :
    (j = (first l).2 → refKind (l.take j) = (first l).1 ∧ (first l).1 ≠ 0) ∧ ((first l).2 < j → refKind (l.take j) = 0) := by
  match l, hl with
  | b :: t, _ =>
    have hjt : j - 1 ≤ t.length := by simp at h2; omega
    rw [take_cons_pos h1]
    by_cases c1 : isLetter b = true
    · have e : first (b :: t) = (1, count isInner (b :: t)) := by simp [first, c1]
      have ci : isInner b = true := by simp [isInner, c1]
      have ha := all_take isInner t (j - 1) hjt
      have hd := letter_digit c1
      have hsp := letter_space c1
      have h35 := letter_35 c1
      have hsg := sign_none (t := t.take (j - 1)) (.inl c1)
      rw [e]
      simp only [refKind, c1, List.all_cons, ci, ha, hd, hsp, h35, hsg, count, List.tail_cons]
      refine ⟨fun h => ?_, fun h => ?_⟩
      · rw [show decide (j - 1 ≤ (t.takeWhile isInner).length) = true from by simp; omega]; simp
      · rw [show decide (j - 1 ≤ (t.takeWhile isInner).length) = false from by simp; omega]; simp
    · have c1' : isLetter b = false := by simpa using c1
      by_cases c2 : isDigit b = true
      · have e : first (b :: t) = (2, count isDigit (b :: t)) := by simp [first, c1, c2]
        have ha := all_take isDigit t (j - 1) hjt
        have hsp := digit_space c2
        have h35 := digit_35 c2
        have hsg := sign_none (t := t.take (j - 1)) (.inr (.inl c2))
        rw [e]
        simp only [refKind, c1', List.all_cons, c2, ha, hsp, h35, hsg, count, List.tail_cons]
        refine ⟨fun h => ?_, fun h => ?_⟩
        · rw [show decide (j - 1 ≤ (t.takeWhile isDigit).length) = true from by simp; omega]; simp
        · rw [show decide (j - 1 ≤ (t.takeWhile isDigit).length) = false from by simp; omega]; simp
      · have c2' : isDigit b = false := by simpa using c2
        by_cases c3 : isSpace b = true
        · have e : first (b :: t) = (4, count isSpace (b :: t)) := by simp [first, c1, c2, c3]
          have ha := all_take isSpace t (j - 1) hjt
          have h35 := space_35 c3
          have hsg := sign_none (t := t.take (j - 1)) (.inr (.inr (.inl c3)))
          rw [e]
          simp only [refKind, c1', c2', List.all_cons, c3, ha, h35, hsg, count, List.tail_cons]
          refine ⟨fun h => ?_, fun h => ?_⟩
          · rw [show decide (j - 1 ≤ (t.takeWhile isSpace).length) = true from by simp; omega]; simp
          · rw [show decide (j - 1 ≤ (t.takeWhile isSpace).length) = false from by simp; omega]; simp
        · have c3' : isSpace b = false := by simpa using c3
          by_cases c4 : (b == 35) = true
          · have e : first (b :: t) = (5, count isText (b :: t)) := by simp only [first, c1', c2', c3', c4]; simp
            have ci : isText b = true := by
              have : b = 35 := by simpa using c4
              rw [this]; decide
            have ha := all_take isText t (j - 1) hjt
            have hsg := sign_none (t := t.take (j - 1)) (.inr (.inr (.inr c4)))
            rw [e]
            simp only [refKind, c1', c2', c3', List.all_cons, c4, ci, ha, hsg, count, List.tail_cons]
            refine ⟨fun h => ?_, fun h => ?_⟩
            · rw [show decide (j - 1 ≤ (t.takeWhile isText).length) = true from by simp; omega]; simp
            · rw [show decide (j - 1 ≤ (t.takeWhile isText).length) = false from by simp; omega]; simp
          · have c4' : (b == 35) = false := by simpa using c4
            cases hf : signs.find? (fun g => g.isPrefixOf (b :: t)) with
            | none =>
              have e : first (b :: t) = (0, 0) := by simp only [first, c1', c2', c3', c4', hf]; simp
              have hsg := find_none_of hf j
              rw [take_cons_pos h1] at hsg
              rw [e]
              simp only [refKind, c1', c2', c3', c4', List.all_cons, hsg]
              refine ⟨fun h => absurd h (by omega), fun _ => by simp⟩
            | some g =>
              have e : first (b :: t) = (3, g.length) := by simp only [first, c1', c2', c3', c4', hf]; simp
              rw [e]
              refine ⟨fun h => ?_, fun h => ?_⟩
              · have hm := List.mem_of_find?_eq_some hf
                have hp0 := List.find?_some hf
                have hp : g <+: (b :: t) := List.isPrefixOf_iff_prefix.1 hp0
                have hsg : signs.contains ((b :: t).take j) = true := by
                  have := List.prefix_iff_eq_take.1 hp
                  have h' : j = g.length := h
                  rw [h', ← this]; simpa using hm
                rw [take_cons_pos h1] at hsg
                simp only [refKind, c1', c2', List.all_cons, hsg]
                simp
              · have hsg := find_long hf j h h2
                rw [take_cons_pos h1] at hsg
                simp only [refKind, c1', c2', c3', c4', List.all_cons, hsg]
                simp

/-- A text that is a word of the reference's is one token. -/
theorem ref_word (l : List UInt8) (hl : l ≠ []) : decide (refKind l = 1) = (decide ((first l).1 = 1) && decide ((first l).2 = l.length)) := by
  have h1 : 1 ≤ l.length := List.length_pos_iff.2 hl
  have h := ref_first l hl l.length h1 (Nat.le_refl _)
  rw [List.take_length] at h
  have hle := first_le l
  by_cases he : (first l).2 = l.length
  · rw [(h.1 he.symm).1]; simp [he]
  · rw [h.2 (by omega)]; simp [he]

def keywords : List (List UInt8) := [[97, 114, 114, 97, 121], [98, 111, 117, 110, 100], [101, 108, 115, 101], [102, 111, 114], [105, 102], [105, 110], [108, 111, 99, 107], [111, 117, 116], [112, 101, 114, 105, 111, 100], [115, 104, 97, 114, 101, 100], [116, 97, 115, 107], [118, 97, 114], [119, 104, 105, 108, 101]]
def isName (l : List UInt8) : Bool := !l.isEmpty && decide (l.length ≤ 12) && !keywords.contains l && (decide ((first l).1 = 1) && decide ((first l).2 = l.length))
def refName (l : List UInt8) : Bool := decide (refKind l = 1) && decide (l.length ≤ 12) && !keywords.contains l
theorem name_eq (l : List UInt8) : isName l = refName l := by
  unfold isName refName
  by_cases hl : l = []
  · subst hl; simp [refKind]
  · rw [ref_word l hl]
    have : l.isEmpty = false := by simpa using hl
    rw [this]
    cases decide ((first l).1 = 1) <;> cases decide ((first l).2 = l.length) <;> cases decide (l.length ≤ 12) <;> simp
theorem keyword_word : ∀ l ∈ keywords, lex l = ([⟨1, l, 0⟩], 0, 0) := by decide
theorem name_word {l : List UInt8} (h : isName l = true) : lex l = ([⟨1, l, 0⟩], 0, 0) := by
  unfold isName at h
  simp only [Bool.and_eq_true, decide_eq_true_eq] at h
  obtain ⟨⟨⟨h1, h2⟩, _⟩, h3, h4⟩ := h
  have hl : l ≠ [] := by simpa using h1
  have hp := List.length_pos_iff.2 hl
  refine lex_of_ok (by omega) ?_
  rw [first_whole l (by omega) h4 0, h3]
theorem name_keyword {l : List UInt8} (h : keywords.contains l = true) : isName l = false := by
  unfold isName; rw [h]; simp
end Go.Proofs.YtaaaicpjlaeiiaaDoor.PL
