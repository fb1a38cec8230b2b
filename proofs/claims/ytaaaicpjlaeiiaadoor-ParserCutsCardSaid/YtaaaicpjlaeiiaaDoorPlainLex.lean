/- The lexer as plain functions on lists of bytes. -/
import Derived.PlainAid
namespace Go.Proofs.YtaaaicpjlaeiiaaDoor.PL

def isLetter (c : UInt8) : Bool := 97 ≤ c && c ≤ 122
def isDigit (c : UInt8) : Bool := 48 ≤ c && c ≤ 57
def isInner (c : UInt8) : Bool := isLetter c || isDigit c
def isSpace (c : UInt8) : Bool := c == 32 || c == 9 || c == 13 || c == 10
def isText (c : UInt8) : Bool := c != 10

theorem isLetter_eq (c : UInt8) : isLetter c = (decide ((97 : Int) ≤ (c.toNat : Int)) && decide ((c.toNat : Int) ≤ 122)) := by
  rw [Bool.eq_iff_iff]; simp [isLetter, UInt8.le_iff_toNat_le]; omega
theorem isDigit_eq (c : UInt8) : isDigit c = (decide ((48 : Int) ≤ (c.toNat : Int)) && decide ((c.toNat : Int) ≤ 57)) := by
  rw [Bool.eq_iff_iff]; simp [isDigit, UInt8.le_iff_toNat_le]; omega
theorem byte_beq (c d : UInt8) : (c == d) = ((c.toNat : Int) == (d.toNat : Int)) := by
  rw [Bool.eq_iff_iff]; simp [← UInt8.toNat_inj]; omega
theorem byte_bne (c d : UInt8) : (c != d) = ((c.toNat : Int) != (d.toNat : Int)) := by
  unfold bne; rw [byte_beq]
theorem isSpace_eq (c : UInt8) : isSpace c = (((c.toNat : Int) == 32) || ((c.toNat : Int) == 9) || ((c.toNat : Int) == 13) || ((c.toNat : Int) == 10)) := by
  unfold isSpace; rw [byte_beq, byte_beq, byte_beq, byte_beq]; rfl
theorem isText_eq (c : UInt8) : isText c = ((c.toNat : Int) != 10) := by
  unfold isText; rw [byte_bne]; rfl

/-- The length of the longest run of bytes of a kind at the start of a text; its first byte counts in any case. -/
def count (p : UInt8 → Bool) (l : List UInt8) : Nat := 1 + (l.tail.takeWhile p).length

theorem takeWhile_length {α : Type} (p : α → Bool) : ∀ (l : List α) (m : Nat), m ≤ l.length → (∀ i (h : i < l.length), i < m → p l[i] = true) → (m = l.length ∨ ∃ h : m < l.length, p l[m] = false) → (l.takeWhile p).length = m
  | [], m, h, _, _ => by simp at h; simp [h]
  | a :: l, 0, _, _, h => by
    rcases h with h | ⟨_, h⟩
    · simp at h
    · simp at h; simp [h]
  | a :: l, m + 1, h1, h2, h3 => by
    have ha := h2 0 (by simp) (by omega)
    simp only [List.getElem_cons_zero] at ha
    have ih := takeWhile_length p l m (by simpa using h1) (fun i hi him => by
      have := h2 (i + 1) (by simpa using hi) (by omega)
      simpa using this) (by
      rcases h3 with h3 | ⟨h3, h4⟩
      · left; simpa using h3
      · right; exact ⟨by simpa using h3, by simpa using h4⟩)
    simp [ha, ih]

/-- What the loop of the count has seen after k rounds. -/
def Ran (p : UInt8 → Bool) (s : ByteArray) (k : Nat) : Prop := 1 ≤ k ∧ k ≤ s.size ∧ ∀ i (h : i < s.size), 1 ≤ i → i < k → p s[i] = true
theorem Ran.start (p : UInt8 → Bool) (s : ByteArray) (h : 1 ≤ s.size) : Ran p s 1 := ⟨by omega, h, fun i _ h1 h2 => by omega⟩
theorem Ran.next {p : UInt8 → Bool} {s : ByteArray} {k : Nat} (h : Ran p s k) (hk : k < s.size) (hp : p s[k] = true) : Ran p s (k + 1) :=
  ⟨by omega, by omega, fun i hi h1 h2 => by
    rcases Nat.lt_or_ge i k with h3 | h3
    · exact h.2.2 i hi h1 h3
    · obtain rfl : i = k := by omega
      exact hp⟩
theorem Ran.done {p : UInt8 → Bool} {s : ByteArray} {k : Nat} (h : Ran p s k) (hd : k = s.size ∨ ∃ h : k < s.size, p s[k] = false) : count p s.data.toList = k := by
  obtain ⟨h1, h2, h3⟩ := h
  have hl : s.data.toList.length = s.size := Array.length_toList
  unfold count
  rw [takeWhile_length p s.data.toList.tail (k - 1)]
  · omega
  · simp [hl]; omega
  · intro i hi hik
    simp only [List.getElem_tail]
    have hi' : i + 1 < s.size := by simp [hl] at hi; omega
    exact h3 (i + 1) hi' (by omega) (by omega)
  · rcases hd with hd | ⟨hk, hd⟩
    · left; simp [hl]; omega
    · right
      refine ⟨by simp [hl]; omega, ?_⟩
      simp only [List.getElem_tail]
      have e : k - 1 + 1 = k := by omega
      simp only [e]
      exact hd

def signs : List (List UInt8) := [[60, 60], [62, 62], [60, 61], [62, 61], [61, 61], [33, 61], [38, 38], [124, 124], [43], [45], [42], [47], [37], [38], [124], [94], [60], [62], [33], [61], [91], [93], [123], [125], [40], [41], [59], [44]]

/-- The kind and the length of the first token of a text. -/
def first (l : List UInt8) : Nat × Nat :=
  match l with
  | [] => (0, 0)
  | b :: _ =>
    if isLetter b then (1, count isInner l)
    else if isDigit b then (2, count isDigit l)
    else if isSpace b then (4, count isSpace l)
    else if b == 35 then (5, count isText l)
    else match signs.find? (fun g => g.isPrefixOf l) with
      | some g => (3, g.length)
      | none => (0, 0)

theorem count_pos (p : UInt8 → Bool) (l : List UInt8) : 1 ≤ count p l := by unfold count; omega
theorem count_le (p : UInt8 → Bool) (l : List UInt8) (h : 1 ≤ l.length) : count p l ≤ l.length := by
  unfold count
  have := (List.takeWhile_prefix (l := l.tail) p).length_le
  simp at this
  omega
theorem first_le (l : List UInt8) : (first l).2 ≤ l.length := by
  unfold first
  split
  · simp
  · rename_i b t
    repeat' split
    all_goals first | exact count_le _ _ (by simp) | skip
    · rename_i g hg
      have := List.find?_some hg
      exact (List.isPrefixOf_iff_prefix.1 this).length_le
    · simp
theorem first_kind (l : List UInt8) : (first l).1 ≤ 5 := by
  unfold first
  split
  · simp
  · repeat' split
    all_goals simp

structure Tok where
  kind : Nat
  text : List UInt8
  pos : Nat
  deriving DecidableEq, Repr

/-- The tokens from an offset on, or the offset of the error. -/
def lexN : Nat → Nat → List UInt8 → Except Nat (List Tok)
  | _, _, [] => .ok []
  | 0, pos, _ :: _ => .error pos
  | n + 1, pos, b :: t =>
    let km := first (b :: t)
    if km.2 = 0 then .error pos
    else (lexN n (pos + km.2) ((b :: t).drop km.2)).map (⟨km.1, (b :: t).take km.2, pos⟩ :: ·)
def lexFrom (pos : Nat) (l : List UInt8) : Except Nat (List Tok) := lexN l.length pos l

theorem lexN_fuel : ∀ (n : Nat) (m pos : Nat) (l : List UInt8), l.length ≤ n → l.length ≤ m → lexN n pos l = lexN m pos l
  | 0, m, pos, [], _, _ => by simp [lexN]
  | n + 1, m, pos, [], _, _ => by simp [lexN]
  | 0, m, pos, b :: t, h, _ => by simp at h
  | n + 1, 0, pos, b :: t, _, h => by simp at h
  | n + 1, m + 1, pos, b :: t, h1, h2 => by
    simp only [lexN]
    by_cases h0 : (first (b :: t)).2 = 0
    · simp [h0]
    · simp only [h0, if_false]
      rw [lexN_fuel n m]
      · simp at h1 ⊢; omega
      · simp at h2 ⊢; omega
theorem lexFrom_nil (pos : Nat) : lexFrom pos [] = .ok [] := by simp [lexFrom, lexN]
theorem lexFrom_bad (pos : Nat) (l : List UInt8) (hl : l ≠ []) (h : (first l).2 = 0) : lexFrom pos l = .error pos := by
  unfold lexFrom
  match l, hl with
  | b :: t, _ => simp [lexN, h]
theorem lexFrom_step (pos : Nat) (l : List UInt8) (hl : l ≠ []) (h : (first l).2 ≠ 0) :
    lexFrom pos l = (lexFrom (pos + (first l).2) (l.drop (first l).2)).map (⟨(first l).1, l.take (first l).2, pos⟩ :: ·) := by
  unfold lexFrom
  match l, hl with
  | b :: t, _ =>
    simp only [List.length_cons, lexN, h, if_false]
    rw [lexN_fuel]
    · simp; omega
    · exact Nat.le_refl _

/-- What Lex answers: the tokens, the offset, the error. -/
def lex (l : List UInt8) : List Tok × Nat × Nat :=
  if 65536 < l.length then ([], 0, 5)
  else match lexFrom 0 l with
    | .ok ts => (ts, 0, 0)
    | .error p => ([], p, 3)

/-- What the loop of Lex has done up to an offset. -/
def Lexed (l : List UInt8) (pos : Nat) (ts : List Tok) : Prop :=
  pos ≤ l.length ∧ ts.length ≤ pos ∧ lexFrom 0 l = (lexFrom pos (l.drop pos)).map (ts ++ ·)
theorem Lexed.start (l : List UInt8) : Lexed l 0 [] := ⟨by simp, by simp, by
  simp only [List.drop_zero]
  cases lexFrom 0 l <;> simp [Except.map]⟩
theorem Lexed.next {l : List UInt8} {pos : Nat} {ts : List Tok} (h : Lexed l pos ts) (hp : pos < l.length) (h0 : (first (l.drop pos)).2 ≠ 0) :
    Lexed l (pos + (first (l.drop pos)).2) (ts ++ [⟨(first (l.drop pos)).1, (l.drop pos).take (first (l.drop pos)).2, pos⟩]) := by
  have hle := first_le (l.drop pos)
  simp at hle
  refine ⟨by omega, by have := h.2.1; simp; omega, ?_⟩
  rw [h.2.2, lexFrom_step pos _ (by simp; omega) h0, List.drop_drop]
  cases lexFrom (pos + (first (l.drop pos)).2) (l.drop (pos + (first (l.drop pos)).2)) <;> simp [Except.map]
theorem Lexed.bad {l : List UInt8} {pos : Nat} {ts : List Tok} (h : Lexed l pos ts) (hp : pos < l.length) (h0 : (first (l.drop pos)).2 = 0) (hl : l.length ≤ 65536) :
    lex l = ([], pos, 3) := by
  unfold lex
  rw [if_neg (by omega), h.2.2, lexFrom_bad pos _ (by simp; omega) h0]
  rfl
theorem Lexed.done {l : List UInt8} {ts : List Tok} (h : Lexed l l.length ts) (hl : l.length ≤ 65536) : lex l = (ts, 0, 0) := by
  unfold lex
  rw [if_neg (by omega), h.2.2]
  simp [lexFrom_nil, Except.map]
theorem lex_full {l : List UInt8} (hl : 65536 < l.length) : lex l = ([], 0, 5) := by
  unfold lex
  rw [if_pos hl]

end Go.Proofs.YtaaaicpjlaeiiaaDoor.PL
