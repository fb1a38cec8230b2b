/- Merged from PlainLex, PlainLex2, PlainRef, PlainPar, PlainPar2, PlainPar3, PlainPar4, PlainPar5, PlainLex3, PlainLevels, PlainCtx, PlainParens (wip/pack.py). -/
import Derived.PlainAid
/- The lexer as plain functions on lists of bytes. -/
namespace Go.Proofs.YtkeehpgnljieeaaDoor.PL

def isLetter (c : UInt8) : Bool := 97 ≤ c && c ≤ 122
def isDigit (c : UInt8) : Bool := 48 ≤ c && c ≤ 57
def isInner (c : UInt8) : Bool := isLetter c || isDigit c
def isSpace (c : UInt8) : Bool := c == 32 || c == 9 || c == 13 || c == 10
def isText (c : UInt8) : Bool := c != 10

theorem isLetter_eq (c : UInt8) : isLetter c = (decide ((97 : Int) ≤ (c.toNat : Int)) && decide ((c.toNat : Int) ≤ 122)) := by
  rw [Bool.eq_iff_iff]; simp [isLetter, UInt8.le_iff_toNat_le]; omega
theorem isDigit_eq (c : UInt8) : isDigit c = (decide ((48 : Int) ≤ (c.toNat : Int)) && decide ((c.toNat : Int) ≤ 57)) := by
  rw [Bool.eq_iff_iff]; simp [isDigit, UInt8.le_iff_toNat_le]; omega
theorem byte_beq (c d : UInt8) : (c == d) = ((c.toNat : Int) == (d.toNat : Int)) := by
  rw [Bool.eq_iff_iff]; simp [← UInt8.toNat_inj]; omega
theorem byte_bne (c d : UInt8) : (c != d) = ((c.toNat : Int) != (d.toNat : Int)) := by
  unfold bne; rw [byte_beq]
theorem isSpace_eq (c : UInt8) : isSpace c = (((c.toNat : Int) == 32) || ((c.toNat : Int) == 9) || ((c.toNat : Int) == 13) || ((c.toNat : Int) == 10)) := by
  unfold isSpace; rw [byte_beq, byte_beq, byte_beq, byte_beq]; rfl
theorem isText_eq (c : UInt8) : isText c = ((c.toNat : Int) != 10) := by
  unfold isText; rw [byte_bne]; rfl

/-- The length of the longest run of bytes of a kind at the start of a text; its first byte counts in any case. -/
def count (p : UInt8 → Bool) (l : List UInt8) : Nat := 1 + (l.tail.takeWhile p).length

theorem takeWhile_length {α : Type} (p : α → Bool) : ∀ (l : List α) (m : Nat), m ≤ l.length → (∀ i (h : i < l.length), i < m → p l[i] = true) → (m = l.length ∨ ∃ h : m < l.length, p l[m] = false) → (l.takeWhile p).length = m
  | [], m, h, _, _ => by simp at h; simp [h]
  | a :: l, 0, _, _, h => by
    rcases h with h | ⟨_, h⟩
    · simp at h
    · simp at h; simp [h]
  | a :: l, m + 1, h1, h2, h3 => by
    have ha := h2 0 (by simp) (by omega)
    simp only [List.getElem_cons_zero] at ha
    have ih := takeWhile_length p l m (by simpa using h1) (fun i hi him => by
      have := h2 (i + 1) (by simpa using hi) (by omega)
      simpa using this) (by
      rcases h3 with h3 | ⟨h3, h4⟩
      · left; simpa using h3
      · right; exact ⟨by simpa using h3, by simpa using h4⟩)
    simp [ha, ih]

/-- What the loop of the count has seen after k rounds. -/
def Ran (p : UInt8 → Bool) (s : ByteArray) (k : Nat) : Prop := 1 ≤ k ∧ k ≤ s.size ∧ ∀ i (h : i < s.size), 1 ≤ i → i < k → p s[i] = true
theorem Ran.start (p : UInt8 → Bool) (s : ByteArray) (h : 1 ≤ s.size) : Ran p s 1 := ⟨by omega, h, fun i _ h1 h2 => by omega⟩
theorem Ran.next {p : UInt8 → Bool} {s : ByteArray} {k : Nat} (h : Ran p s k) (hk : k < s.size) (hp : p s[k] = true) : Ran p s (k + 1) :=
  ⟨by omega, by omega, fun i hi h1 h2 => by
    rcases Nat.lt_or_ge i k with h3 | h3
    · exact h.2.2 i hi h1 h3
    · obtain rfl : i = k := by omega
      exact hp⟩
theorem Ran.done {p : UInt8 → Bool} {s : ByteArray} {k : Nat} (h : Ran p s k) (hd : k = s.size ∨ ∃ h : k < s.size, p s[k] = false) : count p s.data.toList = k := by
  obtain ⟨h1, h2, h3⟩ := h
  have hl : s.data.toList.length = s.size := Array.length_toList
  unfold count
  rw [takeWhile_length p s.data.toList.tail (k - 1)]
  · omega
  · simp [hl]; omega
  · intro i hi hik
    simp only [List.getElem_tail]
    have hi' : i + 1 < s.size := by simp [hl] at hi; omega
    exact h3 (i + 1) hi' (by omega) (by omega)
  · rcases hd with hd | ⟨hk, hd⟩
    · left; simp [hl]; omega
    · right
      refine ⟨by simp [hl]; omega, ?_⟩
      simp only [List.getElem_tail]
      have e : k - 1 + 1 = k := by omega
      simp only [e]
      exact hd

def signs : List (List UInt8) := [[60, 60], [62, 62], [60, 61], [62, 61], [61, 61], [33, 61], [38, 38], [124, 124], [43], [45], [42], [47], [37], [38], [124], [94], [60], [62], [33], [61], [91], [93], [123], [125], [40], [41], [59], [44]]

/-- The kind and the length of the first token of a text. -/
def first (l : List UInt8) : Nat × Nat :=
  match l with
  | [] => (0, 0)
  | b :: _ =>
    if isLetter b then (1, count isInner l)
    else if isDigit b then (2, count isDigit l)
    else if isSpace b then (4, count isSpace l)
    else if b == 35 then (5, count isText l)
    else match signs.find? (fun g => g.isPrefixOf l) with
      | some g => (3, g.length)
      | none => (0, 0)

theorem count_pos (p : UInt8 → Bool) (l : List UInt8) : 1 ≤ count p l := by unfold count; omega
theorem count_le (p : UInt8 → Bool) (l : List UInt8) (h : 1 ≤ l.length) : count p l ≤ l.length := by
  unfold count
  have := (List.takeWhile_prefix (l := l.tail) p).length_le
  simp at this
  omega
theorem first_le (l : List UInt8) : (first l).2 ≤ l.length := by
  unfold first
  split
  · simp
  · rename_i b t
    repeat' split
    all_goals first | exact count_le _ _ (by simp) | skip
    · rename_i g hg
      have := List.find?_some hg
      exact (List.isPrefixOf_iff_prefix.1 this).length_le
    · simp
theorem first_kind (l : List UInt8) : (first l).1 ≤ 5 := by
  unfold first
  split
  · simp
  · repeat' split
    all_goals simp

structure Tok where
  kind : Nat
  text : List UInt8
  pos : Nat
  deriving DecidableEq, Repr

/-- The tokens from an offset on, or the offset of the error. -/
def lexN : Nat → Nat → List UInt8 → Except Nat (List Tok)
  | _, _, [] => .ok []
  | 0, pos, _ :: _ => .error pos
  | n + 1, pos, b :: t =>
    let km := first (b :: t)
    if km.2 = 0 then .error pos
    else (lexN n (pos + km.2) ((b :: t).drop km.2)).map (⟨km.1, (b :: t).take km.2, pos⟩ :: ·)
def lexFrom (pos : Nat) (l : List UInt8) : Except Nat (List Tok) := lexN l.length pos l

theorem lexN_fuel : ∀ (n : Nat) (m pos : Nat) (l : List UInt8), l.length ≤ n → l.length ≤ m → lexN n pos l = lexN m pos l
  | 0, m, pos, [], _, _ => by simp [lexN]
  | n + 1, m, pos, [], _, _ => by simp [lexN]
  | 0, m, pos, b :: t, h, _ => by simp at h
  | n + 1, 0, pos, b :: t, _, h => by simp at h
  | n + 1, m + 1, pos, b :: t, h1, h2 => by
    simp only [lexN]
    by_cases h0 : (first (b :: t)).2 = 0
    · simp [h0]
    · simp only [h0, if_false]
      rw [lexN_fuel n m]
      · simp at h1 ⊢; omega
      · simp at h2 ⊢; omega
theorem lexFrom_nil (pos : Nat) : lexFrom pos [] = .ok [] := by simp [lexFrom, lexN]
theorem lexFrom_bad (pos : Nat) (l : List UInt8) (hl : l ≠ []) (h : (first l).2 = 0) : lexFrom pos l = .error pos := by
  unfold lexFrom
  match l, hl with
  | b :: t, _ => simp [lexN, h]
theorem lexFrom_step (pos : Nat) (l : List UInt8) (hl : l ≠ []) (h : (first l).2 ≠ 0) :
    lexFrom pos l = (lexFrom (pos + (first l).2) (l.drop (first l).2)).map (⟨(first l).1, l.take (first l).2, pos⟩ :: ·) := by
  unfold lexFrom
  match l, hl with
  | b :: t, _ =>
    simp only [List.length_cons, lexN, h, if_false]
    rw [lexN_fuel]
    · simp; omega
    · exact Nat.le_refl _

/-- What Lex answers: the tokens, the offset, the error. -/
def lex (l : List UInt8) : List Tok × Nat × Nat :=
  if 65536 < l.length then ([], 0, 5)
  else match lexFrom 0 l with
    | .ok ts => (ts, 0, 0)
    | .error p => ([], p, 3)

/-- What the loop of Lex has done up to an offset. -/
def Lexed (l : List UInt8) (pos : Nat) (ts : List Tok) : Prop :=
  pos ≤ l.length ∧ ts.length ≤ pos ∧ lexFrom 0 l = (lexFrom pos (l.drop pos)).map (ts ++ ·)
theorem Lexed.start (l : List UInt8) : Lexed l 0 [] := ⟨by simp, by simp, by
  simp only [List.drop_zero]
  cases lexFrom 0 l <;> simp [Except.map]⟩
theorem Lexed.next {l : List UInt8} {pos : Nat} {ts : List Tok} (h : Lexed l pos ts) (hp : pos < l.length) (h0 : (first (l.drop pos)).2 ≠ 0) :
    Lexed l (pos + (first (l.drop pos)).2) (ts ++ [⟨(first (l.drop pos)).1, (l.drop pos).take (first (l.drop pos)).2, pos⟩]) := by
  have hle := first_le (l.drop pos)
  simp at hle
  refine ⟨by omega, by have := h.2.1; simp; omega, ?_⟩
  rw [h.2.2, lexFrom_step pos _ (by simp; omega) h0, List.drop_drop]
  cases lexFrom (pos + (first (l.drop pos)).2) (l.drop (pos + (first (l.drop pos)).2)) <;> simp [Except.map]
theorem Lexed.bad {l : List UInt8} {pos : Nat} {ts : List Tok} (h : Lexed l pos ts) (hp : pos < l.length) (h0 : (first (l.drop pos)).2 = 0) (hl : l.length ≤ 65536) :
    lex l = ([], pos, 3) := by
  unfold lex
  rw [if_neg (by omega), h.2.2, lexFrom_bad pos _ (by simp; omega) h0]
  rfl
theorem Lexed.done {l : List UInt8} {ts : List Tok} (h : Lexed l l.length ts) (hl : l.length ≤ 65536) : lex l = (ts, 0, 0) := by
  unfold lex
  rw [if_neg (by omega), h.2.2]
  simp [lexFrom_nil, Except.map]
theorem lex_full {l : List UInt8} (hl : 65536 < l.length) : lex l = ([], 0, 5) := by
  unfold lex
  rw [if_pos hl]

end Go.Proofs.YtkeehpgnljieeaaDoor.PL
/- Plain facts on the tokens of a text. -/
namespace Go.Proofs.YtkeehpgnljieeaaDoor.PL

/-- From an offset and a text, by tokens, to an offset and the rest of the text. -/
inductive Run : Nat → List UInt8 → List Tok → Nat → List UInt8 → Prop
  | stop (pos : Nat) (l : List UInt8) : Run pos l [] pos l
  | step {pos : Nat} {l : List UInt8} {ts : List Tok} {p : Nat} {r : List UInt8} (h0 : (first l).2 ≠ 0) (h : Run (pos + (first l).2) (l.drop (first l).2) ts p r) :
      Run pos l (⟨(first l).1, l.take (first l).2, pos⟩ :: ts) p r

theorem ne_nil_of_first {l : List UInt8} (h : (first l).2 ≠ 0) : l ≠ [] := by
  rintro rfl
  exact h rfl
theorem Run.lex_ok {pos : Nat} {l : List UInt8} {ts : List Tok} {p : Nat} {r : List UInt8} (h : Run pos l ts p r) : lexFrom pos l = (lexFrom p r).map (ts ++ ·) := by
  induction h with
  | stop pos l => cases lexFrom pos l <;> simp [Except.map]
  | step h0 _ ih =>
    rw [lexFrom_step _ _ (ne_nil_of_first h0) h0, ih]
    rename_i p r _
    cases lexFrom p r <;> simp [Except.map]
theorem run_of_lexN : ∀ (n pos : Nat) (l : List UInt8), l.length ≤ n →
    (∃ ts p, Run pos l ts p [] ∧ lexFrom pos l = .ok ts) ∨ (∃ ts p r, Run pos l ts p r ∧ r ≠ [] ∧ (first r).2 = 0 ∧ lexFrom pos l = .error p)
  | n, pos, [], _ => .inl ⟨[], pos, .stop _ _, lexFrom_nil _⟩
  | 0, pos, b :: t, h => by simp at h
  | n + 1, pos, b :: t, h => by
    by_cases h0 : (first (b :: t)).2 = 0
    · exact .inr ⟨[], pos, b :: t, .stop _ _, by simp, h0, lexFrom_bad _ _ (by simp) h0⟩
    · rcases run_of_lexN n (pos + (first (b :: t)).2) ((b :: t).drop (first (b :: t)).2) (by simp at h ⊢; omega) with ⟨ts, p, h1, h2⟩ | ⟨ts, p, r, h1, h2, h3, h4⟩
      · exact .inl ⟨_, p, .step h0 h1, by rw [lexFrom_step _ _ (by simp) h0, h2]; rfl⟩
      · exact .inr ⟨_, p, r, .step h0 h1, h2, h3, by rw [lexFrom_step _ _ (by simp) h0, h4]; rfl⟩
theorem run_of_lex (pos : Nat) (l : List UInt8) :
    (∃ ts p, Run pos l ts p [] ∧ lexFrom pos l = .ok ts) ∨ (∃ ts p r, Run pos l ts p r ∧ r ≠ [] ∧ (first r).2 = 0 ∧ lexFrom pos l = .error p) := run_of_lexN l.length pos l (Nat.le_refl _)
theorem run_of_ok {pos : Nat} {l : List UInt8} {ts : List Tok} (h : lexFrom pos l = .ok ts) : ∃ p, Run pos l ts p [] := by
  rcases run_of_lex pos l with ⟨ts', p, h1, h2⟩ | ⟨ts', p, r, h1, h2, h3, h4⟩
  · rw [h] at h2; injection h2 with h2; subst h2; exact ⟨p, h1⟩
  · rw [h] at h4; cases h4
theorem Run.ok {pos : Nat} {l : List UInt8} {ts : List Tok} {p : Nat} (h : Run pos l ts p []) : lexFrom pos l = .ok ts := by
  rw [h.lex_ok, lexFrom_nil]
  simp [Except.map]
theorem Run.trans {pos : Nat} {l : List UInt8} {ts : List Tok} {p : Nat} {r : List UInt8} (h : Run pos l ts p r) {ts2 : List Tok} {p2 : Nat} {r2 : List UInt8} (h2 : Run p r ts2 p2 r2) : Run pos l (ts ++ ts2) p2 r2 := by
  induction h with
  | stop => exact h2
  | step h0 _ ih => exact .step h0 (ih h2)
theorem Run.text {pos : Nat} {l : List UInt8} {ts : List Tok} {p : Nat} {r : List UInt8} (h : Run pos l ts p r) : l = ts.flatMap Tok.text ++ r ∧ p = pos + (ts.flatMap Tok.text).length := by
  induction h with
  | stop => simp
  | step h0 _ ih =>
    rename_i pos l ts p r _
    obtain ⟨h1, h2⟩ := ih
    have hle := first_le l
    refine ⟨?_, ?_⟩
    · simp only [List.flatMap_cons, List.append_assoc]
      rw [← h1, List.take_append_drop]
    · simp only [List.flatMap_cons, List.length_append, List.length_take]
      omega
def shift (d : Nat) (t : Tok) : Tok := { t with pos := t.pos + d }
theorem Run.shift {pos : Nat} {l : List UInt8} {ts : List Tok} {p : Nat} {r : List UInt8} (h : Run pos l ts p r) (d : Nat) : Run (pos + d) l (ts.map (PL.shift d)) (p + d) r := by
  induction h with
  | stop => exact .stop _ _
  | step h0 _ ih =>
    rename_i pos l ts p r _
    rw [show pos + (first l).2 + d = pos + d + (first l).2 from by omega] at ih
    exact .step h0 ih
/-- Every token begins at its offset. -/
theorem Run.split {pos : Nat} {l : List UInt8} {ts : List Tok} {p : Nat} {r : List UInt8} (h : Run pos l ts p r) (i : Nat) (t : Tok) (hi : ts[i]? = some t) :
    pos ≤ t.pos ∧ t.pos - pos ≤ l.length ∧ Run t.pos (l.drop (t.pos - pos)) (ts.drop i) p r := by
  induction h generalizing i with
  | stop => simp at hi
  | step h0 h ih =>
    rename_i pos l ts p r
    cases i with
    | zero =>
      simp only [List.getElem?_cons_zero, Option.some.injEq] at hi
      subst hi
      refine ⟨Nat.le_refl _, by simp, ?_⟩
      simp only [Nat.sub_self, List.drop_zero]
      exact .step h0 h
    | succ i =>
      simp only [List.getElem?_cons_succ] at hi
      obtain ⟨h1, h2, h3⟩ := ih i hi
      have hle := first_le l
      refine ⟨by omega, by simp at h2; omega, ?_⟩
      rw [List.drop_drop] at h3
      rw [show (first l).2 + (t.pos - (pos + (first l).2)) = t.pos - pos from by omega] at h3
      simpa using h3
theorem Run.token {pos : Nat} {l : List UInt8} {ts : List Tok} {p : Nat} {r : List UInt8} (h : Run pos l ts p r) (t : Tok) (ht : t ∈ ts) : ∃ l0, first l0 = (t.kind, t.text.length) ∧ t.text = l0.take t.text.length ∧ t.text ≠ [] := by
  induction h with
  | stop => simp at ht
  | step h0 h ih =>
    rename_i pos l ts p r
    rcases List.mem_cons.1 ht with rfl | ht
    · have hle := first_le l
      refine ⟨l, ?_, ?_, ?_⟩
      · simp only [List.length_take, Nat.min_eq_left hle]
      · simp only [List.length_take, Nat.min_eq_left hle]
      · intro h
        have := congrArg List.length h
        simp only [List.length_take, Nat.min_eq_left hle, List.length_nil] at this
        exact h0 this
    · exact ih ht

theorem takeWhile_take {α : Type} (p : α → Bool) : ∀ (l : List α), (l.take (l.takeWhile p).length).takeWhile p = l.take (l.takeWhile p).length
  | [] => by simp
  | a :: l => by
    by_cases h : p a
    · simp [h, takeWhile_take p l]
    · simp [h]
theorem count_take (p : UInt8 → Bool) (b : UInt8) (t : List UInt8) : count p ((b :: t).take (count p (b :: t))) = count p (b :: t) := by
  unfold count
  simp only [List.tail_cons]
  rw [show 1 + (t.takeWhile p).length = (t.takeWhile p).length + 1 from by omega]
  simp only [List.take_succ_cons, List.tail_cons, takeWhile_take, List.length_take]
  have := (List.takeWhile_prefix (l := t) p).length_le
  omega
theorem sign_alone : ∀ g ∈ signs, signs.find? (fun h => h.isPrefixOf g) = some g := by decide
theorem sign_head : ∀ g ∈ signs, ∃ b t, g = b :: t := by
  intro g hg
  have : ∀ g ∈ signs, g ≠ [] := by decide
  cases g with
  | nil => exact absurd rfl (this _ hg)
  | cons b t => exact ⟨b, t, rfl⟩
/-- The text of a token is that token alone. -/
theorem first_take (l : List UInt8) (h : (first l).2 ≠ 0) : first (l.take (first l).2) = first l := by
  match l, ne_nil_of_first h with
  | b :: t, _ =>
    have key : ∀ p, ∃ t', (b :: t).take (count p (b :: t)) = b :: t' := fun p => by
      unfold count
      rw [show 1 + ((b :: t).tail.takeWhile p).length = ((b :: t).tail.takeWhile p).length + 1 from by omega]
      exact ⟨_, List.take_succ_cons⟩
    by_cases h1 : isLetter b = true
    · have e : first (b :: t) = (1, count isInner (b :: t)) := by simp [first, h1]
      rw [e]
      obtain ⟨t', ht⟩ := key isInner
      have hc := count_take isInner b t
      simp only [ht] at hc ⊢
      simp [first, h1, hc]
    · by_cases h2 : isDigit b = true
      · have e : first (b :: t) = (2, count isDigit (b :: t)) := by simp [first, h1, h2]
        rw [e]
        obtain ⟨t', ht⟩ := key isDigit
        have hc := count_take isDigit b t
        simp only [ht] at hc ⊢
        simp [first, h1, h2, hc]
      · by_cases h3 : isSpace b = true
        · have e : first (b :: t) = (4, count isSpace (b :: t)) := by simp [first, h1, h2, h3]
          rw [e]
          obtain ⟨t', ht⟩ := key isSpace
          have hc := count_take isSpace b t
          simp only [ht] at hc ⊢
          simp [first, h1, h2, h3, hc]
        · by_cases h4 : (b == 35) = true
          · have e : first (b :: t) = (5, count isText (b :: t)) := by simp only [first, h1, h2, h3, h4]; simp
            rw [e]
            obtain ⟨t', ht⟩ := key isText
            have hc := count_take isText b t
            simp only [ht] at hc ⊢
            simp only [first, h1, h2, h3, h4, hc]; simp
          · cases hf : signs.find? (fun g => g.isPrefixOf (b :: t)) with
            | none => exact absurd (by simp only [first, h1, h2, h3, h4, hf]; simp) h
            | some g =>
              have e : first (b :: t) = (3, g.length) := by simp only [first, h1, h2, h3, h4, hf]; simp
              have hm := List.mem_of_find?_eq_some hf
              have hp0 := List.find?_some hf
              have hp : g <+: (b :: t) := List.isPrefixOf_iff_prefix.1 hp0
              rw [e]
              simp only []
              rw [← List.prefix_iff_eq_take.1 hp]
              obtain ⟨b', t', rfl⟩ := sign_head g hm
              obtain rfl : b' = b := by
                obtain ⟨q, hq⟩ := hp
                simp at hq
                exact hq.1
              simp only [first, h1, h2, h3, h4, sign_alone _ hm]; simp
theorem first_whole (l : List UInt8) (h : (first l).2 ≠ 0) (h2 : (first l).2 = l.length) (pos : Nat) : lexFrom pos l = .ok [⟨(first l).1, l, pos⟩] := by
  rw [lexFrom_step _ _ (ne_nil_of_first h) h, h2]
  simp [lexFrom_nil, Except.map]

theorem lex_ok {l : List UInt8} {ts : List Tok} {at_ e : Nat} (h : lex l = (ts, at_, e)) (he : e = 0) : l.length ≤ 65536 ∧ lexFrom 0 l = .ok ts ∧ at_ = 0 := by
  unfold lex at h
  split at h
  · simp at h; omega
  · split at h
    · rename_i hh
      simp only [Prod.mk.injEq] at h
      obtain ⟨rfl, rfl, _⟩ := h
      exact ⟨by omega, hh, rfl⟩
    · simp at h; omega
theorem lex_of_ok {l : List UInt8} {ts : List Tok} (hl : l.length ≤ 65536) (h : lexFrom 0 l = .ok ts) : lex l = (ts, 0, 0) := by
  unfold lex
  rw [if_neg (by omega), h]
theorem lex_of_error {l : List UInt8} {p : Nat} (hl : l.length ≤ 65536) (h : lexFrom 0 l = .error p) : lex l = ([], p, 3) := by
  unfold lex
  rw [if_neg (by omega), h]
theorem tok_len {l : List UInt8} {ts : List Tok} {at_ : Nat} (he : lex l = (ts, at_, 0)) (t : Tok) (ht : t ∈ ts) : t.text.length ≤ l.length := by
  obtain ⟨h1, h2, _⟩ := lex_ok he rfl
  obtain ⟨p, hr⟩ := run_of_ok h2
  have h7 := (hr.text).1
  have h6 : t.text.length ≤ (ts.flatMap Tok.text).length := by
    obtain ⟨a, b, hab⟩ := List.append_of_mem ht
    rw [hab]; simp; omega
  simp only [List.append_nil] at h7
  rw [h7]
  omega
/-- LexerAlone. -/
theorem alone {l : List UInt8} {ts : List Tok} {at_ : Nat} (he : lex l = (ts, at_, 0)) (t : Tok) (ht : t ∈ ts) : lex t.text = ([⟨t.kind, t.text, 0⟩], 0, 0) := by
  obtain ⟨h1, h2, _⟩ := lex_ok he rfl
  obtain ⟨p, hr⟩ := run_of_ok h2
  obtain ⟨l0, h3, h4, h5⟩ := hr.token t ht
  have hn : (first l0).2 ≠ 0 := by rw [h3]; simpa using h5
  have hf := first_take l0 hn
  rw [h3] at hf
  simp only [] at hf
  rw [← h4] at hf
  have hlen : t.text.length ≤ 65536 := Nat.le_trans (tok_len he t ht) h1
  refine lex_of_ok hlen ?_
  have := first_whole t.text (by rw [hf]; simpa using h5) (by rw [hf]) 0
  rw [this, hf]
/-- LexerSuffix. -/
theorem suffix {l : List UInt8} {ts : List Tok} {at_ : Nat} (he : lex l = (ts, at_, 0)) (i : Nat) (t : Tok) (hi : ts[i]? = some t) :
    t.pos ≤ l.length ∧ ∃ us, lex (l.drop t.pos) = (us, 0, 0) ∧ ts.drop i = us.map (shift t.pos) := by
  obtain ⟨h1, h2, _⟩ := lex_ok he rfl
  obtain ⟨p, hr⟩ := run_of_ok h2
  obtain ⟨_, h4, h5⟩ := hr.split i t hi
  simp only [Nat.sub_zero] at h4 h5
  refine ⟨h4, ?_⟩
  rcases run_of_lex 0 (l.drop t.pos) with ⟨us, q, h6, h7⟩ | ⟨us, q, r, h6, h7, h8, h9⟩
  · refine ⟨us, lex_of_ok (by simp; omega) h7, ?_⟩
    have h8 := (h6.shift t.pos).ok
    simp only [Nat.zero_add] at h8
    rw [h5.ok] at h8
    injection h8
  · have h10 := (h6.shift t.pos).lex_ok
    simp only [Nat.zero_add] at h10
    rw [h5.ok, lexFrom_bad _ _ h7 h8] at h10
    cases h10
theorem tok_pos {l : List UInt8} {ts : List Tok} {at_ : Nat} (he : lex l = (ts, at_, 0)) (i : Nat) (t : Tok) (hi : ts[i]? = some t) : t.pos ≤ l.length := by
  obtain ⟨h1, h2, _⟩ := lex_ok he rfl
  obtain ⟨p, hr⟩ := run_of_ok h2
  obtain ⟨_, h4, _⟩ := hr.split i t hi
  simpa using h4
theorem run_count {pos : Nat} {l : List UInt8} {ts : List Tok} {p : Nat} {r : List UInt8} (h : Run pos l ts p r) : ts.length ≤ l.length := by
  induction h with
  | stop => simp
  | step h0 _ ih =>
    rename_i pos l ts p r _
    have hle := first_le l
    simp at ih ⊢
    omega
theorem lex_count {l : List UInt8} {ts : List Tok} {at_ : Nat} (he : lex l = (ts, at_, 0)) : ts.length ≤ l.length := by
  obtain ⟨h1, h2, _⟩ := lex_ok he rfl
  obtain ⟨p, hr⟩ := run_of_ok h2
  exact run_count hr
theorem Run.pos_at {pos : Nat} {l : List UInt8} {ts : List Tok} {p : Nat} {r : List UInt8} (h : Run pos l ts p r) (i : Nat) (t : Tok) (hi : ts[i]? = some t) :
    t.pos = pos + ((ts.take i).flatMap Tok.text).length := by
  induction h generalizing i with
  | stop => simp at hi
  | step h0 h ih =>
    rename_i pos l ts p r
    cases i with
    | zero => simp at hi; subst hi; simp
    | succ i =>
      simp only [List.getElem?_cons_succ] at hi
      have := ih i hi
      have hle := first_le l
      simp only [List.take_succ_cons, List.flatMap_cons, List.length_append, List.length_take]
      omega
/-- LexerJoins. -/
theorem joins {l : List UInt8} {ts : List Tok} {at_ : Nat} (he : lex l = (ts, at_, 0)) : at_ = 0 ∧ ts.flatMap Tok.text = l ∧
    ∀ i t, ts[i]? = some t → t.pos = ((ts.take i).flatMap Tok.text).length ∧ t.text ≠ [] := by
  obtain ⟨h1, h2, h3⟩ := lex_ok he rfl
  obtain ⟨p, hr⟩ := run_of_ok h2
  refine ⟨h3, ?_, fun i t hi => ?_⟩
  · have := (hr.text).1
    simpa using this.symm
  · obtain ⟨l0, _, _, h5⟩ := hr.token t (List.mem_of_getElem? hi)
    exact ⟨by simpa using hr.pos_at i t hi, h5⟩
theorem lex_error {l : List UInt8} {ts : List Tok} {at_ e : Nat} (he : lex l = (ts, at_, e)) (h0 : e ≠ 0) (hl : l.length ≤ 65536) : ts = [] ∧ e = 3 ∧ lexFrom 0 l = .error at_ := by
  unfold lex at he
  rw [if_neg (by omega)] at he
  split at he
  · simp at he; omega
  · rename_i hh
    simp only [Prod.mk.injEq] at he
    obtain ⟨rfl, rfl, rfl⟩ := he
    exact ⟨rfl, rfl, hh⟩
theorem error_run {pos : Nat} {l : List UInt8} {p : Nat} (h : lexFrom pos l = .error p) : ∃ ts r, Run pos l ts p r ∧ r ≠ [] ∧ (first r).2 = 0 := by
  rcases run_of_lex pos l with ⟨ts, q, h1, h2⟩ | ⟨ts, q, r, h1, h2, h3, h4⟩
  · rw [h] at h2; cases h2
  · rw [h] at h4; injection h4 with h4; subst h4; exact ⟨ts, r, h1, h2, h3⟩
theorem error_at {l : List UInt8} {ts : List Tok} {at_ e : Nat} (he : lex l = (ts, at_, e)) (h0 : e ≠ 0) (hl : l.length ≤ 65536) : at_ < l.length := by
  obtain ⟨_, _, h⟩ := lex_error he h0 hl
  obtain ⟨us, r, h1, h2, _⟩ := error_run h
  obtain ⟨h3, h4⟩ := h1.text
  have : 0 < r.length := List.length_pos_iff.2 h2
  rw [h3, List.length_append]
  omega
theorem flatMap_take_le (ts : List Tok) (i : Nat) : ((ts.take i).flatMap Tok.text).length ≤ (ts.flatMap Tok.text).length := by
  have h : ts.flatMap Tok.text = (ts.take i).flatMap Tok.text ++ (ts.drop i).flatMap Tok.text := by
    rw [← List.flatMap_append, List.take_append_drop]
  rw [h]; simp
theorem flatMap_take_succ (ts : List Tok) (i : Nat) (t : Tok) (hi : ts[i]? = some t) : (ts.take (i + 1)).flatMap Tok.text = (ts.take i).flatMap Tok.text ++ t.text := by
  obtain ⟨hk, rfl⟩ := List.getElem?_eq_some_iff.1 hi
  rw [List.take_succ_eq_append_getElem hk, List.flatMap_append, List.flatMap_singleton]
end Go.Proofs.YtkeehpgnljieeaaDoor.PL
/- The reference's lexer as plain functions, and that it answers as the lexer does. -/
namespace Go.Proofs.YtkeehpgnljieeaaDoor.PL

def refKind (l : List UInt8) : Nat :=
  match l with
  | [] => 0
  | b :: _ =>
    if isLetter b && l.all isInner then 1
    else if l.all isDigit then 2
    else if signs.contains l then 3
    else if l.all isSpace then 4
    else if (b == 35) && l.all isText then 5
    else 0

theorem letter_space {b : UInt8} (h : isLetter b = true) : isSpace b = false := by
  simp [isLetter, UInt8.le_iff_toNat_le] at h
  cases hb : isSpace b with
  | false => rfl
  | true => simp [isSpace, ← UInt8.toNat_inj] at hb; omega
theorem digit_letter {b : UInt8} (h : isDigit b = true) : isLetter b = false := by
  simp [isDigit, UInt8.le_iff_toNat_le] at h
  cases hb : isLetter b with
  | false => rfl
  | true => simp [isLetter, UInt8.le_iff_toNat_le] at hb; omega
theorem letter_digit {b : UInt8} (h : isLetter b = true) : isDigit b = false := by
  cases hb : isDigit b with
  | false => rfl
  | true => rw [digit_letter hb] at h; cases h
theorem digit_space {b : UInt8} (h : isDigit b = true) : isSpace b = false := by
  simp [isDigit, UInt8.le_iff_toNat_le] at h
  cases hb : isSpace b with
  | false => rfl
  | true => simp [isSpace, ← UInt8.toNat_inj] at hb; omega
theorem letter_35 {b : UInt8} (h : isLetter b = true) : (b == 35) = false := by
  simp [isLetter, UInt8.le_iff_toNat_le] at h
  cases hb : (b == 35) with
  | false => rfl
  | true => simp [← UInt8.toNat_inj] at hb; omega
theorem digit_35 {b : UInt8} (h : isDigit b = true) : (b == 35) = false := by
  simp [isDigit, UInt8.le_iff_toNat_le] at h
  cases hb : (b == 35) with
  | false => rfl
  | true => simp [← UInt8.toNat_inj] at hb; omega
theorem space_35 {b : UInt8} (h : isSpace b = true) : (b == 35) = false := by
  cases hb : (b == 35) with
  | false => rfl
  | true => simp [isSpace, ← UInt8.toNat_inj] at h hb; omega
theorem sign_class : ∀ g ∈ signs, ∀ b ∈ g, isLetter b = false ∧ isDigit b = false ∧ isSpace b = false ∧ (b == 35) = false := by decide
theorem sign_none {b : UInt8} {t : List UInt8} (h : isLetter b = true ∨ isDigit b = true ∨ isSpace b = true ∨ (b == 35) = true) : signs.contains (b :: t) = false := by
  cases hc : signs.contains (b :: t) with
  | false => rfl
  | true =>
    have hm : (b :: t) ∈ signs := by simpa using hc
    obtain ⟨h1, h2, h3, h4⟩ := sign_class _ hm b (by simp)
    rcases h with h | h | h | h
    · rw [h1] at h; cases h
    · rw [h2] at h; cases h
    · rw [h3] at h; cases h
    · rw [h4] at h; cases h

/-- A run of bytes of a kind: just the prefixes that are no longer consist of that kind alone. -/
theorem all_take (p : UInt8 → Bool) : ∀ (t : List UInt8) (j : Nat), j ≤ t.length → (t.take j).all p = decide (j ≤ (t.takeWhile p).length)
  | [], j, h => by simp at h; simp [h]
  | a :: t, 0, _ => by simp
  | a :: t, j + 1, h => by
    cases hp : p a with
    | false => simp [hp]
    | true =>
      have ih := all_take p t j (by simpa using h)
      simp [hp, ih]
theorem find_none_of {l : List UInt8} (h : signs.find? (fun g => g.isPrefixOf l) = none) (j : Nat) : signs.contains (l.take j) = false := by
  cases hc : signs.contains (l.take j) with
  | false => rfl
  | true =>
    have hm : l.take j ∈ signs := by simpa using hc
    have := List.find?_eq_none.1 h _ hm
    exact absurd (List.isPrefixOf_iff_prefix.2 (List.take_prefix _ _)) this
theorem find_long {l g : List UInt8} (h : signs.find? (fun g => g.isPrefixOf l) = some g) (j : Nat) (hj : g.length < j) (hl : j ≤ l.length) : signs.contains (l.take j) = false := by
  cases hc : signs.contains (l.take j) with
  | false => rfl
  | true =>
    exfalso
    have hm : l.take j ∈ signs := by simpa using hc
    have hp : (l.take j).isPrefixOf l = true := List.isPrefixOf_iff_prefix.2 (List.take_prefix _ _)
    have hlen : (l.take j).length = j := by simp; omega
    have hmax : ∀ g ∈ signs, g.length = 1 ∨ g.length = 2 := by decide
    have hg1 := hmax g (List.mem_of_find?_eq_some h)
    have hg2 := hmax _ hm
    have hlg : g.length = 1 := by omega
    have hl2 : (l.take j).length = 2 := by omega
    have hsplit : signs = signs.take 8 ++ signs.drop 8 := by rfl
    rw [hsplit, List.find?_append] at h
    have hin : ∀ g ∈ signs, g.length = 2 → g ∈ signs.take 8 := by decide
    cases hf : (signs.take 8).find? (fun g => g.isPrefixOf l) with
    | none =>
      exact absurd hp (List.find?_eq_none.1 hf _ (hin _ hm hl2))
    | some g' =>
      rw [hf] at h
      simp only [Option.some_or, Option.some.injEq] at h
      subst h
      have h8 : ∀ g ∈ signs.take 8, g.length = 2 := by decide
      have := h8 _ (List.mem_of_find?_eq_some hf)
      omega
theorem take_cons_pos {b : UInt8} {t : List UInt8} {j : Nat} (h : 1 ≤ j) : (b :: t).take j = b :: t.take (j - 1) := by
  obtain ⟨j, rfl⟩ : ∃ i, j = i + 1 := ⟨j - 1, by omega⟩
  simp
/-- A prefix of a text is a token of the reference's just where it is no longer than .. : the first token is the longest. -/
theorem ref_first (l : List UInt8) (hl : l ≠ []) (j : Nat) (h1 : 1 ≤ j) (h2 : j ≤ l.length) :
    (j = (first l).2 → refKind (l.take j) = (first l).1 ∧ (first l).1 ≠ 0) ∧ ((first l).2 < j → refKind (l.take j) = 0) := by
  match l, hl with
  | b :: t, _ =>
    have hjt : j - 1 ≤ t.length := by simp at h2; omega
    rw [take_cons_pos h1]
    by_cases c1 : isLetter b = true
    · have e : first (b :: t) = (1, count isInner (b :: t)) := by simp [first, c1]
      have ci : isInner b = true := by simp [isInner, c1]
      have ha := all_take isInner t (j - 1) hjt
      have hd := letter_digit c1
      have hsp := letter_space c1
      have h35 := letter_35 c1
      have hsg := sign_none (t := t.take (j - 1)) (.inl c1)
      rw [e]
      simp only [refKind, c1, List.all_cons, ci, ha, hd, hsp, h35, hsg, count, List.tail_cons]
      refine ⟨fun h => ?_, fun h => ?_⟩
      · rw [show decide (j - 1 ≤ (t.takeWhile isInner).length) = true from by simp; omega]; simp
      · rw [show decide (j - 1 ≤ (t.takeWhile isInner).length) = false from by simp; omega]; simp
    · have c1' : isLetter b = false := by simpa using c1
      by_cases c2 : isDigit b = true
      · have e : first (b :: t) = (2, count isDigit (b :: t)) := by simp [first, c1, c2]
        have ha := all_take isDigit t (j - 1) hjt
        have hsp := digit_space c2
        have h35 := digit_35 c2
        have hsg := sign_none (t := t.take (j - 1)) (.inr (.inl c2))
        rw [e]
        simp only [refKind, c1', List.all_cons, c2, ha, hsp, h35, hsg, count, List.tail_cons]
        refine ⟨fun h => ?_, fun h => ?_⟩
        · rw [show decide (j - 1 ≤ (t.takeWhile isDigit).length) = true from by simp; omega]; simp
        · rw [show decide (j - 1 ≤ (t.takeWhile isDigit).length) = false from by simp; omega]; simp
      · have c2' : isDigit b = false := by simpa using c2
        by_cases c3 : isSpace b = true
        · have e : first (b :: t) = (4, count isSpace (b :: t)) := by simp [first, c1, c2, c3]
          have ha := all_take isSpace t (j - 1) hjt
          have h35 := space_35 c3
          have hsg := sign_none (t := t.take (j - 1)) (.inr (.inr (.inl c3)))
          rw [e]
          simp only [refKind, c1', c2', List.all_cons, c3, ha, h35, hsg, count, List.tail_cons]
          refine ⟨fun h => ?_, fun h => ?_⟩
          · rw [show decide (j - 1 ≤ (t.takeWhile isSpace).length) = true from by simp; omega]; simp
          · rw [show decide (j - 1 ≤ (t.takeWhile isSpace).length) = false from by simp; omega]; simp
        · have c3' : isSpace b = false := by simpa using c3
          by_cases c4 : (b == 35) = true
          · have e : first (b :: t) = (5, count isText (b :: t)) := by simp only [first, c1', c2', c3', c4]; simp
            have ci : isText b = true := by
              have : b = 35 := by simpa using c4
              rw [this]; decide
            have ha := all_take isText t (j - 1) hjt
            have hsg := sign_none (t := t.take (j - 1)) (.inr (.inr (.inr c4)))
            rw [e]
            simp only [refKind, c1', c2', c3', List.all_cons, c4, ci, ha, hsg, count, List.tail_cons]
            refine ⟨fun h => ?_, fun h => ?_⟩
            · rw [show decide (j - 1 ≤ (t.takeWhile isText).length) = true from by simp; omega]; simp
            · rw [show decide (j - 1 ≤ (t.takeWhile isText).length) = false from by simp; omega]; simp
          · have c4' : (b == 35) = false := by simpa using c4
            cases hf : signs.find? (fun g => g.isPrefixOf (b :: t)) with
            | none =>
              have e : first (b :: t) = (0, 0) := by simp only [first, c1', c2', c3', c4', hf]; simp
              have hsg := find_none_of hf j
              rw [take_cons_pos h1] at hsg
              rw [e]
              simp only [refKind, c1', c2', c3', c4', List.all_cons, hsg]
              refine ⟨fun h => absurd h (by omega), fun _ => by simp⟩
            | some g =>
              have e : first (b :: t) = (3, g.length) := by simp only [first, c1', c2', c3', c4', hf]; simp
              rw [e]
              refine ⟨fun h => ?_, fun h => ?_⟩
              · have hm := List.mem_of_find?_eq_some hf
                have hp0 := List.find?_some hf
                have hp : g <+: (b :: t) := List.isPrefixOf_iff_prefix.1 hp0
                have hsg : signs.contains ((b :: t).take j) = true := by
                  have := List.prefix_iff_eq_take.1 hp
                  have h' : j = g.length := h
                  rw [h', ← this]; simpa using hm
                rw [take_cons_pos h1] at hsg
                simp only [refKind, c1', c2', List.all_cons, hsg]
                simp
              · have hsg := find_long hf j h h2
                rw [take_cons_pos h1] at hsg
                simp only [refKind, c1', c2', c3', c4', List.all_cons, hsg]
                simp

/-- A text that is a word of the reference's is one token. -/
theorem ref_word (l : List UInt8) (hl : l ≠ []) : decide (refKind l = 1) = (decide ((first l).1 = 1) && decide ((first l).2 = l.length)) := by
  have h1 : 1 ≤ l.length := List.length_pos_iff.2 hl
  have h := ref_first l hl l.length h1 (Nat.le_refl _)
  rw [List.take_length] at h
  have hle := first_le l
  by_cases he : (first l).2 = l.length
  · rw [(h.1 he.symm).1]; simp [he]
  · rw [h.2 (by omega)]; simp [he]

def keywords : List (List UInt8) := [[97, 114, 114, 97, 121], [98, 111, 117, 110, 100], [101, 108, 115, 101], [102, 111, 114], [105, 102], [105, 110], [108, 111, 99, 107], [111, 117, 116], [112, 101, 114, 105, 111, 100], [115, 104, 97, 114, 101, 100], [116, 97, 115, 107], [118, 97, 114], [119, 104, 105, 108, 101]]
def isName (l : List UInt8) : Bool := !l.isEmpty && decide (l.length ≤ 12) && !keywords.contains l && (decide ((first l).1 = 1) && decide ((first l).2 = l.length))
def refName (l : List UInt8) : Bool := decide (refKind l = 1) && decide (l.length ≤ 12) && !keywords.contains l
theorem name_eq (l : List UInt8) : isName l = refName l := by
  unfold isName refName
  by_cases hl : l = []
  · subst hl; simp [refKind]
  · rw [ref_word l hl]
    have : l.isEmpty = false := by simpa using hl
    rw [this]
    cases decide ((first l).1 = 1) <;> cases decide ((first l).2 = l.length) <;> cases decide (l.length ≤ 12) <;> simp
theorem keyword_word : ∀ l ∈ keywords, lex l = ([⟨1, l, 0⟩], 0, 0) := by decide
theorem name_word {l : List UInt8} (h : isName l = true) : lex l = ([⟨1, l, 0⟩], 0, 0) := by
  unfold isName at h
  simp only [Bool.and_eq_true, decide_eq_true_eq] at h
  obtain ⟨⟨⟨h1, h2⟩, _⟩, h3, h4⟩ := h
  have hl : l ≠ [] := by simpa using h1
  have hp := List.length_pos_iff.2 hl
  refine lex_of_ok (by omega) ?_
  rw [first_whole l (by omega) h4 0, h3]
theorem name_keyword {l : List UInt8} (h : keywords.contains l = true) : isName l = false := by
  unfold isName; rw [h]; simp
end Go.Proofs.YtkeehpgnljieeaaDoor.PL
/- The parser as plain functions: the same steps as the program's, with fuel where it recurses. -/
namespace Go.Proofs.YtkeehpgnljieeaaDoor.PP
open PL

inductive Tree where
  | node (kind : Nat) (num : Int) (name : List UInt8) (kids : List Tree)

/-- The fixed part of a parser: the tokens and the length of the text; and its state. -/
structure Env where
  ts : List Tok
  L : Nat
structure St where
  next : Nat
  off : Nat
  err : Nat
  deriving DecidableEq

variable (E : Env)
def more (σ : St) : Bool := decide (σ.err = 0) && decide (σ.next < E.ts.length)
def cur (σ : St) : Tok := E.ts.getD σ.next ⟨0, [], 0⟩
def sees (σ : St) (t : List UInt8) : Bool := more E σ && ((cur E σ).text == t)
def here (σ : St) : Nat := if σ.next < E.ts.length then (cur E σ).pos else E.L
def fail (σ : St) (o e : Nat) : St := if σ.err = 0 then ⟨σ.next, o, e⟩ else σ
def reject (σ : St) : St := if σ.next < E.ts.length then fail σ (here E σ) 3 else fail σ (here E σ) 4
def adv (σ : St) : St := ⟨σ.next + 1, σ.off, σ.err⟩
def require (σ : St) (t : List UInt8) : St := if sees E σ t then adv σ else reject E σ
def nameP (σ : St) : St × List UInt8 := if more E σ && isName (cur E σ).text then (adv σ, (cur E σ).text) else (reject E σ, [])

/-- The value of digits, as far as it is read: no further than beyond the limit. -/
def digitsVal (high : Int) : Int → List UInt8 → Int
  | v, [] => v
  | v, d :: ds => if v ≤ high then digitsVal high (v * 10 + ((d - 48).toNat : Int)) ds else v
def numP (σ : St) (low high : Int) : St × Int :=
  if more E σ && decide ((cur E σ).kind = 2) then
    let v := digitsVal high 0 ((cur E σ).text.dropWhile (· == 48))
    if v < low ∨ high < v then (fail σ (here E σ) 2, 0) else (adv σ, v)
  else (reject E σ, 0)

theorem more_cases (σ : St) : (more E σ = true ∧ σ.err = 0 ∧ σ.next < E.ts.length) ∨ (more E σ = false ∧ σ.err ≠ 0) ∨ (more E σ = false ∧ σ.err = 0 ∧ E.ts.length ≤ σ.next) := by
  unfold more
  by_cases h1 : σ.err = 0 <;> by_cases h2 : σ.next < E.ts.length <;> simp [h1, h2] <;> omega
theorem cur_at {σ : St} (h : σ.next < E.ts.length) : E.ts[σ.next]? = some (cur E σ) := by
  unfold cur
  rw [List.getD_eq_getElem?_getD, List.getElem?_eq_getElem h]; rfl

/-- The operators: symbol and level, by kind. -/
def opTable : List (List UInt8 × Nat) := [([], 0), ([], 0), ([], 0), ([], 0), ([45], 11), ([33], 11), ([43], 9), ([45], 9), ([42], 10), ([47], 10), ([37], 10), ([38], 5), ([124], 3), ([94], 4), ([60, 60], 8), ([62, 62], 8), ([61, 61], 6), ([33, 61], 6), ([60], 7), ([60, 61], 7), ([62], 7), ([62, 61], 7), ([38, 38], 2), ([124, 124], 1)]
def level (op : Nat) : Nat := (opTable.getD op ([], 0)).2
def symbol (op : Nat) : List UInt8 := (opTable.getD op ([], 0)).1
/-- The binary operator with a symbol. -/
def opOf (t : List UInt8) : Option Nat := (List.range 18).findSome? fun i => if symbol (i + 6) == t then some (i + 6) else none

mutual
def unary : Nat → St → Option (St × Tree)
  | 0, _ => none
  | n + 1, σ =>
    if sees E σ [45] then (unary n (adv σ)).map fun r => (r.1, .node 4 0 [] [r.2])
    else if sees E σ [33] then (unary n (adv σ)).map fun r => (r.1, .node 5 0 [] [r.2])
    else primary n σ
def primary : Nat → St → Option (St × Tree)
  | 0, _ => none
  | n + 1, σ =>
    if sees E σ [40] then (binary n 0 (adv σ)).map fun r => (require E r.1 [41], r.2)
    else if more E σ && decide ((cur E σ).kind = 2) then some ((numP E σ 0 2147483647).1, .node 1 (numP E σ 0 2147483647).2 [] [])
    else place n σ
def place : Nat → St → Option (St × Tree)
  | 0, _ => none
  | n + 1, σ =>
    if sees E (nameP E σ).1 [91] then (binary n 0 (adv (nameP E σ).1)).map fun r => (require E r.1 [93], .node 3 0 (nameP E σ).2 [r.2])
    else some ((nameP E σ).1, .node 2 0 (nameP E σ).2 [])
def binary : Nat → Nat → St → Option (St × Tree)
  | 0, _, _ => none
  | n + 1, lvl, σ => (unary n σ).bind fun r => binLoop n lvl r.1 r.2
def binLoop : Nat → Nat → St → Tree → Option (St × Tree)
  | 0, _, _, _ => none
  | n + 1, lvl, σ, left =>
    if more E σ then
      match opOf (cur E σ).text with
      | some op => if level op < lvl then some (σ, left) else (binary n (level op + 1) (adv σ)).bind fun r => binLoop n lvl r.1 (.node op 0 [] [left, r.2])
      | none => some (σ, left)
    else some (σ, left)
end

theorem expr_mono : ∀ (n : Nat), (∀ σ r, unary E n σ = some r → unary E (n + 1) σ = some r) ∧ (∀ σ r, primary E n σ = some r → primary E (n + 1) σ = some r) ∧ (∀ σ r, place E n σ = some r → place E (n + 1) σ = some r) ∧
    (∀ l σ r, binary E n l σ = some r → binary E (n + 1) l σ = some r) ∧ (∀ l σ t r, binLoop E n l σ t = some r → binLoop E (n + 1) l σ t = some r)
  | 0 => ⟨fun _ _ h => by simp [unary] at h, fun _ _ h => by simp [primary] at h, fun _ _ h => by simp [place] at h, fun _ _ _ h => by simp [binary] at h, fun _ _ _ _ h => by simp [binLoop] at h⟩
  | n + 1 => by
    obtain ⟨hu, hp, hpl, hb, hl⟩ := expr_mono n
    refine ⟨fun σ r h => ?_, fun σ r h => ?_, fun σ r h => ?_, fun l σ r h => ?_, fun l σ t r h => ?_⟩
    · rw [unary] at h ⊢
      split at h
      · rename_i c; rw [if_pos c]
        obtain ⟨x, hx, rfl⟩ := Option.map_eq_some_iff.1 h
        rw [hu _ _ hx]; rfl
      · rename_i c; rw [if_neg c]
        split at h
        · rename_i c; rw [if_pos c]
          obtain ⟨x, hx, rfl⟩ := Option.map_eq_some_iff.1 h
          rw [hu _ _ hx]; rfl
        · rename_i c; rw [if_neg c]; exact hp _ _ h
    · rw [primary] at h ⊢
      split at h
      · rename_i c; rw [if_pos c]
        obtain ⟨x, hx, rfl⟩ := Option.map_eq_some_iff.1 h
        rw [hb _ _ _ hx]; rfl
      · rename_i c; rw [if_neg c]
        split at h
        · rename_i c; rw [if_pos c]; exact h
        · rename_i c; rw [if_neg c]; exact hpl _ _ h
    · rw [place] at h ⊢
      split at h
      · rename_i c; rw [if_pos c]
        obtain ⟨x, hx, rfl⟩ := Option.map_eq_some_iff.1 h
        rw [hb _ _ _ hx]; rfl
      · rename_i c; rw [if_neg c]; exact h
    · rw [binary] at h ⊢
      obtain ⟨x, hx, hr⟩ := Option.bind_eq_some_iff.1 h
      rw [hu _ _ hx]
      exact hl _ _ _ _ hr
    · rw [binLoop] at h ⊢
      split at h
      · rename_i c; rw [if_pos c]
        split at h
        · split at h
          · rename_i c; simp only [c, if_true]; exact h
          · rename_i c
            simp only [c, if_false]
            obtain ⟨x, hx, hr⟩ := Option.bind_eq_some_iff.1 h
            rw [hb _ _ _ hx]
            exact hl _ _ _ _ hr
        · exact h
      · rename_i c; rw [if_neg c]; exact h
theorem mono_le {α β : Type} {F : Nat → α → Option β} (h : ∀ n a r, F n a = some r → F (n + 1) a = some r) {n m : Nat} (hnm : n ≤ m) {a : α} {r : β} (hr : F n a = some r) : F m a = some r := by
  induction hnm with
  | refl => exact hr
  | step _ ih => exact h _ _ _ ih
theorem unary_le {n m : Nat} (h : n ≤ m) {σ : St} {r : St × Tree} (hr : unary E n σ = some r) : unary E m σ = some r := mono_le (F := unary E) (fun n => (expr_mono E n).1) h hr
theorem primary_le {n m : Nat} (h : n ≤ m) {σ : St} {r : St × Tree} (hr : primary E n σ = some r) : primary E m σ = some r := mono_le (F := primary E) (fun n => (expr_mono E n).2.1) h hr
theorem place_le {n m : Nat} (h : n ≤ m) {σ : St} {r : St × Tree} (hr : place E n σ = some r) : place E m σ = some r := mono_le (F := place E) (fun n => (expr_mono E n).2.2.1) h hr
theorem binary_le {n m : Nat} (h : n ≤ m) {l : Nat} {σ : St} {r : St × Tree} (hr : binary E n l σ = some r) : binary E m l σ = some r := mono_le (F := fun n => binary E n l) (fun n => (expr_mono E n).2.2.2.1 l) h hr
theorem binLoop_le {n m : Nat} (h : n ≤ m) {l : Nat} {σ : St} {t : Tree} {r : St × Tree} (hr : binLoop E n l σ t = some r) : binLoop E m l σ t = some r := mono_le (F := fun n σ => binLoop E n l σ t) (fun n σ => (expr_mono E n).2.2.2.2 l σ t) h hr
end Go.Proofs.YtkeehpgnljieeaaDoor.PP
/- The parser's statements as plain functions, with fuel. -/
namespace Go.Proofs.YtkeehpgnljieeaaDoor.PP
open PL

variable (E : Env)
def goes (top : Bool) (σ : St) : Bool := more E σ && (top || !sees E σ [125])
def transfer (kind : Nat) (kid : Tree) (σ : St) : St × Tree :=
  let r := numP E (require E σ [44]) 0 7
  (require E r.1 [59], .node kind r.2 [] [kid])

mutual
def stmts : Nat → Bool → St → List Tree → Option (St × List Tree)
  | 0, _, _, _ => none
  | n + 1, top, σ, acc => if goes E top σ then (statement n σ).bind fun r => stmts n top r.1 (acc ++ [r.2]) else some (σ, acc)
def block : Nat → St → Option (St × Tree)
  | 0, _ => none
  | n + 1, σ => (stmts n false (require E σ [123]) []).map fun r => (require E r.1 [125], .node 47 0 [] r.2)
def choice : Nat → St → Option (St × Tree)
  | 0, _ => none
  | n + 1, σ => (binary E n 0 (require E σ [105, 102])).bind fun c => (block n c.1).bind fun t => (block n (require E t.1 [101, 108, 115, 101])).map fun f => (f.1, .node 41 0 [] [c.2, t.2, f.2])
def statement : Nat → St → Option (St × Tree)
  | 0, _ => none
  | n + 1, σ =>
    if sees E σ [105, 102] then choice n σ
    else if sees E σ [102, 111, 114] then
      let a := nameP E (adv σ)
      let v := numP E (require E a.1 [60]) 1 1000
      (block n v.1).map fun r => (r.1, .node 42 v.2 a.2 [r.2])
    else if sees E σ [119, 104, 105, 108, 101] then
      (binary E n 0 (adv σ)).bind fun c =>
        let v := numP E (require E c.1 [98, 111, 117, 110, 100]) 1 1000
        (block n v.1).map fun r => (r.1, .node 43 v.2 [] [c.2, r.2])
    else if sees E σ [105, 110] then (place E n (adv σ)).map fun r => transfer E 44 r.2 r.1
    else if sees E σ [111, 117, 116] then (binary E n 0 (adv σ)).map fun r => transfer E 45 r.2 r.1
    else if sees E σ [108, 111, 99, 107] then
      let a := nameP E (adv σ)
      (block n a.1).map fun r => (r.1, .node 46 0 a.2 [r.2])
    else (place E n σ).bind fun a => (binary E n 0 (require E a.1 [61])).map fun r => (require E r.1 [59], .node 40 0 [] [a.2, r.2])
end

theorem stmt_mono : ∀ (n : Nat), (∀ top σ acc r, stmts E n top σ acc = some r → stmts E (n + 1) top σ acc = some r) ∧ (∀ σ r, block E n σ = some r → block E (n + 1) σ = some r) ∧
    (∀ σ r, choice E n σ = some r → choice E (n + 1) σ = some r) ∧ (∀ σ r, statement E n σ = some r → statement E (n + 1) σ = some r)
  | 0 => ⟨fun _ _ _ _ h => by simp [stmts] at h, fun _ _ h => by simp [block] at h, fun _ _ h => by simp [choice] at h, fun _ _ h => by simp [statement] at h⟩
  | n + 1 => by
    obtain ⟨hs, hb, hc, ht⟩ := stmt_mono n
    have he : ∀ l σ r, binary E n l σ = some r → binary E (n + 1) l σ = some r := (expr_mono E n).2.2.2.1
    have hp : ∀ σ r, place E n σ = some r → place E (n + 1) σ = some r := (expr_mono E n).2.2.1
    refine ⟨fun top σ acc r h => ?_, fun σ r h => ?_, fun σ r h => ?_, fun σ r h => ?_⟩
    · rw [stmts] at h ⊢
      split at h
      · rename_i c; rw [if_pos c]
        obtain ⟨x, hx, hr⟩ := Option.bind_eq_some_iff.1 h
        rw [ht _ _ hx]; exact hs _ _ _ _ hr
      · rename_i c; rw [if_neg c]; exact h
    · rw [block] at h ⊢
      obtain ⟨x, hx, rfl⟩ := Option.map_eq_some_iff.1 h
      rw [hs _ _ _ _ hx]; rfl
    · rw [choice] at h ⊢
      obtain ⟨x, hx, h⟩ := Option.bind_eq_some_iff.1 h
      obtain ⟨y, hy, h⟩ := Option.bind_eq_some_iff.1 h
      obtain ⟨z, hz, rfl⟩ := Option.map_eq_some_iff.1 h
      simp [he _ _ _ hx, hb _ _ hy, hb _ _ hz]
    · rw [statement] at h ⊢
      by_cases c1 : sees E σ [105, 102] = true
      · rw [if_pos c1] at h ⊢; exact hc _ _ h
      rw [if_neg c1] at h ⊢
      by_cases c2 : sees E σ [102, 111, 114] = true
      · rw [if_pos c2] at h ⊢
        obtain ⟨z, hz, rfl⟩ := Option.map_eq_some_iff.1 h
        simp [hb _ _ hz]
      rw [if_neg c2] at h ⊢
      by_cases c3 : sees E σ [119, 104, 105, 108, 101] = true
      · rw [if_pos c3] at h ⊢
        obtain ⟨x, hx, h⟩ := Option.bind_eq_some_iff.1 h
        obtain ⟨z, hz, rfl⟩ := Option.map_eq_some_iff.1 h
        simp [he _ _ _ hx, hb _ _ hz]
      rw [if_neg c3] at h ⊢
      by_cases c4 : sees E σ [105, 110] = true
      · rw [if_pos c4] at h ⊢
        obtain ⟨z, hz, rfl⟩ := Option.map_eq_some_iff.1 h
        simp [hp _ _ hz]
      rw [if_neg c4] at h ⊢
      by_cases c5 : sees E σ [111, 117, 116] = true
      · rw [if_pos c5] at h ⊢
        obtain ⟨z, hz, rfl⟩ := Option.map_eq_some_iff.1 h
        simp [he _ _ _ hz]
      rw [if_neg c5] at h ⊢
      by_cases c6 : sees E σ [108, 111, 99, 107] = true
      · rw [if_pos c6] at h ⊢
        obtain ⟨z, hz, rfl⟩ := Option.map_eq_some_iff.1 h
        simp [hb _ _ hz]
      rw [if_neg c6] at h ⊢
      obtain ⟨x, hx, h⟩ := Option.bind_eq_some_iff.1 h
      obtain ⟨z, hz, rfl⟩ := Option.map_eq_some_iff.1 h
      simp [hp _ _ hx, he _ _ _ hz]
theorem stmts_le {n m : Nat} (h : n ≤ m) {top : Bool} {σ : St} {acc : List Tree} {r : St × List Tree} (hr : stmts E n top σ acc = some r) : stmts E m top σ acc = some r := mono_le (F := fun n σ => stmts E n top σ acc) (fun n σ => (stmt_mono E n).1 top σ acc) h hr
theorem block_le {n m : Nat} (h : n ≤ m) {σ : St} {r : St × Tree} (hr : block E n σ = some r) : block E m σ = some r := mono_le (F := block E) (fun n => (stmt_mono E n).2.1) h hr
theorem choice_le {n m : Nat} (h : n ≤ m) {σ : St} {r : St × Tree} (hr : choice E n σ = some r) : choice E m σ = some r := mono_le (F := choice E) (fun n => (stmt_mono E n).2.2.1) h hr
theorem statement_le {n m : Nat} (h : n ≤ m) {σ : St} {r : St × Tree} (hr : statement E n σ = some r) : statement E m σ = some r := mono_le (F := statement E) (fun n => (stmt_mono E n).2.2.2) h hr
end Go.Proofs.YtkeehpgnljieeaaDoor.PP
/- The parser's declarations, tasks and programs as plain functions, with fuel; the measures of a tree. -/
namespace Go.Proofs.YtkeehpgnljieeaaDoor.PP
open PL

mutual
def Tree.size : Tree → Nat
  | .node _ _ _ ks => 1 + sizeL ks
def sizeL : List Tree → Nat
  | [] => 0
  | t :: ts => t.size + sizeL ts
end
mutual
def Tree.depth : Tree → Nat
  | .node _ _ _ ks => depthL ks + 1
def depthL : List Tree → Nat
  | [] => 0
  | t :: ts => max t.depth (depthL ts)
end
mutual
def Tree.nest : Tree → Nat
  | .node k _ _ ks => nestL ks + if k = 42 ∨ k = 43 then 1 else 0
def nestL : List Tree → Nat
  | [] => 0
  | t :: ts => max t.nest (nestL ts)
end
/-- Whether a tree exceeds a limit of a body. -/
def large (t : Tree) : Bool := decide (16 < t.depth) || decide (400 < t.size) || decide (4 < t.nest)
def limitP (t : Tree) (o : Nat) (σ : St) : St := if σ.err = 0 then (if large t then fail σ o 5 else σ) else σ

structure ArrD where
  name : List UInt8
  len : Int
structure TaskD where
  name : List UInt8
  period : Int
  vars : List (List UInt8)
  arrays : List ArrD
  body : Tree
structure ProgD where
  shared : List ArrD
  tasks : List TaskD

variable (E : Env)
def arrayP (σ : St) : St × ArrD :=
  let a := nameP E (adv σ)
  let v := numP E (require E a.1 [91]) 1 32
  (require E (require E v.1 [93]) [59], ⟨a.2, v.2⟩)
def variableP (σ : St) : St × List UInt8 :=
  let a := nameP E (adv σ)
  (require E a.1 [59], a.2)
def kwVar : List UInt8 := [118, 97, 114]
def kwArray : List UInt8 := [97, 114, 114, 97, 121]
def kwPeriod : List UInt8 := [112, 101, 114, 105, 111, 100]
def kwShared : List UInt8 := [115, 104, 97, 114, 101, 100]
def kwTask : List UInt8 := [116, 97, 115, 107]
/-- The declarations of a task. -/
def decls : Nat → St → List (List UInt8) → List ArrD → Option (St × List (List UInt8) × List ArrD)
  | 0, _, _, _ => none
  | n + 1, σ, vs, as =>
    if sees E σ kwVar || sees E σ kwArray then
      if sees E σ kwArray && decide (as.length < 4) then decls n (arrayP E σ).1 vs (as ++ [(arrayP E σ).2])
      else if sees E σ kwVar && decide (vs.length < 12) then decls n (variableP E σ).1 (vs ++ [(variableP E σ).2]) as
      else decls n (fail σ (here E σ) 5) vs as
    else some (σ, vs, as)
def taskP (n : Nat) (σ : St) : Option (St × TaskD) :=
  let a := nameP E (adv σ)
  let v := numP E (require E a.1 kwPeriod) 1 1000
  (decls E n (require E v.1 [123]) [] []).bind fun d => (stmts E n false d.1 []).map fun r =>
    (limitP (.node 47 0 [] r.2) (here E v.1) (require E r.1 [125]), ⟨a.2, v.2, d.2.1, d.2.2, .node 47 0 [] r.2⟩)
/-- A list of constructs that begin with a keyword, at most as many as a limit says. -/
def listP {α : Type} (kw : List UInt8) (limit : Nat) (one : Nat → St → Option (St × α)) : Nat → St → List α → Option (St × List α)
  | 0, _, _ => none
  | n + 1, σ, acc =>
    if sees E σ kw then (one n (if limit < acc.length + 1 then fail σ (here E σ) 5 else σ)).bind fun r => listP kw limit one n r.1 (acc ++ [r.2])
    else some (σ, acc)
def programP (n : Nat) (σ : St) : Option (St × ProgD) :=
  (listP E kwShared 4 (fun _ σ => some (arrayP E σ)) n σ []).bind fun a => (listP E kwTask 8 (taskP E) n a.1 []).map fun t =>
    (if more E t.1 then reject E t.1 else t.1, ⟨a.2, t.2⟩)
def exprP (n : Nat) (σ : St) : Option (St × Tree) :=
  (binary E n 0 σ).map fun r => (limitP r.2 0 (if more E r.1 then reject E r.1 else r.1), r.2)
def blockP (n : Nat) (σ : St) : Option (St × Tree) :=
  (stmts E n true σ []).map fun r => (limitP (.node 47 0 [] r.2) 0 r.1, .node 47 0 [] r.2)

theorem decls_mono : ∀ (n : Nat) σ vs as r, decls E n σ vs as = some r → decls E (n + 1) σ vs as = some r
  | 0, _, _, _, _, h => by simp [decls] at h
  | n + 1, σ, vs, as, r, h => by
    rw [decls] at h ⊢
    split at h
    · rename_i c; rw [if_pos c]
      split at h
      · rename_i c; rw [if_pos c]; exact decls_mono n _ _ _ _ h
      · rename_i c; rw [if_neg c]
        split at h
        · rename_i c; rw [if_pos c]; exact decls_mono n _ _ _ _ h
        · rename_i c; rw [if_neg c]; exact decls_mono n _ _ _ _ h
    · rename_i c; rw [if_neg c]; exact h
theorem decls_le {n m : Nat} (h : n ≤ m) {σ : St} {vs : List (List UInt8)} {as : List ArrD} {r : St × List (List UInt8) × List ArrD} (hr : decls E n σ vs as = some r) : decls E m σ vs as = some r :=
  mono_le (F := fun n σ => decls E n σ vs as) (fun n σ r => decls_mono E n σ vs as r) h hr
theorem taskP_le {n m : Nat} (h : n ≤ m) {σ : St} {r : St × TaskD} (hr : taskP E n σ = some r) : taskP E m σ = some r := by
  unfold taskP at hr ⊢
  obtain ⟨d, hd, hr⟩ := Option.bind_eq_some_iff.1 hr
  obtain ⟨x, hx, rfl⟩ := Option.map_eq_some_iff.1 hr
  simp [decls_le E h hd, stmts_le E h hx]
theorem listP_mono {α : Type} (kw : List UInt8) (limit : Nat) (one : Nat → St → Option (St × α)) (ho : ∀ n σ r, one n σ = some r → one (n + 1) σ = some r) : ∀ (n : Nat) σ acc r, listP E kw limit one n σ acc = some r → listP E kw limit one (n + 1) σ acc = some r
  | 0, _, _, _, h => by simp [listP] at h
  | n + 1, σ, acc, r, h => by
    rw [listP] at h ⊢
    split at h
    · rename_i c; rw [if_pos c]
      obtain ⟨x, hx, hr⟩ := Option.bind_eq_some_iff.1 h
      rw [ho _ _ _ hx]
      exact listP_mono kw limit one ho n _ _ _ hr
    · rename_i c; rw [if_neg c]; exact h
theorem listP_le {α : Type} {kw : List UInt8} {limit : Nat} {one : Nat → St → Option (St × α)} (ho : ∀ n σ r, one n σ = some r → one (n + 1) σ = some r) {n m : Nat} (h : n ≤ m) {σ : St} {acc : List α} {r : St × List α} (hr : listP E kw limit one n σ acc = some r) : listP E kw limit one m σ acc = some r :=
  mono_le (F := fun n σ => listP E kw limit one n σ acc) (fun n σ r => listP_mono E kw limit one ho n σ acc r) h hr
theorem programP_le {n m : Nat} (h : n ≤ m) {σ : St} {r : St × ProgD} (hr : programP E n σ = some r) : programP E m σ = some r := by
  unfold programP at hr ⊢
  obtain ⟨d, hd, hr⟩ := Option.bind_eq_some_iff.1 hr
  obtain ⟨x, hx, rfl⟩ := Option.map_eq_some_iff.1 hr
  have h1 := listP_le E (one := fun _ σ => some (arrayP E σ)) (fun _ _ _ h => h) h hd
  have h2 := listP_le E (one := taskP E) (fun n σ r hh => taskP_le E (Nat.le_succ n) hh) h hx
  rw [h1]; simp [h2]
theorem exprP_le {n m : Nat} (h : n ≤ m) {σ : St} {r : St × Tree} (hr : exprP E n σ = some r) : exprP E m σ = some r := by
  unfold exprP at hr ⊢
  obtain ⟨x, hx, rfl⟩ := Option.map_eq_some_iff.1 hr
  simp [binary_le E h hx]
theorem blockP_le {n m : Nat} (h : n ≤ m) {σ : St} {r : St × Tree} (hr : blockP E n σ = some r) : blockP E m σ = some r := by
  unfold blockP at hr ⊢
  obtain ⟨x, hx, rfl⟩ := Option.map_eq_some_iff.1 hr
  simp [stmts_le E h hx]
end Go.Proofs.YtkeehpgnljieeaaDoor.PP
/- The parser's plain functions: the next token goes on, and after an error nothing turns. -/
namespace Go.Proofs.YtkeehpgnljieeaaDoor.PP
open PL

def Le (σ σ' : St) : Prop := σ.next ≤ σ'.next ∧ (σ.err ≠ 0 → σ' = σ)
theorem Le.refl (σ : St) : Le σ σ := ⟨Nat.le_refl _, fun _ => rfl⟩
theorem Le.trans {a b c : St} (h : Le a b) (k : Le b c) : Le a c := ⟨Nat.le_trans h.1 k.1, fun e => by
  have h1 := h.2 e
  subst h1
  exact k.2 e⟩
section
variable (E : Env)
theorem sees_err {σ : St} {t : List UInt8} (h : sees E σ t = true) : σ.err = 0 ∧ σ.next < E.ts.length := by
  unfold sees at h
  rcases more_cases E σ with ⟨_, h2, h3⟩ | ⟨h1, _⟩ | ⟨h1, _, _⟩
  · exact ⟨h2, h3⟩
  · rw [h1] at h; cases h
  · rw [h1] at h; cases h
theorem more_err {σ : St} (h : more E σ = true) : σ.err = 0 ∧ σ.next < E.ts.length := by
  rcases more_cases E σ with ⟨_, h2, h3⟩ | ⟨h1, _⟩ | ⟨h1, _, _⟩
  · exact ⟨h2, h3⟩
  · rw [h1] at h; cases h
  · rw [h1] at h; cases h
theorem le_adv {σ : St} (h : σ.err = 0) : Le σ (adv σ) := ⟨by simp [adv], fun e => absurd h e⟩
theorem le_fail (σ : St) (o e : Nat) : Le σ (fail σ o e) := by
  unfold fail; split
  · rename_i h; exact ⟨Nat.le_refl _, fun e => absurd h e⟩
  · exact Le.refl _
theorem le_reject (σ : St) : Le σ (reject E σ) := by unfold reject; split <;> exact le_fail _ _ _
theorem le_require (σ : St) (t : List UInt8) : Le σ (require E σ t) := by
  unfold require; split
  · rename_i h; exact le_adv (sees_err E h).1
  · exact le_reject E σ
theorem le_nameP (σ : St) : Le σ (nameP E σ).1 := by
  unfold nameP; split
  · rename_i h; exact le_adv (more_err E (by simp at h; exact h.1)).1
  · exact le_reject E σ
theorem le_numP (σ : St) (l h : Int) : Le σ (numP E σ l h).1 := by
  unfold numP; split
  · rename_i c
    dsimp only
    split
    · exact le_fail _ _ _
    · exact le_adv (more_err E (by simp at c; exact c.1)).1
  · exact le_reject E σ
theorem fail_err {σ : St} {o e : Nat} (he : e ≠ 0) : (fail σ o e).err ≠ 0 := by unfold fail; split <;> assumption
theorem reject_err (σ : St) : (reject E σ).err ≠ 0 := by unfold reject; split <;> exact fail_err (by decide)
theorem nameP_adv (σ : St) : (nameP E σ).1.err ≠ 0 ∨ σ.next < (nameP E σ).1.next := by
  unfold nameP; split
  · right; simp [adv]
  · left; exact reject_err E σ
theorem require_adv (σ : St) (t : List UInt8) : (require E σ t).err ≠ 0 ∨ σ.next < (require E σ t).next := by
  unfold require; split
  · right; simp [adv]
  · left; exact reject_err E σ
theorem expr_le : ∀ (n : Nat), (∀ σ r, unary E n σ = some r → Le σ r.1) ∧ (∀ σ r, primary E n σ = some r → Le σ r.1) ∧ (∀ σ r, place E n σ = some r → Le σ r.1) ∧
    (∀ l σ r, binary E n l σ = some r → Le σ r.1) ∧ (∀ l σ t r, binLoop E n l σ t = some r → Le σ r.1)
  | 0 => ⟨fun _ _ h => by simp [unary] at h, fun _ _ h => by simp [primary] at h, fun _ _ h => by simp [place] at h, fun _ _ _ h => by simp [binary] at h, fun _ _ _ _ h => by simp [binLoop] at h⟩
  | n + 1 => by
    obtain ⟨hu, hp, hpl, hb, hl⟩ := expr_le n
    refine ⟨fun σ r h => ?_, fun σ r h => ?_, fun σ r h => ?_, fun l σ r h => ?_, fun l σ t r h => ?_⟩
    · rw [unary] at h
      split at h
      · rename_i c
        obtain ⟨x, hx, rfl⟩ := Option.map_eq_some_iff.1 h
        exact (le_adv (sees_err E c).1).trans (hu _ x hx)
      · split at h
        · rename_i c
          obtain ⟨x, hx, rfl⟩ := Option.map_eq_some_iff.1 h
          exact (le_adv (sees_err E c).1).trans (hu _ x hx)
        · exact hp _ _ h
    · rw [primary] at h
      split at h
      · rename_i c
        obtain ⟨x, hx, rfl⟩ := Option.map_eq_some_iff.1 h
        exact ((le_adv (sees_err E c).1).trans (hb _ _ _ hx)).trans (le_require E _ _)
      · split at h
        · injection h with h; subst h; exact le_numP E _ _ _
        · exact hpl _ _ h
    · rw [place] at h
      split at h
      · rename_i c
        obtain ⟨x, hx, rfl⟩ := Option.map_eq_some_iff.1 h
        exact (((le_nameP E σ).trans (le_adv (sees_err E c).1)).trans (hb _ _ _ hx)).trans (le_require E _ _)
      · injection h with h; subst h; exact le_nameP E _
    · rw [binary] at h
      obtain ⟨x, hx, hr⟩ := Option.bind_eq_some_iff.1 h
      exact (hu _ x hx).trans (hl _ _ _ _ hr)
    · rw [binLoop] at h
      split at h
      · rename_i c
        split at h
        · split at h
          · injection h with h; subst h; exact Le.refl _
          · obtain ⟨x, hx, hr⟩ := Option.bind_eq_some_iff.1 h
            exact ((le_adv (more_err E c).1).trans (hb _ _ _ hx)).trans (hl _ _ _ _ hr)
        · injection h with h; subst h; exact Le.refl _
      · injection h with h; subst h; exact Le.refl _
theorem place_adv {n : Nat} {σ : St} {r : St × Tree} (h : place E n σ = some r) : r.1.err ≠ 0 ∨ σ.next < r.1.next := by
  cases n with
  | zero => simp [place] at h
  | succ n =>
    rw [place] at h
    split at h
    · rename_i c
      obtain ⟨x, hx, rfl⟩ := Option.map_eq_some_iff.1 h
      have h1 := (le_nameP E σ).1
      have h2 := ((expr_le E n).2.2.2.1 _ _ _ hx).1
      have h3 := (le_require E x.1 [93]).1
      right
      simp only [adv] at h2 ⊢
      omega
    · injection h with h; subst h; exact nameP_adv E σ
theorem le_transfer (kind : Nat) (kid : Tree) (σ : St) : Le σ (transfer E kind kid σ).1 := ((le_require E σ _).trans (le_numP E _ _ _)).trans (le_require E _ _)
theorem stmt_le : ∀ (n : Nat), (∀ top σ acc r, stmts E n top σ acc = some r → Le σ r.1) ∧ (∀ σ r, block E n σ = some r → Le σ r.1) ∧
    (∀ σ r, choice E n σ = some r → Le σ r.1) ∧ (∀ σ r, statement E n σ = some r → Le σ r.1 ∧ (r.1.err ≠ 0 ∨ σ.next < r.1.next))
  | 0 => ⟨fun _ _ _ _ h => by simp [stmts] at h, fun _ _ h => by simp [block] at h, fun _ _ h => by simp [choice] at h, fun _ _ h => by simp [statement] at h⟩
  | n + 1 => by
    obtain ⟨hs, hb, hc, ht⟩ := stmt_le n
    have he : ∀ l σ r, binary E n l σ = some r → Le σ r.1 := (expr_le E n).2.2.2.1
    have hp : ∀ σ r, place E n σ = some r → Le σ r.1 := (expr_le E n).2.2.1
    have step : ∀ {σ σ' : St}, σ.err = 0 → Le (adv σ) σ' → Le σ σ' ∧ (σ'.err ≠ 0 ∨ σ.next < σ'.next) := by
      intro σ σ' h1 h2
      have h3 := h2.1
      simp only [adv] at h3
      exact ⟨(le_adv h1).trans h2, .inr (by omega)⟩
    refine ⟨fun top σ acc r h => ?_, fun σ r h => ?_, fun σ r h => ?_, fun σ r h => ?_⟩
    · rw [stmts] at h
      split at h
      · obtain ⟨x, hx, hr⟩ := Option.bind_eq_some_iff.1 h
        exact (ht _ _ hx).1.trans (hs _ _ _ _ hr)
      · injection h with h; subst h; exact Le.refl _
    · rw [block] at h
      obtain ⟨x, hx, rfl⟩ := Option.map_eq_some_iff.1 h
      exact ((le_require E σ _).trans (hs _ _ _ _ hx)).trans (le_require E _ _)
    · rw [choice] at h
      obtain ⟨x, hx, h⟩ := Option.bind_eq_some_iff.1 h
      obtain ⟨y, hy, h⟩ := Option.bind_eq_some_iff.1 h
      obtain ⟨z, hz, rfl⟩ := Option.map_eq_some_iff.1 h
      exact ((((le_require E σ _).trans (he _ _ x hx)).trans (hb _ y hy)).trans (le_require E _ _)).trans (hb _ z hz)
    · rw [statement] at h
      by_cases c1 : sees E σ [105, 102] = true
      · rw [if_pos c1] at h
        refine ⟨hc _ _ h, ?_⟩
        cases n with
        | zero => simp [choice] at h
        | succ n =>
          rw [choice] at h
          obtain ⟨x, hx, h⟩ := Option.bind_eq_some_iff.1 h
          obtain ⟨y, hy, h⟩ := Option.bind_eq_some_iff.1 h
          obtain ⟨z, hz, rfl⟩ := Option.map_eq_some_iff.1 h
          have h1 : (require E σ [105, 102]).next = σ.next + 1 := by unfold require; rw [if_pos c1]; rfl
          have h2 := ((expr_le E n).2.2.2.1 _ _ _ hx).1
          have h3 := ((stmt_le n).2.1 _ _ hy).1
          have h4 := ((stmt_le n).2.1 _ _ hz).1
          have h5 := (le_require E y.1 [101, 108, 115, 101]).1
          right
          simp only
          omega
      rw [if_neg c1] at h
      by_cases c2 : sees E σ [102, 111, 114] = true
      · rw [if_pos c2] at h
        obtain ⟨z, hz, rfl⟩ := Option.map_eq_some_iff.1 h
        exact step (sees_err E c2).1 ((((le_nameP E _).trans (le_require E _ _)).trans (le_numP E _ _ _)).trans (hb _ z hz))
      rw [if_neg c2] at h
      by_cases c3 : sees E σ [119, 104, 105, 108, 101] = true
      · rw [if_pos c3] at h
        obtain ⟨x, hx, h⟩ := Option.bind_eq_some_iff.1 h
        obtain ⟨z, hz, rfl⟩ := Option.map_eq_some_iff.1 h
        exact step (sees_err E c3).1 ((((he _ _ x hx).trans (le_require E _ _)).trans (le_numP E _ _ _)).trans (hb _ z hz))
      rw [if_neg c3] at h
      by_cases c4 : sees E σ [105, 110] = true
      · rw [if_pos c4] at h
        obtain ⟨z, hz, rfl⟩ := Option.map_eq_some_iff.1 h
        exact step (sees_err E c4).1 ((hp _ z hz).trans (le_transfer E _ _ _))
      rw [if_neg c4] at h
      by_cases c5 : sees E σ [111, 117, 116] = true
      · rw [if_pos c5] at h
        obtain ⟨z, hz, rfl⟩ := Option.map_eq_some_iff.1 h
        exact step (sees_err E c5).1 ((he _ _ z hz).trans (le_transfer E _ _ _))
      rw [if_neg c5] at h
      by_cases c6 : sees E σ [108, 111, 99, 107] = true
      · rw [if_pos c6] at h
        obtain ⟨z, hz, rfl⟩ := Option.map_eq_some_iff.1 h
        exact step (sees_err E c6).1 ((le_nameP E _).trans (hb _ z hz))
      rw [if_neg c6] at h
      obtain ⟨x, hx, h⟩ := Option.bind_eq_some_iff.1 h
      obtain ⟨z, hz, rfl⟩ := Option.map_eq_some_iff.1 h
      have l1 := ((le_require E x.1 [61]).trans (he _ _ z hz)).trans (le_require E z.1 [59])
      refine ⟨(hp _ x hx).trans l1, ?_⟩
      rcases place_adv E hx with h1 | h1
      · left
        have := l1.2 h1
        simp only
        rw [this]; exact h1
      · right
        have := l1.1
        simp only
        omega
end
end Go.Proofs.YtkeehpgnljieeaaDoor.PP
/- The parser's plain functions: a tree has no more nodes than tokens were read, where there is no error. -/
namespace Go.Proofs.YtkeehpgnljieeaaDoor.PP
open PL

section
variable (E : Env)
theorem ok_back {σ σ' : St} (h : Le σ σ') (he : σ'.err = 0) : σ.err = 0 := by
  by_cases h0 : σ.err = 0
  · exact h0
  · rw [h.2 h0] at he; exact absurd he h0
theorem require_ok {σ : St} {t : List UInt8} (h : (require E σ t).err = 0) : σ.next + 1 ≤ (require E σ t).next := by
  rcases require_adv E σ t with h1 | h1
  · exact absurd h h1
  · exact h1
theorem nameP_ok {σ : St} (h : (nameP E σ).1.err = 0) : σ.next + 1 ≤ (nameP E σ).1.next := by
  rcases nameP_adv E σ with h1 | h1
  · exact absurd h h1
  · exact h1
theorem numP_ok {σ : St} {lo hi : Int} (h : (numP E σ lo hi).1.err = 0) : σ.next + 1 ≤ (numP E σ lo hi).1.next := by
  unfold numP at h ⊢
  split
  · rename_i c
    rw [if_pos c] at h
    dsimp only at h ⊢
    split
    · rename_i d; rw [if_pos d] at h; exact absurd h (fail_err (by decide))
    · simp [adv]
  · rename_i c
    rw [if_neg c] at h
    exact absurd h (reject_err E σ)
theorem expr_size : ∀ (n : Nat), (∀ σ r, unary E n σ = some r → r.1.err = 0 → r.2.size + σ.next ≤ r.1.next) ∧ (∀ σ r, primary E n σ = some r → r.1.err = 0 → r.2.size + σ.next ≤ r.1.next) ∧ (∀ σ r, place E n σ = some r → r.1.err = 0 → r.2.size + σ.next ≤ r.1.next) ∧
    (∀ l σ r, binary E n l σ = some r → r.1.err = 0 → r.2.size + σ.next ≤ r.1.next) ∧ (∀ l σ t r, binLoop E n l σ t = some r → r.1.err = 0 → r.2.size + σ.next ≤ r.1.next + t.size)
  | 0 => ⟨fun _ _ h => by simp [unary] at h, fun _ _ h => by simp [primary] at h, fun _ _ h => by simp [place] at h, fun _ _ _ h => by simp [binary] at h, fun _ _ _ _ h => by simp [binLoop] at h⟩
  | n + 1 => by
    obtain ⟨hu, hp, hpl, hb, hl⟩ := expr_size n
    refine ⟨fun σ r h he => ?_, fun σ r h he => ?_, fun σ r h he => ?_, fun l σ r h he => ?_, fun l σ t r h he => ?_⟩
    · rw [unary] at h
      split at h
      · obtain ⟨x, hx, rfl⟩ := Option.map_eq_some_iff.1 h
        have := hu _ _ hx he
        simp only [Tree.size, sizeL, adv] at this ⊢; omega
      · split at h
        · obtain ⟨x, hx, rfl⟩ := Option.map_eq_some_iff.1 h
          have := hu _ _ hx he
          simp only [Tree.size, sizeL, adv] at this ⊢; omega
        · exact hp _ _ h he
    · rw [primary] at h
      split at h
      · obtain ⟨x, hx, rfl⟩ := Option.map_eq_some_iff.1 h
        have h1 := hb _ _ _ hx (ok_back (le_require E x.1 [41]) he)
        have h2 := (le_require E x.1 [41]).1
        simp only [adv] at h1 ⊢; omega
      · split at h
        · injection h with h; subst h
          have := numP_ok E he
          simp only [Tree.size, sizeL] at this ⊢; omega
        · exact hpl _ _ h he
    · rw [place] at h
      split at h
      · rename_i c
        obtain ⟨x, hx, rfl⟩ := Option.map_eq_some_iff.1 h
        have h1 := hb _ _ _ hx (ok_back (le_require E x.1 [93]) he)
        have h2 := (le_require E x.1 [93]).1
        have h3 := (le_nameP E σ).1
        simp only [Tree.size, sizeL, adv] at h1 ⊢; omega
      · injection h with h; subst h
        have := nameP_ok E he
        simp only [Tree.size, sizeL] at this ⊢; omega
    · rw [binary] at h
      obtain ⟨x, hx, hr⟩ := Option.bind_eq_some_iff.1 h
      have h1 := hl _ _ _ _ hr he
      have h2 := hu _ _ hx (ok_back ((expr_le E n).2.2.2.2 _ _ _ _ hr) he)
      omega
    · rw [binLoop] at h
      split at h
      · split at h
        · split at h
          · injection h with h; subst h; simp only; omega
          · obtain ⟨x, hx, hr⟩ := Option.bind_eq_some_iff.1 h
            have h1 := hl _ _ _ _ hr he
            have h2 := hb _ _ _ hx (ok_back ((expr_le E n).2.2.2.2 _ _ _ _ hr) he)
            simp only [Tree.size, sizeL, adv] at h1 h2; omega
        · injection h with h; subst h; simp only; omega
      · injection h with h; subst h; simp only; omega
theorem sizeL_app (l m : List Tree) : sizeL (l ++ m) = sizeL l + sizeL m := by
  induction l with
  | nil => simp [sizeL]
  | cons a l ih => simp only [List.cons_append, sizeL, ih]; omega
theorem stmt_size : ∀ (n : Nat), (∀ top σ acc r, stmts E n top σ acc = some r → r.1.err = 0 → sizeL r.2 + σ.next ≤ r.1.next + sizeL acc) ∧ (∀ σ r, block E n σ = some r → r.1.err = 0 → r.2.size + σ.next ≤ r.1.next) ∧
    (∀ σ r, choice E n σ = some r → r.1.err = 0 → r.2.size + σ.next ≤ r.1.next) ∧ (∀ σ r, statement E n σ = some r → r.1.err = 0 → r.2.size + σ.next ≤ r.1.next)
  | 0 => ⟨fun _ _ _ _ h => by simp [stmts] at h, fun _ _ h => by simp [block] at h, fun _ _ h => by simp [choice] at h, fun _ _ h => by simp [statement] at h⟩
  | n + 1 => by
    obtain ⟨hs, hb, hc, ht⟩ := stmt_size n
    have hbs : ∀ l σ r, binary E n l σ = some r → r.1.err = 0 → r.2.size + σ.next ≤ r.1.next := (expr_size E n).2.2.2.1
    have hps : ∀ σ r, place E n σ = some r → r.1.err = 0 → r.2.size + σ.next ≤ r.1.next := (expr_size E n).2.2.1
    have kb : ∀ σ r, block E n σ = some r → Le σ r.1 := (stmt_le E n).2.1
    have ke : ∀ l σ r, binary E n l σ = some r → Le σ r.1 := (expr_le E n).2.2.2.1
    refine ⟨fun top σ acc r h he => ?_, fun σ r h he => ?_, fun σ r h he => ?_, fun σ r h he => ?_⟩
    · rw [stmts] at h
      split at h
      · obtain ⟨x, hx, hr⟩ := Option.bind_eq_some_iff.1 h
        have h1 := hs _ _ _ _ hr he
        have h2 := ht _ _ hx (ok_back ((stmt_le E n).1 _ _ _ _ hr) he)
        rw [sizeL_app] at h1
        simp only [sizeL] at h1; omega
      · injection h with h; subst h; simp only; omega
    · rw [block] at h
      obtain ⟨x, hx, rfl⟩ := Option.map_eq_some_iff.1 h
      have e1 := ok_back (le_require E x.1 [125]) he
      have h1 := hs _ _ _ _ hx e1
      have h2 := require_ok E he
      have h3 := (le_require E σ [123]).1
      simp only [Tree.size, sizeL] at h1 h2 ⊢; omega
    · rw [choice] at h
      obtain ⟨x, hx, h⟩ := Option.bind_eq_some_iff.1 h
      obtain ⟨y, hy, h⟩ := Option.bind_eq_some_iff.1 h
      obtain ⟨z, hz, rfl⟩ := Option.map_eq_some_iff.1 h
      have e1 := ok_back (kb _ z hz) he
      have e2 := ok_back (le_require E y.1 _) e1
      have e3 := ok_back (kb _ y hy) e2
      have e4 := ok_back (ke _ _ x hx) e3
      have h1 := hbs _ _ x hx e3
      have h2 := hb _ y hy e2
      have h3 := hb _ z hz he
      have h4 := require_ok E e4
      have h5 := (le_require E y.1 [101, 108, 115, 101]).1
      simp only [Tree.size, sizeL] at h1 h2 h3 h4 h5 ⊢; omega
    · rw [statement] at h
      by_cases c1 : sees E σ [105, 102] = true
      · rw [if_pos c1] at h
        exact hc _ _ h he
      rw [if_neg c1] at h
      by_cases c2 : sees E σ [102, 111, 114] = true
      · rw [if_pos c2] at h
        obtain ⟨z, hz, rfl⟩ := Option.map_eq_some_iff.1 h
        have h1 := hb _ z hz he
        have h2 := ((le_nameP E (adv σ)).trans ((le_require E _ [60]).trans (le_numP E (require E (nameP E (adv σ)).1 [60]) 1 1000))).1
        simp only [Tree.size, sizeL, adv] at h1 h2 ⊢; omega
      rw [if_neg c2] at h
      by_cases c3 : sees E σ [119, 104, 105, 108, 101] = true
      · rw [if_pos c3] at h
        obtain ⟨x, hx, h⟩ := Option.bind_eq_some_iff.1 h
        obtain ⟨z, hz, rfl⟩ := Option.map_eq_some_iff.1 h
        have e1 := ok_back (kb _ z hz) he
        have e2 := ok_back (le_numP E _ _ _) e1
        have e3 := ok_back (le_require E _ _) e2
        have h1 := hbs _ _ x hx e3
        have h2 := hb _ z hz he
        have h3 := ((le_require E x.1 [98, 111, 117, 110, 100]).trans (le_numP E (require E x.1 [98, 111, 117, 110, 100]) 1 1000)).1
        simp only [Tree.size, sizeL, adv] at h1 h2 h3 ⊢; omega
      rw [if_neg c3] at h
      by_cases c4 : sees E σ [105, 110] = true
      · rw [if_pos c4] at h
        obtain ⟨z, hz, rfl⟩ := Option.map_eq_some_iff.1 h
        have e1 := ok_back (le_transfer E 44 z.2 z.1) he
        have h1 := hps _ z hz e1
        have h2 := (le_transfer E 44 z.2 z.1).1
        simp only [adv] at h1
        simp only [transfer, Tree.size, sizeL] at h1 h2 ⊢; omega
      rw [if_neg c4] at h
      by_cases c5 : sees E σ [111, 117, 116] = true
      · rw [if_pos c5] at h
        obtain ⟨z, hz, rfl⟩ := Option.map_eq_some_iff.1 h
        have e1 := ok_back (le_transfer E 45 z.2 z.1) he
        have h1 := hbs _ _ z hz e1
        have h2 := (le_transfer E 45 z.2 z.1).1
        simp only [adv] at h1
        simp only [transfer, Tree.size, sizeL] at h1 h2 ⊢; omega
      rw [if_neg c5] at h
      by_cases c6 : sees E σ [108, 111, 99, 107] = true
      · rw [if_pos c6] at h
        obtain ⟨z, hz, rfl⟩ := Option.map_eq_some_iff.1 h
        have h1 := hb _ z hz he
        have h2 := (le_nameP E (adv σ)).1
        simp only [Tree.size, sizeL, adv] at h1 h2 ⊢; omega
      rw [if_neg c6] at h
      obtain ⟨x, hx, h⟩ := Option.bind_eq_some_iff.1 h
      obtain ⟨z, hz, rfl⟩ := Option.map_eq_some_iff.1 h
      have e1 := ok_back (le_require E z.1 [59]) he
      have e2 := ok_back (ke _ _ z hz) e1
      have e3 := ok_back (le_require E x.1 [61]) e2
      have h1 := hps _ x hx e3
      have h2 := hbs _ _ z hz e1
      have h3 := require_ok E he
      have h4 := (le_require E x.1 [61]).1
      simp only [Tree.size, sizeL] at h1 h2 h3 ⊢; omega
theorem arrayP_next (σ : St) : σ.next < (arrayP E σ).1.next := by
  have h1 := ((le_nameP E (adv σ)).trans ((le_require E (nameP E (adv σ)).1 [91]).trans ((le_numP E (require E (nameP E (adv σ)).1 [91]) 1 32).trans ((le_require E (numP E (require E (nameP E (adv σ)).1 [91]) 1 32).1 [93]).trans (le_require E (require E (numP E (require E (nameP E (adv σ)).1 [91]) 1 32).1 [93]) [59]))))).1
  have h2 : (adv σ).next = σ.next + 1 := rfl
  have h3 : (arrayP E σ).1 = require E (require E (numP E (require E (nameP E (adv σ)).1 [91]) 1 32).1 [93]) [59] := rfl
  rw [h3]; omega
theorem variableP_next (σ : St) : σ.next < (variableP E σ).1.next := by
  have h1 := ((le_nameP E (adv σ)).trans (le_require E (nameP E (adv σ)).1 [59])).1
  have h2 : (adv σ).next = σ.next + 1 := rfl
  have h3 : (variableP E σ).1 = require E (nameP E (adv σ)).1 [59] := rfl
  rw [h3]; omega
theorem decls_next : ∀ (n : Nat) σ vs ar r, decls E n σ vs ar = some r → σ.next ≤ r.1.next
  | 0, _, _, _, _, h => by simp [decls] at h
  | n + 1, σ, vs, ar, r, h => by
    rw [decls] at h
    split at h
    · split at h
      · have h1 := decls_next n _ _ _ _ h
        have h2 := arrayP_next E σ
        omega
      · split at h
        · have h1 := decls_next n _ _ _ _ h
          have h2 := variableP_next E σ
          omega
        · have h1 := decls_next n _ _ _ _ h
          have h2 := (le_fail σ (here E σ) 5).1
          omega
    · injection h with h; subst h; exact Nat.le_refl _
theorem limitP_next (t : Tree) (o : Nat) (σ : St) : (limitP t o σ).next = σ.next := by
  unfold limitP
  split
  · split
    · unfold fail; split <;> rfl
    · rfl
  · rfl
end
end Go.Proofs.YtkeehpgnljieeaaDoor.PP
/- Plain facts on the tokens of texts that are cut off or go on. -/
namespace Go.Proofs.YtkeehpgnljieeaaDoor.PL

theorem takeWhile_cut {α : Type} (p : α → Bool) : ∀ (l : List α) (q : Nat), (l.takeWhile p).length ≤ q → (l.take q).takeWhile p = l.takeWhile p
  | [], q, _ => by simp
  | a :: l, q, h => by
    by_cases hp : p a
    · cases q with
      | zero => simp [hp] at h
      | succ q =>
        simp only [List.takeWhile_cons, hp, if_true, List.length_cons] at h
        simp [hp, takeWhile_cut p l q (by omega)]
    · cases q <;> simp [hp]
theorem count_cut (p : UInt8 → Bool) (b : UInt8) (t : List UInt8) (q : Nat) (h : count p (b :: t) ≤ q + 1) : count p (b :: t.take q) = count p (b :: t) := by
  unfold count at h ⊢
  simp only [List.tail_cons] at h ⊢
  rw [takeWhile_cut p t q (by omega)]
theorem isPrefixOf_cut {g l : List UInt8} {q : Nat} (h : g.isPrefixOf (l.take q) = true) : g.isPrefixOf l = true := by
  rw [List.isPrefixOf_iff_prefix] at h ⊢
  exact h.trans (List.take_prefix _ _)
theorem find_cut (l : List UInt8) (q : Nat) (g : List UInt8) : ∀ (S : List (List UInt8)), S.find? (fun h => h.isPrefixOf l) = some g → g.length ≤ q → S.find? (fun h => h.isPrefixOf (l.take q)) = some g
  | [], h, _ => by simp at h
  | a :: S, h, hq => by
    by_cases ha : a.isPrefixOf l = true
    · rw [List.find?_cons_of_pos (by exact ha)] at h
      injection h with h
      subst h
      rw [List.find?_cons_of_pos]
      rw [List.isPrefixOf_iff_prefix] at ha ⊢
      exact List.prefix_take_iff.2 ⟨ha, hq⟩
    · rw [List.find?_cons_of_neg (by exact ha)] at h
      rw [List.find?_cons_of_neg (by intro hc; exact ha (isPrefixOf_cut hc))]
      exact find_cut l q g S h hq
/-- A text that is cut off behind its first token begins with that token. -/
theorem first_cut (l : List UInt8) (q : Nat) (h : (first l).2 ≠ 0) (hq : (first l).2 ≤ q) : first (l.take q) = first l := by
  match l, ne_nil_of_first h with
  | b :: t, _ =>
    obtain ⟨q, rfl⟩ : ∃ q', q = q' + 1 := ⟨q - 1, by omega⟩
    rw [List.take_succ_cons]
    by_cases h1 : isLetter b = true
    · have e : first (b :: t) = (1, count isInner (b :: t)) := by simp [first, h1]
      rw [e] at hq ⊢
      simp [first, h1, count_cut isInner b t q hq]
    · by_cases h2 : isDigit b = true
      · have e : first (b :: t) = (2, count isDigit (b :: t)) := by simp [first, h1, h2]
        rw [e] at hq ⊢
        simp [first, h1, h2, count_cut isDigit b t q hq]
      · by_cases h3 : isSpace b = true
        · have e : first (b :: t) = (4, count isSpace (b :: t)) := by simp [first, h1, h2, h3]
          rw [e] at hq ⊢
          simp [first, h1, h2, h3, count_cut isSpace b t q hq]
        · by_cases h4 : (b == 35) = true
          · have e : first (b :: t) = (5, count isText (b :: t)) := by simp only [first, h1, h2, h3, h4]; simp
            rw [e] at hq ⊢
            simp only [first, h1, h2, h3, h4, count_cut isText b t q hq]; simp
          · cases hf : signs.find? (fun g => g.isPrefixOf (b :: t)) with
            | none => exact absurd (by simp only [first, h1, h2, h3, h4, hf]; simp) h
            | some g =>
              have e : first (b :: t) = (3, g.length) := by simp only [first, h1, h2, h3, h4, hf]; simp
              rw [e] at hq ⊢
              have hf' := find_cut (b :: t) (q + 1) g signs hf hq
              rw [List.take_succ_cons] at hf'
              simp only [first, h1, h2, h3, h4, hf']; simp
/-- The texts of the tokens have these tokens. -/
theorem Run.cut {pos : Nat} {l : List UInt8} {ts : List Tok} {p : Nat} {r : List UInt8} (h : Run pos l ts p r) : Run pos (ts.flatMap Tok.text) ts p [] := by
  induction h with
  | stop => exact .stop _ _
  | step h0 h ih =>
    rename_i pos l ts p r
    have hle := first_le l
    have ht := h.text.1
    have hl : ((first l).2 + (ts.flatMap Tok.text).length) ≤ l.length := by
      have := congrArg List.length ht
      simp only [List.length_drop, List.length_append] at this
      omega
    have e : (⟨(first l).1, l.take (first l).2, pos⟩ :: ts : List Tok).flatMap Tok.text = l.take ((first l).2 + (ts.flatMap Tok.text).length) := by
      rw [List.flatMap_cons, List.take_add]
      congr 1
      rw [ht]; simp
    have hf := first_cut l ((first l).2 + (ts.flatMap Tok.text).length) h0 (by omega)
    rw [e]
    have step := Run.step (pos := pos) (l := l.take ((first l).2 + (ts.flatMap Tok.text).length)) (ts := ts) (p := p) (r := []) (by rw [hf]; exact h0) (by
      rw [hf, List.drop_take]
      have e2 : (l.drop (first l).2).take ((first l).2 + (ts.flatMap Tok.text).length - (first l).2) = ts.flatMap Tok.text := by
        rw [ht, Nat.add_sub_cancel_left]; simp
      rw [e2]
      exact ih)
    rw [hf, List.take_take, Nat.min_eq_left (by omega)] at step
    exact step
/-- LexerError. -/
theorem error_law {l : List UInt8} {ts : List Tok} {p e : Nat} (he : lex l = (ts, p, e)) (h0 : e ≠ 0) (hl : l.length ≤ 65536) :
    ∃ us, lex (l.take p) = (us, 0, 0) ∧ us.flatMap Tok.text = l.take p ∧ lex (l.drop p) = ([], 0, 3) := by
  obtain ⟨_, _, h⟩ := lex_error he h0 hl
  obtain ⟨us, r, h1, h2, h3⟩ := error_run h
  obtain ⟨h4, h5⟩ := h1.text
  have e1 : l.take p = us.flatMap Tok.text := by rw [h4, h5]; simp
  have e2 : l.drop p = r := by rw [h4, h5]; simp
  refine ⟨us, ?_, e1.symm, ?_⟩
  · rw [e1]
    exact lex_of_ok (by rw [← e1]; simp; omega) h1.cut.ok
  · rw [e2]
    refine lex_of_error (by rw [← e2]; simp; omega) (lexFrom_bad 0 r h2 h3)

theorem takeWhile_ext (p : UInt8 → Bool) (x : List UInt8) : ∀ (l : List UInt8), (l.takeWhile p).length < l.length ∨ (∃ c y, x = c :: y ∧ p c = false) → (l ++ x).takeWhile p = l.takeWhile p
  | [], h => by
    rcases h with h | ⟨c, y, rfl, hc⟩
    · simp at h
    · simp [hc]
  | a :: l, h => by
    by_cases hp : p a
    · simp only [List.cons_append, List.takeWhile_cons, hp, if_true, List.cons.injEq, true_and]
      exact takeWhile_ext p x l (by simpa [hp] using h)
    · simp [hp]
theorem count_ext (p : UInt8 → Bool) (b : UInt8) (t x : List UInt8) (h : count p (b :: t) < (b :: t).length ∨ (∃ c y, x = c :: y ∧ p c = false)) : count p (b :: t ++ x) = count p (b :: t) := by
  unfold count at h ⊢
  simp only [List.tail_cons, List.cons_append, List.length_cons] at h ⊢
  rw [takeWhile_ext p x t]
  rcases h with h | h
  · exact .inl (by omega)
  · exact .inr h
theorem sign_two : ∀ g ∈ signs, g.length ≤ 2 := by decide
theorem sign_no10 : ∀ g ∈ signs, ∀ c ∈ g, c ≠ 10 := by decide
theorem isPrefixOf_ext {g l y : List UInt8} (hg : g ∈ signs) : g.isPrefixOf (l ++ 10 :: y) = g.isPrefixOf l := by
  rw [Bool.eq_iff_iff, List.isPrefixOf_iff_prefix, List.isPrefixOf_iff_prefix]
  refine ⟨fun h => ?_, fun h => h.trans (List.prefix_append _ _)⟩
  rcases Nat.lt_or_ge l.length g.length with hlt | hge
  · exfalso
    obtain ⟨z, hz⟩ := h
    have h10 := sign_no10 g hg 10
    have : (l ++ 10 :: y)[l.length]? = some 10 := by simp
    rw [← hz, List.getElem?_append_left hlt] at this
    exact h10 (List.mem_of_getElem? this) rfl
  · exact List.prefix_of_prefix_length_le h (List.prefix_append l _) hge
theorem find_ext (l y : List UInt8) : signs.find? (fun h => h.isPrefixOf (l ++ 10 :: y)) = signs.find? (fun h => h.isPrefixOf l) := by
  have : ∀ S : List (List UInt8), (∀ g ∈ S, g ∈ signs) → S.find? (fun h => h.isPrefixOf (l ++ 10 :: y)) = S.find? (fun h => h.isPrefixOf l) := by
    intro S
    induction S with
    | nil => intro _; rfl
    | cons a S ih =>
      intro hS
      have ha := isPrefixOf_ext (l := l) (y := y) (hS a (by simp))
      simp only [List.find?_cons, ha]
      rw [ih (fun g hg => hS g (by simp [hg]))]
  exact this signs (fun _ h => h)
/-- A line feed behind a text does not change its first token, unless that is a space up to the end. -/
theorem first_ext (l y : List UInt8) (hl : l ≠ []) (h : (first l).2 < l.length ∨ (first l).1 ≠ 4) : first (l ++ 10 :: y) = first l := by
  match l, hl with
  | b :: t, _ =>
    by_cases h1 : isLetter b = true
    · have e : first (b :: t) = (1, count isInner (b :: t)) := by simp [first, h1]
      have hc := count_ext isInner b t (10 :: y) (.inr ⟨10, y, rfl, by decide⟩)
      rw [e]
      rw [List.cons_append] at hc ⊢
      simp [first, h1, hc]
    · by_cases h2 : isDigit b = true
      · have e : first (b :: t) = (2, count isDigit (b :: t)) := by simp [first, h1, h2]
        have hc := count_ext isDigit b t (10 :: y) (.inr ⟨10, y, rfl, by decide⟩)
        rw [e]
        rw [List.cons_append] at hc ⊢
        simp [first, h1, h2, hc]
      · by_cases h3 : isSpace b = true
        · have e : first (b :: t) = (4, count isSpace (b :: t)) := by simp [first, h1, h2, h3]
          rw [e] at h ⊢
          have hc := count_ext isSpace b t (10 :: y) (.inl (by simpa using h))
          rw [List.cons_append] at hc ⊢
          simp [first, h1, h2, h3, hc]
        · by_cases h4 : (b == 35) = true
          · have e : first (b :: t) = (5, count isText (b :: t)) := by simp only [first, h1, h2, h3, h4]; simp
            have hc := count_ext isText b t (10 :: y) (.inr ⟨10, y, rfl, by decide⟩)
            rw [e]
            rw [List.cons_append] at hc ⊢
            simp only [first, h1, h2, h3, h4, hc]; simp
          · have hf := find_ext (b :: t) y
            rw [List.cons_append] at hf ⊢
            simp only [first, h1, h2, h3, h4, hf]; simp
theorem first_bad_ext (r y : List UInt8) (hr : r ≠ []) (h : (first r).2 = 0) : (first (r ++ 10 :: y)).2 = 0 := by
  rw [first_ext r y hr (.inl (by rw [h]; exact List.length_pos_iff.2 hr)), h]
theorem Run.ext {pos : Nat} {l : List UInt8} {ts : List Tok} {p : Nat} {r : List UInt8} (h : Run pos l ts p r) (y : List UInt8) (hr : r ≠ []) : Run pos (l ++ 10 :: y) ts p (r ++ 10 :: y) := by
  induction h with
  | stop => exact .stop _ _
  | step h0 h ih =>
    rename_i pos l ts p r
    have hle := first_le l
    have hlt : (first l).2 < l.length := by
      have := congrArg List.length h.text.1
      have h3 := List.length_pos_iff.2 hr
      simp only [List.length_drop, List.length_append] at this
      omega
    have hf := first_ext l y (ne_nil_of_first h0) (.inl hlt)
    have step := Run.step (pos := pos) (l := l ++ 10 :: y) (ts := ts) (p := p) (r := r ++ 10 :: y) (by rw [hf]; exact h0) (by
      rw [hf, List.drop_append_of_le_length hle]
      exact ih hr)
    rw [hf, List.take_append_of_le_length hle] at step
    exact step
theorem takeWhile_all {α : Type} (p : α → Bool) (l y : List α) (h : ∀ c ∈ l, p c = true) : (l ++ y).takeWhile p = l ++ y.takeWhile p := by
  induction l with
  | nil => rfl
  | cons a l ih =>
    have ha := h a (by simp)
    simp [ha, ih (fun c hc => h c (by simp [hc]))]
/-- Spaces, a line feed, and what follows. -/
theorem first_spaces (l y : List UInt8) (h : ∀ c ∈ l, isSpace c = true) : first (l ++ 10 :: y) = (4, l.length + 1 + (y.takeWhile isSpace).length) := by
  cases l with
  | nil =>
    have h1 : isLetter 10 = false := by decide
    have h2 : isDigit 10 = false := by decide
    have h3 : isSpace 10 = true := by decide
    simp [first, h1, h2, h3, count]
  | cons b t =>
    have h3 := h b (by simp)
    have h1 : isLetter b = false := by
      cases hb : isLetter b with
      | false => rfl
      | true =>
        simp [isLetter, UInt8.le_iff_toNat_le] at hb
        simp [isSpace, ← UInt8.toNat_inj] at h3
        omega
    have h2 : isDigit b = false := by
      cases hb : isDigit b with
      | false => rfl
      | true =>
        simp [isDigit, UInt8.le_iff_toNat_le] at hb
        simp [isSpace, ← UInt8.toNat_inj] at h3
        omega
    have hw := takeWhile_all isSpace t (10 :: y) (fun c hc => h c (by simp [hc]))
    have h10 : isSpace 10 = true := by decide
    rw [List.cons_append]
    simp only [first, h1, h2, h3, count, List.tail_cons, hw]
    simp [h10]
    omega
theorem takeWhile_mem {α : Type} (p : α → Bool) : ∀ (l : List α) (c : α), c ∈ l.takeWhile p → p c = true
  | [], c, h => by simp at h
  | a :: l, c, h => by
    by_cases ha : p a
    · rw [List.takeWhile_cons, if_pos ha] at h
      rcases List.mem_cons.1 h with rfl | h
      · exact ha
      · exact takeWhile_mem p l c h
    · rw [List.takeWhile_cons, if_neg ha] at h; simp at h
theorem space_kind {l : List UInt8} (h : (first l).1 = 4) : ∀ c ∈ l.take (first l).2, isSpace c = true := by
  match l with
  | [] => simp
  | b :: t =>
    have h3 : isSpace b = true ∧ first (b :: t) = (4, count isSpace (b :: t)) := by
      unfold first at h ⊢
      by_cases h1 : isLetter b = true
      · simp [h1] at h
      · by_cases h2 : isDigit b = true
        · simp [h1, h2] at h
        · by_cases h3 : isSpace b = true
          · simp [h1, h2, h3]
          · by_cases h4 : (b == 35) = true
            · simp only [h1, h2, h3, h4] at h; simp at h
            · simp only [h1, h2, h3, h4] at h
              cases hf : signs.find? (fun g => g.isPrefixOf (b :: t)) <;> simp [hf] at h
    rw [h3.2]
    intro c hc
    unfold count at hc
    simp only [List.tail_cons] at hc
    rw [show 1 + (t.takeWhile isSpace).length = (t.takeWhile isSpace).length + 1 from by omega, List.take_succ_cons] at hc
    rcases List.mem_cons.1 hc with rfl | hc
    · exact h3.1
    · rw [← List.prefix_iff_eq_take.1 (List.takeWhile_prefix isSpace)] at hc
      exact takeWhile_mem isSpace t c hc
def solidT (t : Tok) : Bool := (t.kind != 4) && (t.kind != 5)
/-- The last token parted from the others. -/
theorem Run.last {pos : Nat} {l : List UInt8} {ts : List Tok} {p : Nat} {r : List UInt8} (h : Run pos l ts p r) : ts = [] ∨
    ∃ us q m, ts = us ++ [⟨(first m).1, m.take (first m).2, q⟩] ∧ Run pos l us q m ∧ (first m).2 ≠ 0 ∧ p = q + (first m).2 ∧ m.drop (first m).2 = r := by
  induction h with
  | stop => exact .inl rfl
  | step h0 h ih =>
    rename_i pos l ts p r
    right
    rcases ih with rfl | ⟨us, q, m, rfl, h1, h2, h3, h4⟩
    · refine ⟨[], pos, l, rfl, .stop _ _, h0, ?_, ?_⟩
      · cases h; rfl
      · cases h; rfl
    · exact ⟨_ :: us, q, m, rfl, .step h0 h1, h2, h3, h4⟩
/-- The first text with a line feed and the second one behind it: up to the second one's leading spaces. -/
theorem lines_left {pos : Nat} {l : List UInt8} {ts : List Tok} {p : Nat} (h : Run pos l ts p []) (y : List UInt8) :
    ∃ us, Run pos (l ++ 10 :: y) us (p + 1 + (y.takeWhile isSpace).length) (y.drop (y.takeWhile isSpace).length) ∧ us.filter solidT = ts.filter solidT := by
  have sp : ∀ (q : Nat) (m : List UInt8), (∀ c ∈ m, isSpace c = true) → ∃ t, t.kind = 4 ∧ Run q (m ++ 10 :: y) [t] (q + m.length + 1 + (y.takeWhile isSpace).length) (y.drop (y.takeWhile isSpace).length) := by
    intro q m hm
    have hf := first_spaces m y hm
    refine ⟨⟨4, (m ++ 10 :: y).take (m.length + 1 + (y.takeWhile isSpace).length), q⟩, rfl, ?_⟩
    have step := Run.step (pos := q) (l := m ++ 10 :: y) (ts := []) (by rw [hf]; simp) (.stop _ _)
    rw [hf] at step
    simp only [] at step
    rw [show q + (m.length + 1 + (y.takeWhile isSpace).length) = q + m.length + 1 + (y.takeWhile isSpace).length from by omega] at step
    have hd : (m ++ 10 :: y).drop (m.length + 1 + (y.takeWhile isSpace).length) = y.drop (y.takeWhile isSpace).length := by
      rw [show m.length + 1 + (y.takeWhile isSpace).length = m.length + (1 + (y.takeWhile isSpace).length) from by omega, ← List.drop_drop]
      simp [Nat.add_comm]
    rw [hd] at step
    exact step
  rcases h.last with rfl | ⟨us, q, m, rfl, h1, h2, rfl, h4⟩
  · cases h
    obtain ⟨t, ht, hr⟩ := sp pos [] (by simp)
    exact ⟨[t], by simpa using hr, by simp [solidT, ht]⟩
  · have hm := ne_nil_of_first h2
    have hle := first_le m
    have hml : (first m).2 = m.length := by
      have := congrArg List.length h4
      simp at this
      omega
    have hx := h1.ext y hm
    by_cases h5 : (first m).1 = 4
    · have hall := space_kind h5
      rw [hml, List.take_length] at hall
      obtain ⟨t, ht, hr⟩ := sp q m hall
      refine ⟨us ++ [t], ?_, ?_⟩
      · rw [hml]; exact hx.trans hr
      · simp [solidT, ht, h5]
    · have hf := first_ext m y hm (.inr h5)
      obtain ⟨t, ht, hr⟩ := sp (q + (first m).2) [] (by simp)
      have step := Run.step (pos := q) (l := m ++ 10 :: y) (by rw [hf]; exact h2) (ts := [t]) (p := q + (first m).2 + 1 + (y.takeWhile isSpace).length) (r := y.drop (y.takeWhile isSpace).length) (by
        rw [hf, List.drop_append_of_le_length hle, h4]
        simpa using hr)
      rw [hf, List.take_append_of_le_length hle] at step
      exact ⟨us ++ [⟨(first m).1, m.take (first m).2, q⟩, t], hx.trans step, by
        have htf : solidT t = false := by simp [solidT, ht]
        simp [List.filter_cons, htf]⟩
/-- The second text behind its leading spaces. -/
theorem lines_right {l : List UInt8} {ts : List Tok} {p : Nat} {r : List UInt8} (h : Run 0 l ts p r) (hr : r = [] ∨ (first r).2 = 0) :
    ∃ us, Run (l.takeWhile isSpace).length (l.drop (l.takeWhile isSpace).length) us p r ∧ us.filter solidT = ts.filter solidT := by
  by_cases hk : (l.takeWhile isSpace).length = 0
  · rw [hk]; exact ⟨ts, h, rfl⟩
  · match l with
    | [] => simp at hk
    | b :: t =>
      have hb : isSpace b = true := by
        cases hb : isSpace b with
        | true => rfl
        | false => simp [hb] at hk
      have h1 : isLetter b = false := by
        cases hc : isLetter b with
        | false => rfl
        | true =>
          simp [isLetter, UInt8.le_iff_toNat_le] at hc
          simp [isSpace, ← UInt8.toNat_inj] at hb
          omega
      have h2 : isDigit b = false := by
        cases hc : isDigit b with
        | false => rfl
        | true =>
          simp [isDigit, UInt8.le_iff_toNat_le] at hc
          simp [isSpace, ← UInt8.toNat_inj] at hb
          omega
      have hf : first (b :: t) = (4, ((b :: t).takeWhile isSpace).length) := by
        simp only [first, h1, h2, hb, count, List.tail_cons]
        simp [hb]; omega
      generalize hL : b :: t = L at *
      cases h with
      | stop =>
        rcases hr with hr | hr
        · rw [hr] at hL; cases hL
        · rw [hf] at hr; exact absurd hr hk
      | step h0 h =>
        rename_i ts
        rw [hf] at h
        simp only [Nat.zero_add] at h
        refine ⟨ts, h, ?_⟩
        simp [solidT, hf]
theorem filter_shift (ts : List Tok) (d : Nat) : (ts.map (shift d)).filter solidT = (ts.filter solidT).map (shift d) := by
  rw [List.filter_map]; rfl
/-- LexerLines: both texts are read. -/
theorem lines_ok {a b : List UInt8} {ts us : List Tok} {x y : Nat} (ha : lex a = (ts, x, 0)) (hb : lex b = (us, y, 0)) (hl : a.length + 1 + b.length ≤ 65536) :
    ∃ vs, lex (a ++ 10 :: b) = (vs, 0, 0) ∧ vs.filter solidT = ts.filter solidT ++ (us.filter solidT).map (shift (a.length + 1)) := by
  obtain ⟨_, h1, _⟩ := lex_ok ha rfl
  obtain ⟨_, h2, _⟩ := lex_ok hb rfl
  obtain ⟨p, hp⟩ := run_of_ok h1
  obtain ⟨q, hq⟩ := run_of_ok h2
  have hpl : p = a.length := by have := hp.text; rw [this.2, this.1]; simp
  obtain ⟨ls, hls, hf1⟩ := lines_left hp b
  obtain ⟨rs, hrs, hf2⟩ := lines_right hq (.inl rfl)
  have hs := hrs.shift (p + 1)
  rw [show (b.takeWhile isSpace).length + (p + 1) = p + 1 + (b.takeWhile isSpace).length from by omega] at hs
  have ht := hls.trans hs
  refine ⟨_, lex_of_ok (by simp; omega) ht.ok, ?_⟩
  rw [List.filter_append, hf1, filter_shift, hf2, hpl]
/-- LexerLines: the second text has an error. -/
theorem lines_error2 {a b : List UInt8} {ts us : List Tok} {x q e : Nat} (ha : lex a = (ts, x, 0)) (hb : lex b = (us, q, e)) (he : e ≠ 0) (hl : a.length + 1 + b.length ≤ 65536) :
    lex (a ++ 10 :: b) = ([], q + a.length + 1, 3) := by
  obtain ⟨_, h1, _⟩ := lex_ok ha rfl
  obtain ⟨_, _, h2⟩ := lex_error hb he (by omega)
  obtain ⟨p, hp⟩ := run_of_ok h1
  obtain ⟨ws, r, hq, hr1, hr2⟩ := error_run h2
  have hpl : p = a.length := by have := hp.text; rw [this.2, this.1]; simp
  obtain ⟨ls, hls, _⟩ := lines_left hp b
  obtain ⟨rs, hrs, _⟩ := lines_right hq (.inr hr2)
  have hs := hrs.shift (p + 1)
  rw [show (b.takeWhile isSpace).length + (p + 1) = p + 1 + (b.takeWhile isSpace).length from by omega] at hs
  have ht := (hls.trans hs).lex_ok
  rw [lexFrom_bad _ _ hr1 hr2] at ht
  refine lex_of_error (by simp; omega) ?_
  rw [ht, hpl]
  simp only [Except.map, Nat.add_assoc]
/-- LexerLines: the first text has an error. -/
theorem lines_error1 {a : List UInt8} {ts : List Tok} {p e : Nat} (b : List UInt8) (ha : lex a = (ts, p, e)) (he : e ≠ 0) (hl : a.length + 1 + b.length ≤ 65536) :
    lex (a ++ 10 :: b) = ([], p, 3) := by
  obtain ⟨_, _, h2⟩ := lex_error ha he (by omega)
  obtain ⟨ws, r, hq, hr1, hr2⟩ := error_run h2
  have ht := (hq.ext b hr1).lex_ok
  rw [lexFrom_bad _ _ (by simp) (first_bad_ext r b hr1 hr2)] at ht
  refine lex_of_error (by simp; omega) ?_
  rw [ht]
  rfl
end Go.Proofs.YtkeehpgnljieeaaDoor.PL
/- Of two binary operators the one with the higher level binds more tightly: the parser's plain functions at all pairs of operators. -/
namespace Go.Proofs.YtkeehpgnljieeaaDoor.PP
open PL

def envL (l : List UInt8) : Env := ⟨(lex l).1.filter solidT, l.length⟩
def sigT (l : List UInt8) : St := ⟨0, (lex l).2.1, (lex l).2.2⟩
def lvText (i j : Nat) : List UInt8 := [120, 32] ++ symbol (i + 6) ++ [32, 45, 121, 32] ++ symbol (j + 6) ++ [32, 122]
def kindOf : Tree → Nat
  | .node k _ _ _ => k
def kidsOf : Tree → List Tree
  | .node _ _ _ ks => ks
/-- The shape of the tree. -/
def lvShape (i j : Nat) (t : Tree) : Bool :=
  if level (j + 6) > level (i + 6) then
    kindOf t == i + 6 && (kidsOf t).length == 2 && kindOf ((kidsOf t).getD 1 t) == j + 6 && (kidsOf ((kidsOf t).getD 1 t)).length == 2 && kindOf ((kidsOf ((kidsOf t).getD 1 t)).getD 0 t) == 4
  else
    kindOf t == j + 6 && (kidsOf t).length == 2 && kindOf ((kidsOf t).getD 0 t) == i + 6 && (kidsOf ((kidsOf t).getD 0 t)).length == 2 && kindOf ((kidsOf ((kidsOf t).getD 0 t)).getD 1 t) == 4
def lvOk (i j : Nat) : Bool := match exprP (envL (lvText i j)) 40 (sigT (lvText i j)) with
  | some (σ, t) => σ.err == 0 && lvShape i j t
  | none => false
theorem lv_all : ∀ i, i < 18 → ∀ j, j < 18 → lvOk i j = true := by decide +kernel
theorem two_of {l : List Tree} (h : l.length = 2) : ∃ x y, l = [x, y] := by
  match l, h with
  | [x, y], _ => exact ⟨x, y, rfl⟩
theorem lv_expr {i j : Nat} (hi : i < 18) (hj : j < 18) : ∃ σ t, exprP (envL (lvText i j)) 40 (sigT (lvText i j)) = some (σ, t) ∧ σ.err = 0 ∧
    (level (i + 6) < level (j + 6) → ∃ n m x k2 n2 m2 x3 ks v, t = .node (i + 6) n m [x, .node (j + 6) n2 m2 [.node 4 k2 x3 ks, v]]) ∧
    (¬ level (i + 6) < level (j + 6) → ∃ n m x k2 n2 m2 x3 ks v, t = .node (j + 6) n m [.node (i + 6) n2 m2 [v, .node 4 k2 x3 ks], x]) := by
  have h := lv_all i hi j hj
  unfold lvOk at h
  split at h
  · rename_i σ t he
    simp only [Bool.and_eq_true, beq_iff_eq] at h
    refine ⟨σ, t, he, h.1, fun hl => ?_, fun hl => ?_⟩
    · have h2 := h.2
      unfold lvShape at h2
      rw [if_pos hl] at h2
      simp only [Bool.and_eq_true, beq_iff_eq] at h2
      obtain ⟨⟨⟨⟨a1, a2⟩, a3⟩, a4⟩, a5⟩ := h2
      obtain ⟨k, n, m, ks⟩ := t
      obtain ⟨x, y, e1⟩ := two_of a2
      simp only [kindOf, kidsOf] at a1 e1
      subst a1 e1
      obtain ⟨k1, n1, m1, ks1⟩ := y
      simp only [kidsOf, List.getD_cons_succ, List.getD_cons_zero, kindOf] at a3 a4 a5
      obtain ⟨u, v, e2⟩ := two_of a4
      subst a3 e2
      obtain ⟨k2, n2, m2, ks2⟩ := u
      simp only [List.getD_cons_zero] at a5
      subst a5
      exact ⟨n, m, x, n2, n1, m1, m2, ks2, v, rfl⟩
    · have h2 := h.2
      unfold lvShape at h2
      rw [if_neg hl] at h2
      simp only [Bool.and_eq_true, beq_iff_eq] at h2
      obtain ⟨⟨⟨⟨a1, a2⟩, a3⟩, a4⟩, a5⟩ := h2
      obtain ⟨k, n, m, ks⟩ := t
      obtain ⟨x, y, e1⟩ := two_of a2
      simp only [kindOf, kidsOf] at a1 e1
      subst a1 e1
      obtain ⟨k1, n1, m1, ks1⟩ := x
      simp only [kidsOf, List.getD_cons_zero, kindOf] at a3 a4 a5
      obtain ⟨u, v, e2⟩ := two_of a4
      subst a3 e2
      obtain ⟨k2, n2, m2, ks2⟩ := v
      simp only [List.getD_cons_succ, List.getD_cons_zero] at a5
      subst a5
      exact ⟨n, m, y, n2, n1, m1, m2, ks2, u, rfl⟩
  · cases h
end Go.Proofs.YtkeehpgnljieeaaDoor.PP
/- An expression is read alike wherever its tokens stand, if a closing parenthesis or the end follows. -/
namespace Go.Proofs.YtkeehpgnljieeaaDoor.PP
open PL

structure Sim (E1 E2 : Env) (d : Nat) : Prop where
  tok : ∀ (i : Nat) t, E1.ts[i]? = some t → ∃ p, E2.ts[i + d]? = some ⟨t.kind, t.text, p⟩
  fin : E2.ts[E1.ts.length + d]? = none ∨ ∃ p, E2.ts[E1.ts.length + d]? = some ⟨3, [41], p⟩
def sh (d : Nat) (σ : St) : St := ⟨σ.next + d, σ.off, σ.err⟩
theorem more_iff (E : Env) (σ : St) : more E σ = true ↔ σ.err = 0 ∧ σ.next < E.ts.length := by simp [more]
theorem cur_of {E : Env} {σ : St} {t : Tok} (h : E.ts[σ.next]? = some t) : cur E σ = t := by
  unfold cur; rw [List.getD_eq_getElem?_getD, h]; rfl
section
variable {E1 E2 : Env} {d : Nat} (S : Sim E1 E2 d)
include S
theorem sim_more {σ : St} (h : more E1 σ = true) : more E2 (sh d σ) = true ∧ (cur E2 (sh d σ)).kind = (cur E1 σ).kind ∧ (cur E2 (sh d σ)).text = (cur E1 σ).text := by
  obtain ⟨h1, h2⟩ := (more_iff E1 σ).1 h
  obtain ⟨p, hp⟩ := S.tok _ _ (cur_at E1 h2)
  have hlt : σ.next + d < E2.ts.length := (List.getElem?_eq_some_iff.1 hp).1
  have hc : cur E2 (sh d σ) = ⟨(cur E1 σ).kind, (cur E1 σ).text, p⟩ := cur_of hp
  exact ⟨(more_iff E2 _).2 ⟨h1, hlt⟩, by rw [hc], by rw [hc]⟩
theorem sim_end {σ : St} (he : σ.err = 0) (hn : σ.next ≤ E1.ts.length) (h : more E1 σ = false) : more E2 (sh d σ) = false ∨ (more E2 (sh d σ) = true ∧ (cur E2 (sh d σ)).kind = 3 ∧ (cur E2 (sh d σ)).text = [41]) := by
  have hl : σ.next = E1.ts.length := by
    rcases Nat.lt_or_ge σ.next E1.ts.length with h1 | h1
    · rw [(more_iff E1 σ).2 ⟨he, h1⟩] at h; cases h
    · omega
  rcases S.fin with h1 | ⟨p, h1⟩
  · left
    have h2 : E2.ts.length ≤ E1.ts.length + d := List.getElem?_eq_none_iff.1 h1
    rcases more_cases E2 (sh d σ) with ⟨_, _, h3⟩ | ⟨h3, _⟩ | ⟨h3, _, _⟩
    · simp only [sh] at h3; omega
    · exact h3
    · exact h3
  · right
    have h2 : E2.ts[(sh d σ).next]? = some ⟨3, [41], p⟩ := by simp only [sh]; rw [hl]; exact h1
    have hc : cur E2 (sh d σ) = ⟨3, [41], p⟩ := cur_of h2
    exact ⟨(more_iff E2 _).2 ⟨he, (List.getElem?_eq_some_iff.1 h2).1⟩, by rw [hc], by rw [hc]⟩
theorem sim_sees {σ : St} (he : σ.err = 0) (hn : σ.next ≤ E1.ts.length) {x : List UInt8} (hx : x ≠ [41]) : sees E2 (sh d σ) x = sees E1 σ x := by
  cases hm : more E1 σ with
  | true =>
    obtain ⟨h1, _, h3⟩ := sim_more S hm
    unfold sees; rw [h1, hm, h3]
  | false =>
    unfold sees
    rw [hm]
    rcases sim_end S he hn hm with h1 | ⟨h1, _, h3⟩
    · rw [h1]; rfl
    · rw [h1, h3]
      simp only [Bool.true_and, Bool.false_and, beq_eq_false_iff_ne]
      exact fun e => hx e.symm
theorem sim_req {σ : St} {x : List UInt8} (h : (require E1 σ x).err = 0) : require E2 (sh d σ) x = sh d (require E1 σ x) ∧ (require E1 σ x).next ≤ E1.ts.length := by
  cases hs : sees E1 σ x with
  | false => unfold require at h; rw [hs] at h; exact absurd h (reject_err E1 σ)
  | true =>
    have hm : more E1 σ = true := by
      rcases sees_err E1 hs with ⟨h1, h2⟩
      exact (more_iff E1 σ).2 ⟨h1, h2⟩
    have h2 : sees E2 (sh d σ) x = true := by
      obtain ⟨h1, _, h3⟩ := sim_more S hm
      unfold sees at hs ⊢
      rw [hm] at hs
      rw [h1, h3]; exact hs
    unfold require
    rw [hs, h2]
    refine ⟨by simp [adv, sh]; omega, ?_⟩
    have := (sees_err E1 hs).2
    simp only [if_true, adv]; omega
theorem sim_name {σ : St} (h : (nameP E1 σ).1.err = 0) : nameP E2 (sh d σ) = (sh d (nameP E1 σ).1, (nameP E1 σ).2) ∧ (nameP E1 σ).1.next ≤ E1.ts.length := by
  cases hs : (more E1 σ && isName (cur E1 σ).text) with
  | false => unfold nameP at h; rw [hs] at h; exact absurd h (reject_err E1 σ)
  | true =>
    have hm : more E1 σ = true := by simp at hs; exact hs.1
    obtain ⟨h1, _, h3⟩ := sim_more S hm
    have h2 : (more E2 (sh d σ) && isName (cur E2 (sh d σ)).text) = true := by rw [h1, h3]; rw [hm] at hs; exact hs
    unfold nameP
    rw [hs, h2]
    refine ⟨by simp only [if_true, h3]; simp [adv, sh]; omega, ?_⟩
    have := ((more_iff E1 σ).1 hm).2
    simp only [if_true, adv]; omega
theorem sim_num {σ : St} {lo hi : Int} (h : (numP E1 σ lo hi).1.err = 0) : numP E2 (sh d σ) lo hi = (sh d (numP E1 σ lo hi).1, (numP E1 σ lo hi).2) ∧ (numP E1 σ lo hi).1.next ≤ E1.ts.length := by
  cases hs : (more E1 σ && decide ((cur E1 σ).kind = 2)) with
  | false => unfold numP at h; rw [hs] at h; exact absurd h (reject_err E1 σ)
  | true =>
    have hm : more E1 σ = true := by simp at hs; exact hs.1
    obtain ⟨h1, h4, h3⟩ := sim_more S hm
    have h2 : (more E2 (sh d σ) && decide ((cur E2 (sh d σ)).kind = 2)) = true := by rw [h1, h4]; rw [hm] at hs; exact hs
    unfold numP at h ⊢
    rw [hs] at h
    rw [hs, h2, h3]
    simp only [if_true] at h ⊢
    split
    · rename_i c; rw [if_pos c] at h; exact absurd h (fail_err (by decide))
    · refine ⟨by simp [adv, sh]; omega, ?_⟩
      have := ((more_iff E1 σ).1 hm).2
      simp only [adv]; omega
theorem sim_expr : ∀ (n : Nat), (∀ σ r, unary E1 n σ = some r → r.1.err = 0 → σ.next ≤ E1.ts.length → unary E2 n (sh d σ) = some (sh d r.1, r.2) ∧ r.1.next ≤ E1.ts.length) ∧
    (∀ σ r, primary E1 n σ = some r → r.1.err = 0 → σ.next ≤ E1.ts.length → primary E2 n (sh d σ) = some (sh d r.1, r.2) ∧ r.1.next ≤ E1.ts.length) ∧
    (∀ σ r, place E1 n σ = some r → r.1.err = 0 → σ.next ≤ E1.ts.length → place E2 n (sh d σ) = some (sh d r.1, r.2) ∧ r.1.next ≤ E1.ts.length) ∧
    (∀ l σ r, binary E1 n l σ = some r → r.1.err = 0 → σ.next ≤ E1.ts.length → binary E2 n l (sh d σ) = some (sh d r.1, r.2) ∧ r.1.next ≤ E1.ts.length) ∧
    (∀ l σ t r, binLoop E1 n l σ t = some r → r.1.err = 0 → σ.next ≤ E1.ts.length → binLoop E2 n l (sh d σ) t = some (sh d r.1, r.2) ∧ r.1.next ≤ E1.ts.length)
  | 0 => ⟨fun _ _ h => by simp [unary] at h, fun _ _ h => by simp [primary] at h, fun _ _ h => by simp [place] at h, fun _ _ _ h => by simp [binary] at h, fun _ _ _ _ h => by simp [binLoop] at h⟩
  | n + 1 => by
    obtain ⟨hu, hp, hpl, hb, hl⟩ := sim_expr n
    have hadv : ∀ σ : St, sh d (adv σ) = adv (sh d σ) := fun σ => by simp [sh, adv]; omega
    refine ⟨fun σ r h he hn => ?_, fun σ r h he hn => ?_, fun σ r h he hn => ?_, fun l σ r h he hn => ?_, fun l σ t r h he hn => ?_⟩
    · have h0 := ok_back ((expr_le E1 (n + 1)).1 _ _ h) he
      rw [unary] at h ⊢
      rw [sim_sees S h0 hn (by decide), sim_sees S h0 hn (by decide)]
      split at h
      · rename_i c; rw [if_pos c]
        obtain ⟨x, hx, rfl⟩ := Option.map_eq_some_iff.1 h
        have hb := (sees_err E1 c).2
        obtain ⟨k1, k2⟩ := hu _ _ hx he (by simp only [adv]; omega)
        rw [← hadv, k1]; exact ⟨rfl, k2⟩
      · rename_i c; rw [if_neg c]
        split at h
        · rename_i c; rw [if_pos c]
          obtain ⟨x, hx, rfl⟩ := Option.map_eq_some_iff.1 h
          have hb := (sees_err E1 c).2
          obtain ⟨k1, k2⟩ := hu _ _ hx he (by simp only [adv]; omega)
          rw [← hadv, k1]; exact ⟨rfl, k2⟩
        · rename_i c; rw [if_neg c]; exact hp _ _ h he hn
    · have h0 := ok_back ((expr_le E1 (n + 1)).2.1 _ _ h) he
      rw [primary] at h ⊢
      rw [sim_sees S h0 hn (by decide)]
      split at h
      · rename_i c; rw [if_pos c]
        obtain ⟨x, hx, rfl⟩ := Option.map_eq_some_iff.1 h
        have hbn := (sees_err E1 c).2
        obtain ⟨k1, k2⟩ := hb _ _ _ hx (ok_back (le_require E1 x.1 [41]) he) (by simp only [adv]; omega)
        obtain ⟨k3, k4⟩ := sim_req S (σ := x.1) (x := [41]) he
        rw [← hadv, k1]
        simp only [Option.map_some]
        exact ⟨by rw [k3], k4⟩
      · rename_i c; rw [if_neg c]
        split at h
        · rename_i c2
          injection h with h; subst h
          have hm : more E1 σ = true := by simp at c2; exact c2.1
          obtain ⟨h1, h4, _⟩ := sim_more S hm
          rw [h1, h4]
          rw [hm] at c2
          rw [if_pos c2]
          obtain ⟨k1, k2⟩ := sim_num S he
          exact ⟨by rw [k1], k2⟩
        · rename_i c2
          have hc2 : (more E2 (sh d σ) && decide ((cur E2 (sh d σ)).kind = 2)) = false := by
            cases hm : more E1 σ with
            | true =>
              obtain ⟨h1, h4, _⟩ := sim_more S hm
              rw [h1, h4]; rw [hm] at c2; simpa using c2
            | false =>
              rcases sim_end S h0 hn hm with h1 | ⟨h1, h4, _⟩
              · rw [h1]; rfl
              · rw [h1, h4]; rfl
          rw [hc2]
          simp only [Bool.false_eq_true, if_false]
          exact hpl _ _ h he hn
    · rw [place] at h ⊢
      split at h
      · rename_i c
        obtain ⟨x, hx, rfl⟩ := Option.map_eq_some_iff.1 h
        have e1 := ok_back (le_require E1 x.1 [93]) he
        have e2 := (sees_err E1 c).1
        obtain ⟨k1, k2⟩ := sim_name S e2
        have hbn := (sees_err E1 c).2
        rw [k1]
        simp only []
        rw [sim_sees S e2 k2 (by decide), if_pos c]
        obtain ⟨k3, k4⟩ := hb _ _ _ hx e1 (by simp only [adv]; omega)
        obtain ⟨k5, k6⟩ := sim_req S (σ := x.1) (x := [93]) he
        rw [← hadv, k3]
        simp only [Option.map_some]
        exact ⟨by rw [k5], k6⟩
      · rename_i c
        injection h with h; subst h
        obtain ⟨k1, k2⟩ := sim_name S he
        rw [k1]
        simp only []
        rw [sim_sees S he k2 (by decide), if_neg c]
        exact ⟨rfl, k2⟩
    · rw [binary] at h ⊢
      obtain ⟨x, hx, hr⟩ := Option.bind_eq_some_iff.1 h
      obtain ⟨k1, k2⟩ := hu _ _ hx (ok_back ((expr_le E1 n).2.2.2.2 _ _ _ _ hr) he) hn
      rw [k1]
      exact hl _ _ _ _ hr he k2
    · have h0 := ok_back ((expr_le E1 (n + 1)).2.2.2.2 _ _ _ _ h) he
      rw [binLoop] at h ⊢
      cases hm : more E1 σ with
      | true =>
        obtain ⟨h1, _, h3⟩ := sim_more S hm
        rw [hm] at h
        rw [h1, h3]
        simp only [if_true] at h ⊢
        split at h
        · rename_i op ho
          split at h
          · rename_i c
            injection h with h; subst h
            simp only [if_pos c]
            exact ⟨trivial, hn⟩
          · rename_i c
            simp only [if_neg c]
            obtain ⟨x, hx, hr⟩ := Option.bind_eq_some_iff.1 h
            obtain ⟨k1, k2⟩ := hb _ _ _ hx (ok_back ((expr_le E1 n).2.2.2.2 _ _ _ _ hr) he) (by have := ((more_iff E1 σ).1 hm).2; simp only [adv]; omega)
            rw [← hadv, k1]
            exact hl _ _ _ _ hr he k2
        · injection h with h; subst h
          exact ⟨rfl, hn⟩
      | false =>
        rw [hm] at h
        simp only [Bool.false_eq_true, if_false] at h
        injection h with h; subst h
        rcases sim_end S h0 hn hm with h1 | ⟨h1, _, h3⟩
        · rw [h1]; exact ⟨rfl, hn⟩
        · rw [h1, h3, show opOf [41] = none from rfl]
          exact ⟨rfl, hn⟩
end
end Go.Proofs.YtkeehpgnljieeaaDoor.PP
/- Parentheses around an expression do not change it, and unbalanced ones are errors: the parser's plain functions. -/
namespace Go.Proofs.YtkeehpgnljieeaaDoor.PP
open PL

def marks (c : UInt8) (p m : Nat) : List Tok := (List.range m).map fun i => ⟨3, [c], p + i⟩
theorem marks_len (c : UInt8) (p m : Nat) : (marks c p m).length = m := by simp [marks]
theorem marks_succ (c : UInt8) (p m : Nat) : marks c p (m + 1) = ⟨3, [c], p⟩ :: marks c (p + 1) m := by
  simp only [marks, List.range_succ_eq_map, List.map_cons, List.map_map, Nat.add_zero]
  congr 1
  apply List.map_congr_left
  intro i _
  simp; omega
theorem marks_at (c : UInt8) (p m i : Nat) (h : i < m) : (marks c p m)[i]? = some ⟨3, [c], p + i⟩ := by simp [marks, h]
theorem marks_solid (c : UInt8) (p m : Nat) : (marks c p m).filter solidT = marks c p m := by
  rw [List.filter_eq_self]
  intro t ht
  simp only [marks, List.mem_map] at ht
  obtain ⟨i, _, rfl⟩ := ht
  rfl
theorem marks_shift (c : UInt8) (p m d : Nat) : (marks c p m).map (shift d) = marks c (p + d) m := by
  simp only [marks, List.map_map]
  apply List.map_congr_left
  intro i _
  simp [shift]; omega
theorem run_opens (c : UInt8) (hc : ∀ l, first (c :: l) = (3, 1)) : ∀ (m pos : Nat) (l : List UInt8), Run pos (List.replicate m c ++ l) (marks c pos m) (pos + m) l
  | 0, pos, l => by simp [marks]; exact .stop _ _
  | m + 1, pos, l => by
    rw [List.replicate_succ, List.cons_append, marks_succ]
    have h1 := run_opens c hc m (pos + 1) l
    have h2 : (first (c :: (List.replicate m c ++ l))).2 ≠ 0 := by rw [hc]; decide
    have h3 : Run (pos + (first (c :: (List.replicate m c ++ l))).2) ((c :: (List.replicate m c ++ l)).drop (first (c :: (List.replicate m c ++ l))).2) (marks c (pos + 1) m) (pos + (m + 1)) l := by
      rw [hc]; rw [show pos + (m + 1) = pos + 1 + m from by omega]; exact h1
    have h4 := Run.step h2 h3
    rw [hc] at h4
    exact h4
def parText (m m' : Nat) (s : List UInt8) : List UInt8 := List.replicate m 40 ++ s ++ 10 :: List.replicate m' 41
theorem parens_lex {s : List UInt8} {ts : List Tok} {x : Nat} (h : lex s = (ts, x, 0)) (m m' : Nat) (hl : m + s.length + 1 + m' ≤ 65536) :
    envL (parText m m' s) = ⟨marks 40 0 m ++ (ts.filter solidT).map (shift m) ++ marks 41 (m + s.length + 1) m', m + s.length + 1 + m'⟩ ∧ sigT (parText m m' s) = ⟨0, 0, 0⟩ := by
  obtain ⟨_, h1, _⟩ := lex_ok h rfl
  obtain ⟨p, hp⟩ := run_of_ok h1
  have ha : lex (List.replicate m 40 ++ s) = (marks 40 0 m ++ ts.map (shift m), 0, 0) := by
    apply lex_of_ok
    · simp; omega
    have r1 := run_opens 40 (fun _ => rfl) m 0 s
    have r2 := hp.shift m
    rw [Nat.zero_add] at r1 r2
    exact (r1.trans r2).ok
  have hb : lex (List.replicate m' 41) = (marks 41 0 m', 0, 0) := by
    apply lex_of_ok
    · simp; omega
    have r1 := run_opens 41 (fun _ => rfl) m' 0 []
    rw [List.append_nil] at r1
    exact r1.ok
  obtain ⟨vs, hv1, hv2⟩ := lines_ok ha hb (by simp; omega)
  have hv1' : lex (parText m m' s) = (vs, 0, 0) := hv1
  refine ⟨?_, by unfold sigT; rw [hv1']⟩
  unfold envL
  rw [hv1']
  simp only
  rw [hv2, List.filter_append, marks_solid, filter_shift, marks_solid, marks_shift]
  congr 1
  · simp only [List.length_append, List.length_replicate, Nat.zero_add]
  · unfold parText; simp only [List.length_append, List.length_cons, List.length_replicate]; omega

section
variable {E1 E2 : Env} {T : List Tok} {m m' p L : Nat}
theorem par_at1 (h2 : E2.ts = marks 40 0 m ++ T.map (shift m) ++ marks 41 p m') {i : Nat} (hi : i < m) : E2.ts[i]? = some ⟨3, [40], i⟩ := by
  rw [h2, List.getElem?_append_left (by simp only [List.length_append, marks_len]; omega), List.getElem?_append_left (by rw [marks_len]; exact hi), marks_at _ _ _ _ hi, Nat.zero_add]
theorem par_at2 (h2 : E2.ts = marks 40 0 m ++ T.map (shift m) ++ marks 41 p m') {i : Nat} (hi : i < m') : E2.ts[m + T.length + i]? = some ⟨3, [41], p + i⟩ := by
  rw [h2, List.getElem?_append_right (by simp only [List.length_append, List.length_map, marks_len]; omega)]
  rw [show m + T.length + i - (marks 40 0 m ++ T.map (shift m)).length = i from by simp only [List.length_append, List.length_map, marks_len]; omega]
  exact marks_at _ _ _ _ hi
theorem par_len (h2 : E2.ts = marks 40 0 m ++ T.map (shift m) ++ marks 41 p m') : E2.ts.length = m + T.length + m' := by rw [h2]; simp only [List.length_append, List.length_map, marks_len]
theorem par_sim (h1 : E1.ts = T) (h2 : E2.ts = marks 40 0 m ++ T.map (shift m) ++ marks 41 p m') : Sim E1 E2 m := by
  constructor
  · intro i t hi
    rw [h1] at hi
    have hlt : i < T.length := (List.getElem?_eq_some_iff.1 hi).1
    refine ⟨t.pos + m, ?_⟩
    rw [h2, List.getElem?_append_left (by simp only [List.length_append, List.length_map, marks_len]; omega), List.getElem?_append_right (by rw [marks_len]; omega), marks_len, show i + m - m = i from by omega, List.getElem?_map, hi]
    rfl
  · rw [h1]
    by_cases hm : 0 < m'
    · right
      have := par_at2 h2 hm
      exact ⟨p + 0, by rw [← this]; congr 1; omega⟩
    · left
      rw [List.getElem?_eq_none_iff, par_len h2]; omega
theorem sees_at {E : Env} {σ : St} {t : Tok} (he : σ.err = 0) (h : E.ts[σ.next]? = some t) (x : List UInt8) : sees E σ x = (t.text == x) := by
  unfold sees
  rw [cur_of h, (more_iff E σ).2 ⟨he, (List.getElem?_eq_some_iff.1 h).1⟩]; rfl
/-- Behind an expression: a closing parenthesis or the end. -/
theorem stops {E : Env} {σ : St} {n : Nat} {t : Tree} (h : E.ts[σ.next]? = none ∨ σ.err ≠ 0 ∨ ∃ q, E.ts[σ.next]? = some ⟨3, [41], q⟩) : binLoop E (n + 1) 0 σ t = some (σ, t) := by
  rw [binLoop]
  rcases h with h | h | ⟨q, h⟩
  · have : more E σ = false := by
      have := List.getElem?_eq_none_iff.1 h
      rcases more_cases E σ with ⟨_, _, h3⟩ | ⟨h3, _⟩ | ⟨h3, _, _⟩
      · omega
      · exact h3
      · exact h3
    rw [this]; rfl
  · have : more E σ = false := by
      rcases more_cases E σ with ⟨_, h3, _⟩ | ⟨h3, _⟩ | ⟨h3, _, _⟩
      · exact absurd h3 h
      · exact h3
      · exact h3
    rw [this]; rfl
  · rw [cur_of h]
    split
    · rw [show opOf [41] = none from rfl]
    · rfl
theorem open_step {n : Nat} {i : Nat} {r : St × Tree} (hi : E2.ts[i]? = some ⟨3, [40], i⟩) (hb : binary E2 n 0 ⟨i + 1, 0, 0⟩ = some r) : unary E2 (n + 2) ⟨i, 0, 0⟩ = some (require E2 r.1 [41], r.2) := by
  have s1 := fun x => sees_at (E := E2) (σ := ⟨i, 0, 0⟩) rfl hi x
  rw [unary, s1, s1]
  simp only [show (([40] : List UInt8) == [45]) = false from rfl, show (([40] : List UInt8) == [33]) = false from rfl, Bool.false_eq_true, if_false]
  rw [primary, s1]
  simp only [show (([40] : List UInt8) == [40]) = true from rfl, if_true]
  rw [show adv ⟨i, 0, 0⟩ = ⟨i + 1, 0, 0⟩ from rfl, hb]; rfl
theorem nest_parse {n : Nat} {t : Tree} (h1 : E1.ts = T) (h2 : E2.ts = marks 40 0 m ++ T.map (shift m) ++ marks 41 p m') (hb : binary E1 n 0 ⟨0, 0, 0⟩ = some (⟨T.length, 0, 0⟩, t)) :
    ∀ j, j ≤ m → j ≤ m' → binary E2 (n + 3 * j) 0 ⟨m - j, 0, 0⟩ = some (⟨m + T.length + j, 0, 0⟩, t)
  | 0, _, _ => by
    have := ((sim_expr (par_sim h1 h2) n).2.2.2.1 0 ⟨0, 0, 0⟩ _ hb rfl (by simp)).1
    simp only [sh, Nat.zero_add] at this
    rw [show m - 0 = m from rfl, show m + T.length + 0 = T.length + m from by omega]; exact this
  | j + 1, hj, hj' => by
    have ih := nest_parse h1 h2 hb j (by omega) (by omega)
    have hi : E2.ts[m - (j + 1)]? = some ⟨3, [40], m - (j + 1)⟩ := par_at1 h2 (by omega)
    have hu := open_step (n := n + 3 * j) hi (by rw [show m - (j + 1) + 1 = m - j from by omega]; exact ih)
    have hc := par_at2 h2 (i := j) (by omega)
    have hreq : require E2 ⟨m + T.length + j, 0, 0⟩ [41] = ⟨m + T.length + (j + 1), 0, 0⟩ := by
      unfold require
      rw [sees_at (σ := ⟨m + T.length + j, 0, 0⟩) rfl hc]
      simp only [BEq.rfl, if_true]; rfl
    rw [show n + 3 * (j + 1) = (n + 3 * j + 2) + 1 from by omega, binary, hu, Option.bind_some]
    simp only [hreq]
    apply stops
    by_cases hlt : j + 1 < m'
    · right; right
      exact ⟨_, par_at2 h2 hlt⟩
    · left
      rw [List.getElem?_eq_none_iff, par_len h2]; simp only; omega
end
theorem limitP_ok {t : Tree} {o : Nat} {σ : St} (h : (limitP t o σ).err = 0) : σ.err = 0 ∧ large t = false ∧ limitP t o σ = σ := by
  unfold limitP at h ⊢
  by_cases he : σ.err = 0
  · rw [if_pos he] at h ⊢
    cases hl : large t with
    | false => exact ⟨he, rfl, by simp⟩
    | true => rw [hl] at h; exact absurd h (fail_err (by decide))
  · rw [if_neg he] at h; exact absurd h he
section
variable (E : Env)
theorem off_require {σ : St} {t : List UInt8} (h : (require E σ t).err = 0) : (require E σ t).off = σ.off := by
  unfold require at h ⊢
  split
  · rfl
  · rename_i c; rw [if_neg c] at h; exact absurd h (reject_err E σ)
theorem off_name {σ : St} (h : (nameP E σ).1.err = 0) : (nameP E σ).1.off = σ.off := by
  unfold nameP at h ⊢
  split
  · rfl
  · rename_i c; rw [if_neg c] at h; exact absurd h (reject_err E σ)
theorem off_num {σ : St} {lo hi : Int} (h : (numP E σ lo hi).1.err = 0) : (numP E σ lo hi).1.off = σ.off := by
  unfold numP at h ⊢
  split
  · rename_i c
    rw [if_pos c] at h
    dsimp only at h ⊢
    split
    · rename_i d; rw [if_pos d] at h; exact absurd h (fail_err (by decide))
    · rfl
  · rename_i c
    rw [if_neg c] at h
    exact absurd h (reject_err E σ)
theorem expr_off : ∀ (n : Nat), (∀ σ r, unary E n σ = some r → r.1.err = 0 → r.1.off = σ.off) ∧ (∀ σ r, primary E n σ = some r → r.1.err = 0 → r.1.off = σ.off) ∧ (∀ σ r, place E n σ = some r → r.1.err = 0 → r.1.off = σ.off) ∧
    (∀ l σ r, binary E n l σ = some r → r.1.err = 0 → r.1.off = σ.off) ∧ (∀ l σ t r, binLoop E n l σ t = some r → r.1.err = 0 → r.1.off = σ.off)
  | 0 => ⟨fun _ _ h => by simp [unary] at h, fun _ _ h => by simp [primary] at h, fun _ _ h => by simp [place] at h, fun _ _ _ h => by simp [binary] at h, fun _ _ _ _ h => by simp [binLoop] at h⟩
  | n + 1 => by
    obtain ⟨hu, hp, hpl, hb, hl⟩ := expr_off n
    refine ⟨fun σ r h he => ?_, fun σ r h he => ?_, fun σ r h he => ?_, fun l σ r h he => ?_, fun l σ t r h he => ?_⟩
    · rw [unary] at h
      split at h
      · obtain ⟨x, hx, rfl⟩ := Option.map_eq_some_iff.1 h
        have h1 := hu _ x hx he; exact h1
      · split at h
        · obtain ⟨x, hx, rfl⟩ := Option.map_eq_some_iff.1 h
          have h1 := hu _ x hx he; exact h1
        · exact hp _ _ h he
    · rw [primary] at h
      split at h
      · obtain ⟨x, hx, rfl⟩ := Option.map_eq_some_iff.1 h
        have h1 := hb _ _ x hx (ok_back (le_require E x.1 [41]) he); exact (off_require E he).trans h1
      · split at h
        · injection h with h; subst h; exact off_num E he
        · exact hpl _ _ h he
    · rw [place] at h
      split at h
      · rename_i c
        obtain ⟨x, hx, rfl⟩ := Option.map_eq_some_iff.1 h
        have h1 := hb _ _ x hx (ok_back (le_require E x.1 [93]) he)
        exact (off_require E he).trans (Eq.trans h1 (off_name E (sees_err E c).1))
      · injection h with h; subst h; exact off_name E he
    · rw [binary] at h
      obtain ⟨x, hx, hr⟩ := Option.bind_eq_some_iff.1 h
      exact (hl _ _ _ _ hr he).trans (hu _ x hx (ok_back ((expr_le E n).2.2.2.2 _ _ _ _ hr) he))
    · rw [binLoop] at h
      split at h
      · split at h
        · split at h
          · injection h with h; subst h; rfl
          · obtain ⟨x, hx, hr⟩ := Option.bind_eq_some_iff.1 h
            have h1 := hb _ _ x hx (ok_back ((expr_le E n).2.2.2.2 _ _ _ _ hr) he); exact (hl _ _ _ _ hr he).trans h1
        · injection h with h; subst h; rfl
      · injection h with h; subst h; rfl
end
/-- What a correct expression has. -/
theorem expr_ok {l : List UInt8} {n : Nat} {q : St × Tree} (h : exprP (envL l) n (sigT l) = some q) (he : q.1.err = 0) : ∃ ts, lex l = (ts, 0, 0) ∧ binary (envL l) n 0 ⟨0, 0, 0⟩ = some (⟨(ts.filter solidT).length, 0, 0⟩, q.2) ∧ large q.2 = false := by
  unfold exprP at h
  obtain ⟨r, hr, rfl⟩ := Option.map_eq_some_iff.1 h
  obtain ⟨e1, hlg, _⟩ := limitP_ok he
  have hm : more (envL l) r.1 = false := by
    cases hm : more (envL l) r.1 with
    | false => rfl
    | true => rw [hm] at e1; exact absurd e1 (reject_err _ _)
  rw [hm] at e1
  simp only [Bool.false_eq_true, if_false] at e1
  have e0 := ok_back ((expr_le _ n).2.2.2.1 _ _ _ hr) e1
  generalize hX : lex l = X at *
  obtain ⟨ts, x, e⟩ := X
  have he0 : e = 0 := by unfold sigT at e0; rw [hX] at e0; exact e0
  subst he0
  obtain ⟨_, _, rfl⟩ := lex_ok hX rfl
  have hsig : sigT l = ⟨0, 0, 0⟩ := by unfold sigT; rw [hX]
  have hts : (envL l).ts = ts.filter solidT := by unfold envL; rw [hX]
  have hself : Sim (envL l) (envL l) 0 := ⟨fun i t h => ⟨t.pos, by rw [Nat.add_zero]; exact h⟩, .inl (by rw [Nat.add_zero, List.getElem?_eq_none_iff]; exact Nat.le_refl _)⟩
  have hbd := ((sim_expr hself n).2.2.2.1 0 _ _ hr e1 (by rw [hsig]; simp)).2
  have hle := (expr_le _ n).2.2.2.1 _ _ _ hr
  have hoff : r.1.off = 0 := ((expr_off _ n).2.2.2.1 _ _ _ hr e1).trans (by rw [hsig])
  refine ⟨ts, rfl, ?_, ?_⟩
  · rw [hsig] at hr
    rw [hr]
    have hnx : r.1.next = (ts.filter solidT).length := by
      rw [← hts]
      rcases Nat.lt_or_ge r.1.next (envL l).ts.length with h1 | h1
      · rw [(more_iff _ _).2 ⟨e1, h1⟩] at hm; cases hm
      · omega
    obtain ⟨⟨a, b, c⟩, t⟩ := r
    simp only at hnx hoff e1
    subst hnx hoff e1
    rfl
  · exact hlg
theorem parText_succ (k : Nat) (l : List UInt8) : parText (k + 1) (k + 1) l = 40 :: parText k k l ++ [41] := by
  unfold parText
  rw [List.replicate_succ, List.replicate_succ']
  simp
theorem parText_open (k k' : Nat) (l : List UInt8) : parText (k + 1) k' l = 40 :: parText k k' l := by
  unfold parText
  rw [List.replicate_succ]
  simp
theorem parText_shut (k k' : Nat) (l : List UInt8) : parText k (k' + 1) l = parText k k' l ++ [41] := by
  unfold parText
  rw [List.replicate_succ' (n := k')]
  simp
theorem parText_len (k k' : Nat) (l : List UInt8) : (parText k k' l).length = k + l.length + 1 + k' := by
  unfold parText
  simp only [List.length_append, List.length_cons, List.length_replicate]
  omega
theorem parens_law {l : List UInt8} {n : Nat} {q : St × Tree} (h : exprP (envL l) n (sigT l) = some q) (he : q.1.err = 0) (k : Nat) (hl : l.length + 2 * k + 3 ≤ 65536) :
    (∃ n' σ', exprP (envL (parText k k l)) n' (sigT (parText k k l)) = some (σ', q.2) ∧ σ'.err = 0) ∧
    (∃ n' r, exprP (envL (parText (k + 1) k l)) n' (sigT (parText (k + 1) k l)) = some r ∧ r.1.err = 4 ∧ r.1.off = 2 * k + l.length + 2) ∧
    (∃ n' r, exprP (envL (parText k (k + 1) l)) n' (sigT (parText k (k + 1) l)) = some r ∧ r.1.err = 3 ∧ r.1.off = 2 * k + l.length + 1) := by
  obtain ⟨ts, hlx, hb, hlg⟩ := expr_ok h he
  have hts : (envL l).ts = ts.filter solidT := by unfold envL; rw [hlx]
  refine ⟨?_, ?_, ?_⟩
  · obtain ⟨e1, e2⟩ := parens_lex hlx k k (by omega)
    rw [e1, e2]
    generalize hE : (⟨marks 40 0 k ++ (ts.filter solidT).map (shift k) ++ marks 41 (k + l.length + 1) k, k + l.length + 1 + k⟩ : Env) = E2
    have h2 : E2.ts = marks 40 0 k ++ (ts.filter solidT).map (shift k) ++ marks 41 (k + l.length + 1) k := by rw [← hE]
    have hp := nest_parse hts h2 hb k (Nat.le_refl _) (Nat.le_refl _)
    rw [Nat.sub_self] at hp
    have hm : more E2 ⟨k + (ts.filter solidT).length + k, 0, 0⟩ = false := by
      unfold more; rw [par_len h2]; simp
    refine ⟨n + 3 * k, ⟨k + (ts.filter solidT).length + k, 0, 0⟩, ?_, rfl⟩
    unfold exprP
    rw [hp]
    simp only [Option.map_some, hm, Bool.false_eq_true, if_false]
    unfold limitP
    rw [hlg]; rfl
  · obtain ⟨e1, e2⟩ := parens_lex hlx (k + 1) k (by omega)
    rw [e1, e2]
    generalize hE : (⟨marks 40 0 (k + 1) ++ (ts.filter solidT).map (shift (k + 1)) ++ marks 41 (k + 1 + l.length + 1) k, k + 1 + l.length + 1 + k⟩ : Env) = E2
    have h2 : E2.ts = marks 40 0 (k + 1) ++ (ts.filter solidT).map (shift (k + 1)) ++ marks 41 (k + 1 + l.length + 1) k := by rw [← hE]
    have hL : E2.L = k + 1 + l.length + 1 + k := by rw [← hE]
    have hp := nest_parse hts h2 hb k (by omega) (Nat.le_refl _)
    rw [show k + 1 - k = 0 + 1 from by omega] at hp
    have hu := open_step (par_at1 h2 (by omega)) hp
    have hreq : require E2 ⟨k + 1 + (ts.filter solidT).length + k, 0, 0⟩ [41] = ⟨k + 1 + (ts.filter solidT).length + k, E2.L, 4⟩ := by
      have hm : more E2 ⟨k + 1 + (ts.filter solidT).length + k, 0, 0⟩ = false := by unfold more; rw [par_len h2]; simp
      unfold require sees
      rw [hm]
      simp only [Bool.false_and, Bool.false_eq_true, if_false]
      unfold reject here
      rw [par_len h2]
      simp [fail]
    have hb2 : binary E2 (n + 3 * k + 3) 0 ⟨0, 0, 0⟩ = some (⟨k + 1 + (ts.filter solidT).length + k, E2.L, 4⟩, q.2) := by
      rw [binary, hu, Option.bind_some]
      simp only [hreq]
      exact stops (.inr (.inl (by simp)))
    have hm : more E2 ⟨k + 1 + (ts.filter solidT).length + k, E2.L, 4⟩ = false := by unfold more; rfl
    refine ⟨n + 3 * k + 3, (⟨k + 1 + (ts.filter solidT).length + k, E2.L, 4⟩, q.2), ?_, rfl, by simp only [hL]; omega⟩
    unfold exprP
    rw [hb2]
    simp only [Option.map_some, hm, Bool.false_eq_true, if_false]
    rfl
  · obtain ⟨e1, e2⟩ := parens_lex hlx k (k + 1) (by omega)
    rw [e1, e2]
    generalize hE : (⟨marks 40 0 k ++ (ts.filter solidT).map (shift k) ++ marks 41 (k + l.length + 1) (k + 1), k + l.length + 1 + (k + 1)⟩ : Env) = E2
    have h2 : E2.ts = marks 40 0 k ++ (ts.filter solidT).map (shift k) ++ marks 41 (k + l.length + 1) (k + 1) := by rw [← hE]
    have hp := nest_parse hts h2 hb k (Nat.le_refl _) (by omega)
    rw [Nat.sub_self] at hp
    have hat := par_at2 h2 (i := k) (by omega)
    have hm : more E2 ⟨k + (ts.filter solidT).length + k, 0, 0⟩ = true := by
      unfold more; rw [par_len h2]; simp
    have hrej : reject E2 ⟨k + (ts.filter solidT).length + k, 0, 0⟩ = ⟨k + (ts.filter solidT).length + k, k + l.length + 1 + k, 3⟩ := by
      unfold reject here
      rw [par_len h2, cur_of (σ := ⟨k + (ts.filter solidT).length + k, 0, 0⟩) hat]
      simp [fail]
    refine ⟨n + 3 * k, (⟨k + (ts.filter solidT).length + k, k + l.length + 1 + k, 3⟩, q.2), ?_, rfl, by simp only; omega⟩
    unfold exprP
    rw [hp]
    simp only [Option.map_some, hm, if_true, hrej]
    rfl
end Go.Proofs.YtkeehpgnljieeaaDoor.PP
