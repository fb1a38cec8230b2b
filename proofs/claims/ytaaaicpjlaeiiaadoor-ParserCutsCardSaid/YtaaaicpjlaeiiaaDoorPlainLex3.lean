/- Plain facts on the tokens of texts that are cut off or go on. -/
import Derived.Test.YtaaaicpjlaeiiaaDoorPlainLex2
namespace Go.Proofs.YtaaaicpjlaeiiaaDoor.PL

theorem takeWhile_cut {α : Type} (p : α → Bool) : ∀ (l : List α) (q : Nat), (l.takeWhile p).length ≤ q → (l.take q).takeWhile p = l.takeWhile p
  | [], q, _ => by simp
  | a :: l, q, h => by
    by_cases hp : p a
    · cases q with
      | zero => simp [hp] at h
      | succ q =>
        simp only [List.takeWhile_cons, hp, if_true, List.length_cons] at h
        simp [hp, takeWhile_cut p l q (by omega)]
    · cases q <;> simp [hp]
theorem count_cut (p : UInt8 → Bool) (b : UInt8) (t : List UInt8) (q : Nat) (h : count p (b :: t) ≤ q + 1) : count p (b :: t.take q) = count p (b :: t) := by
  unfold count at h ⊢
  simp only [List.tail_cons] at h ⊢
  rw [takeWhile_cut p t q (by omega)]
theorem isPrefixOf_cut {g l : List UInt8} {q : Nat} (h : g.isPrefixOf (l.take q) = true) : g.isPrefixOf l = true := by
  rw [List.isPrefixOf_iff_prefix] at h ⊢
  exact h.trans (List.take_prefix _ _)
theorem find_cut (l : List UInt8) (q : Nat) (g : List UInt8) : ∀ (S : List (List UInt8)), S.find? (fun h => h.isPrefixOf l) = some g → g.length ≤ q → S.find? (fun h => h.isPrefixOf (l.take q)) = some g
  | [], h, _ => by simp at h
  | a :: S, h, hq => by
    by_cases ha : a.isPrefixOf l = true
    · rw [List.find?_cons_of_pos (by exact ha)] at h
      injection h with h
      subst h
      rw [List.find?_cons_of_pos]
      rw [List.isPrefixOf_iff_prefix] at ha ⊢
      exact List.prefix_take_iff.2 ⟨ha, hq⟩
    · rw [List.find?_cons_of_neg (by exact ha)] at h
      rw [List.find?_cons_of_neg (by intro hc; exact ha (isPrefixOf_cut hc))]
      exact find_cut l q g S h hq
/-- A text that is cut off behind its first token begins with that token. -/
theorem first_cut (l : List UInt8) (q : Nat) (h : (first l).2 ≠ 0) (hq : (first l).2 ≤ q) : first (l.take q) = first l := by
  match l, ne_nil_of_first h with
  | b :: t, _ =>
    obtain ⟨q, rfl⟩ : ∃ q', q = q' + 1 := ⟨q - 1, by omega⟩
    rw [List.take_succ_cons]
    by_cases h1 : isLetter b = true
    · have e : first (b :: t) = (1, count isInner (b :: t)) := by simp [first, h1]
      rw [e] at hq ⊢
      simp [first, h1, count_cut isInner b t q hq]
    · by_cases h2 : isDigit b = true
      · have e : first (b :: t) = (2, count isDigit (b :: t)) := by simp [first, h1, h2]
        rw [e] at hq ⊢
        simp [first, h1, h2, count_cut isDigit b t q hq]
      · by_cases h3 : isSpace b = true
        · have e : first (b :: t) = (4, count isSpace (b :: t)) := by simp [first, h1, h2, h3]
          rw [e] at hq ⊢
          simp [first, h1, h2, h3, count_cut isSpace b t q hq]
        · by_cases h4 : (b == 35) = true
          · have e : first (b :: t) = (5, count isText (b :: t)) := by simp only [first, h1, h2, h3, h4]; simp
            rw [e] at hq ⊢
            simp only [first, h1, h2, h3, h4, count_cut isText b t q hq]; simp
          · cases hf : signs.find? (fun g => g.isPrefixOf (b :: t)) with
            | none => exact absurd (by simp only [first, h1, h2, h3, h4, hf]; simp) h
            | some g =>
              have e : first (b :: t) = (3, g.length) := by simp only [first, h1, h2, h3, h4, hf]; simp
              rw [e] at hq ⊢
              have hf' := find_cut (b :: t) (q + 1) g signs hf hq
              rw [List.take_succ_cons] at hf'
              simp only [first, h1, h2, h3, h4, hf']; simp
/-- The texts of the tokens have these tokens. -/
theorem Run.cut {pos : Nat} {l : List UInt8} {ts : List Tok} {p : Nat} {r : List UInt8} (h : Run pos l ts p r) : Run pos (ts.flatMap Tok.text) ts p [] := by
  induction h with
  | stop => exact .stop _ _
  | step h0 h ih =>
    rename_i pos l ts p r
    have hle := first_le l
    have ht := h.text.1
    have hl : ((first l).2 + (ts.flatMap Tok.text).length) ≤ l.length := by
      have := congrArg List.length ht
      simp only [List.length_drop, List.length_append] at this
      omega
    have e : (⟨(first l).1, l.take (first l).2, pos⟩ :: ts : List Tok).flatMap Tok.text = l.take ((first l).2 + (ts.flatMap Tok.text).length) := by
      rw [List.flatMap_cons, List.take_add]
      congr 1
      rw [ht]; simp
    have hf := first_cut l ((first l).2 + (ts.flatMap Tok.text).length) h0 (by omega)
    rw [e]
    have step := Run.step (pos := pos) (l := l.take ((first l).2 + (ts.flatMap Tok.text).length)) (ts := ts) (p := p) (r := []) (by rw [hf]; exact h0) (by
      rw [hf, List.drop_take]
      have e2 : (l.drop (first l).2).take ((first l).2 + (ts.flatMap Tok.text).length - (first l).2) = ts.flatMap Tok.text := by
        rw [ht, Nat.add_sub_cancel_left]; simp
      rw [e2]
      exact ih)
    rw [hf, List.take_take, Nat.min_eq_left (by omega)] at step
    exact step
/-- LexerError. -/
theorem error_law {l : List UInt8} {ts : List Tok} {p e : Nat} (he : lex l = (ts, p, e)) (h0 : e ≠ 0) (hl : l.length ≤ 65536) :
    ∃ us, lex (l.take p) = (us, 0, 0) ∧ us.flatMap Tok.text = l.take p ∧ lex (l.drop p) = ([], 0, 3) := by
  obtain ⟨_, _, h⟩ := lex_error he h0 hl
  obtain ⟨us, r, h1, h2, h3⟩ := error_run h
  obtain ⟨h4, h5⟩ := h1.text
  have e1 : l.take p = us.flatMap Tok.text := by rw [h4, h5]; simp
  have e2 : l.drop p = r := by rw [h4, h5]; simp
  refine ⟨us, ?_, e1.symm, ?_⟩
  · rw [e1]
    exact lex_of_ok (by rw [← e1]; simp; omega) h1.cut.ok
  · rw [e2]
    refine lex_of_error (by rw [← e2]; simp; omega) (lexFrom_bad 0 r h2 h3)

theorem takeWhile_ext (p : UInt8 → Bool) (x : List UInt8) : ∀ (l : List UInt8), (l.takeWhile p).length < l.length ∨ (∃ c y, x = c :: y ∧ p c = false) → (l ++ x).takeWhile p = l.takeWhile p
  | [], h => by
    rcases h with h | ⟨c, y, rfl, hc⟩
    · simp at h
    · simp [hc]
  | a :: l, h => by
    by_cases hp : p a
    · simp only [List.cons_append, List.takeWhile_cons, hp, if_true, List.cons.injEq, true_and]
      exact takeWhile_ext p x l (by simpa [hp] using h)
    · simp [hp]
theorem count_ext (p : UInt8 → Bool) (b : UInt8) (t x : List UInt8) (h : count p (b :: t) < (b :: t).length ∨ (∃ c y, x = c :: y ∧ p c = false)) : count p (b :: t ++ x) = count p (b :: t) := by
  unfold count at h ⊢
  simp only [List.tail_cons, List.cons_append, List.length_cons] at h ⊢
  rw [takeWhile_ext p x t]
  rcases h with h | h
  · exact .inl (by omega)
  · exact .inr h
theorem sign_two : ∀ g ∈ signs, g.length ≤ 2 := by decide
theorem sign_no10 : ∀ g ∈ signs, ∀ c ∈ g, c ≠ 10 := by decide
theorem isPrefixOf_ext {g l y : List UInt8} (hg : g ∈ signs) : g.isPrefixOf (l ++ 10 :: y) = g.isPrefixOf l := by
  rw [Bool.eq_iff_iff, List.isPrefixOf_iff_prefix, List.isPrefixOf_iff_prefix]
  refine ⟨fun h => ?_, fun h => h.trans (List.prefix_append _ _)⟩
  rcases Nat.lt_or_ge l.length g.length with hlt | hge
  · exfalso
    obtain ⟨z, hz⟩ := h
    have h10 := sign_no10 g hg 10
    have : (l ++ 10 :: y)[l.length]? = some 10 := by simp
    rw [← hz, List.getElem?_append_left hlt] at this
    exact h10 (List.mem_of_getElem? this) rfl
  · exact List.prefix_of_prefix_length_le h (List.prefix_append l _) hge
theorem find_ext (l y : List UInt8) : signs.find? (fun h => h.isPrefixOf (l ++ 10 :: y)) = signs.find? (fun h => h.isPrefixOf l) := by
  have : ∀ S : List (List UInt8), (∀ g ∈ S, g ∈ signs) → S.find? (fun h => h.isPrefixOf (l ++ 10 :: y)) = S.find? (fun h => h.isPrefixOf l) := by
    intro S
    induction S with
    | nil => intro _; rfl
    | cons a S ih =>
      intro hS
      have ha := isPrefixOf_ext (l := l) (y := y) (hS a (by simp))
      simp only [List.find?_cons, ha]
      rw [ih (fun g hg => hS g (by simp [hg]))]
  exact this signs (fun _ h => h)
/-- A line feed behind a text does not change its first token, unless that is a space up to the end. -/
theorem first_ext (l y : List UInt8) (hl : l ≠ []) (h : (first l).2 < l.length ∨ (first l).1 ≠ 4) : first (l ++ 10 :: y) = first l := by
  match l, hl with
  | b :: t, _ =>
    by_cases h1 : isLetter b = true
    · have e : first (b :: t) = (1, count isInner (b :: t)) := by simp [first, h1]
      have hc := count_ext isInner b t (10 :: y) (.inr ⟨10, y, rfl, by decide⟩)
      rw [e]
      rw [List.cons_append] at hc ⊢
      simp [first, h1, hc]
    · by_cases h2 : isDigit b = true
      · have e : first (b :: t) = (2, count isDigit (b :: t)) := by simp [first, h1, h2]
        have hc := count_ext isDigit b t (10 :: y) (.inr ⟨10, y, rfl, by decide⟩)
        rw [e]
        rw [List.cons_append] at hc ⊢
        simp [first, h1, h2, hc]
      · by_cases h3 : isSpace b = true
        · have e : first (b :: t) = (4, count isSpace (b :: t)) := by simp [first, h1, h2, h3]
          rw [e] at h ⊢
          have hc := count_ext isSpace b t (10 :: y) (.inl (by simpa using h))
          rw [List.cons_append] at hc ⊢
          simp [first, h1, h2, h3, hc]
        · by_cases h4 : (b == 35) = true
          · have e : first (b :: t) = (5, count isText (b :: t)) := by simp only [first, h1, h2, h3, h4]; simp
            have hc := count_ext isText b t (10 :: y) (.inr ⟨10, y, rfl, by decide⟩)
            rw [e]
            rw [List.cons_append] at hc ⊢
            simp only [first, h1, h2, h3, h4, hc]; simp
          · have hf := find_ext (b :: t) y
            rw [List.cons_append] at hf ⊢
            simp only [first, h1, h2, h3, h4, hf]; simp
theorem first_bad_ext (r y : List UInt8) (hr : r ≠ []) (h : (first r).2 = 0) : (first (r ++ 10 :: y)).2 = 0 := by
  rw [first_ext r y hr (.inl (by rw [h]; exact List.length_pos_iff.2 hr)), h]
theorem Run.ext {pos : Nat} {l : List UInt8} {ts : List Tok} {p : Nat} {r : List UInt8} (h : Run pos l ts p r) (y : List UInt8) (hr : r ≠ []) : Run pos (l ++ 10 :: y) ts p (r ++ 10 :: y) := by
  induction h with
  | stop => exact .stop _ _
  | step h0 h ih =>
    rename_i pos l ts p r
    have hle := first_le l
    have hlt : (first l).2 < l.length := by
      have := congrArg List.length h.text.1
      have h3 := List.length_pos_iff.2 hr
      simp only [List.length_drop, List.length_append] at this
      omega
    have hf := first_ext l y (ne_nil_of_first h0) (.inl hlt)
    have step := Run.step (pos := pos) (l := l ++ 10 :: y) (ts := ts) (p := p) (r := r ++ 10 :: y) (by rw [hf]; exact h0) (by
      rw [hf, List.drop_append_of_le_length hle]
      exact ih hr)
    rw [hf, List.take_append_of_le_length hle] at step
    exact step
theorem takeWhile_all {α : Type} (p : α → Bool) (l y : List α) (h : ∀ c ∈ l, p c = true) : (l ++ y).takeWhile p = l ++ y.takeWhile p := by
  induction l with
  | nil => rfl
  | cons a l ih =>
    have ha := h a (by simp)
    simp [ha, ih (fun c hc => h c (by simp [hc]))]
/-- Spaces, a line feed, and what follows. -/
theorem first_spaces (l y : List UInt8) (h : ∀ c ∈ l, isSpace c = true) : first (l ++ 10 :: y) = (4, l.length + 1 + (y.takeWhile isSpace).length) := by
  cases l with
  | nil =>
    have h1 : isLetter 10 = false := by decide
    have h2 : isDigit 10 = false := by decide
    have h3 : isSpace 10 = true := by decide
    simp [first, h1, h2, h3, count]
  | cons b t =>
    have h3 := h b (by simp)
    have h1 : isLetter b = false := by
      cases hb : isLetter b with
      | false => rfl
      | true =>
        simp [isLetter, UInt8.le_iff_toNat_le] at hb
        simp [isSpace, ← UInt8.toNat_inj] at h3
        omega
    have h2 : isDigit b = false := by
      cases hb : isDigit b with
      | false => rfl
      | true =>
        simp [isDigit, UInt8.le_iff_toNat_le] at hb
        simp [isSpace, ← UInt8.toNat_inj] at h3
        omega
    have hw := takeWhile_all isSpace t (10 :: y) (fun c hc => h c (by simp [hc]))
    have h10 : isSpace 10 = true := by decide
    rw [List.cons_append]
    simp only [first, h1, h2, h3, count, List.tail_cons, hw]
    simp [h10]
    omega
theorem takeWhile_mem {α : Type} (p : α → Bool) : ∀ (l : List α) (c : α), c ∈ l.takeWhile p → p c = true
  | [], c, h => by simp at h
  | a :: l, c, h => by
    by_cases ha : p a
    · rw [List.takeWhile_cons, if_pos ha] at h
      rcases List.mem_cons.1 h with rfl | h
      · exact ha
      · exact takeWhile_mem p l c h
    · rw [List.takeWhile_cons, if_neg ha] at h; simp at h
theorem space_kind {l : List UInt8} (h : (first l).1 = 4) : ∀ c ∈ l.take (first l).2, isSpace c = true := by
  match l with
  | [] => simp
  | b :: t =>
    have h3 : isSpace b = true ∧ first (b :: t) = (4, count isSpace (b :: t)) := by
      unfold first at h ⊢
      by_cases h1 : isLetter b = true
      · simp [h1] at h
      · by_cases h2 : isDigit b = true
        · simp [h1, h2] at h
        · by_cases h3 : isSpace b = true
          · simp [h1, h2, h3]
          · by_cases h4 : (b == 35) = true
            · simp only [h1, h2, h3, h4] at h; simp at h
            · simp only [h1, h2, h3, h4] at h
              cases hf : signs.find? (fun g => g.isPrefixOf (b :: t)) <;> simp [hf] at h
    rw [h3.2]
    intro c hc
    unfold count at hc
    simp only [List.tail_cons] at hc
    rw [show 1 + (t.takeWhile isSpace).length = (t.takeWhile isSpace).length + 1 from by omega, List.take_succ_cons] at hc
    rcases List.mem_cons.1 hc with rfl | hc
    · exact h3.1
    · rw [← List.prefix_iff_eq_take.1 (List.takeWhile_prefix isSpace)] at hc
      exact takeWhile_mem isSpace t c hc
def solidT (t : Tok) : Bool := (t.kind != 4) && (t.kind != 5)
/-- The last token parted from the others. -/
theorem Run.last {pos : Nat} {l : List UInt8} {ts : List Tok} {p : Nat} {r : List UInt8} (h : Run pos l ts p r) : ts = [] ∨
    ∃ us q m, ts = us ++ [⟨(first m).1, m.take (first m).2, q⟩] ∧ Run pos l us q m ∧ (first m).2 ≠ 0 ∧ p = q + (first m).2 ∧ m.drop (first m).2 = r := by
  induction h with
  | stop => exact .inl rfl
  | step h0 h ih =>
    rename_i pos l ts p r
    right
    rcases ih with rfl | ⟨us, q, m, rfl, h1, h2, h3, h4⟩
    · refine ⟨[], pos, l, rfl, .stop _ _, h0, ?_, ?_⟩
      · cases h; rfl
      · cases h; rfl
    · exact ⟨_ :: us, q, m, rfl, .step h0 h1, h2, h3, h4⟩
/-- The first text with a line feed and the second one behind it: up to the second one's leading spaces. -/
theorem lines_left {pos : Nat} {l : List UInt8} {ts : List Tok} {p : Nat} (h : Run pos l ts p []) (y : List UInt8) :
    ∃ us, Run pos (l ++ 10 :: y) us (p + 1 + (y.takeWhile isSpace).length) (y.drop (y.takeWhile isSpace).length) ∧ us.filter solidT = ts.filter solidT := by
  have sp : ∀ (q : Nat) (m : List UInt8), (∀ c ∈ m, isSpace c = true) → ∃ t, t.kind = 4 ∧ Run q (m ++ 10 :: y) [t] (q + m.length + 1 + (y.takeWhile isSpace).length) (y.drop (y.takeWhile isSpace).length) := by
    intro q m hm
    have hf := first_spaces m y hm
    refine ⟨⟨4, (m ++ 10 :: y).take (m.length + 1 + (y.takeWhile isSpace).length), q⟩, rfl, ?_⟩
    have step := Run.step (pos := q) (l := m ++ 10 :: y) (ts := []) (by rw [hf]; simp) (.stop _ _)
    rw [hf] at step
    simp only [] at step
    rw [show q + (m.length + 1 + (y.takeWhile isSpace).length) = q + m.length + 1 + (y.takeWhile isSpace).length from by omega] at step
    have hd : (m ++ 10 :: y).drop (m.length + 1 + (y.takeWhile isSpace).length) = y.drop (y.takeWhile isSpace).length := by
      rw [show m.length + 1 + (y.takeWhile isSpace).length = m.length + (1 + (y.takeWhile isSpace).length) from by omega, ← List.drop_drop]
      simp [Nat.add_comm]
    rw [hd] at step
    exact step
  rcases h.last with rfl | ⟨us, q, m, rfl, h1, h2, rfl, h4⟩
  · cases h
    obtain ⟨t, ht, hr⟩ := sp pos [] (by simp)
    exact ⟨[t], by simpa using hr, by simp [solidT, ht]⟩
  · have hm := ne_nil_of_first h2
    have hle := first_le m
    have hml : (first m).2 = m.length := by
      have := congrArg List.length h4
      simp at this
      omega
    have hx := h1.ext y hm
    by_cases h5 : (first m).1 = 4
    · have hall := space_kind h5
      rw [hml, List.take_length] at hall
      obtain ⟨t, ht, hr⟩ := sp q m hall
      refine ⟨us ++ [t], ?_, ?_⟩
      · rw [hml]; exact hx.trans hr
      · simp [solidT, ht, h5]
    · have hf := first_ext m y hm (.inr h5)
      obtain ⟨t, ht, hr⟩ := sp (q + (first m).2) [] (by simp)
      have step := Run.step (pos := q) (l := m ++ 10 :: y) (by rw [hf]; exact h2) (ts := [t]) (p := q + (first m).2 + 1 + (y.takeWhile isSpace).length) (r := y.drop (y.takeWhile isSpace).length) (by
        rw [hf, List.drop_append_of_le_length hle, h4]
        simpa using hr)
      rw [hf, List.take_append_of_le_length hle] at step
      exact ⟨us ++ [⟨(first m).1, m.take (first m).2, q⟩, t], hx.trans step, by
        have htf : solidT t = false := by simp [solidT, ht]
        simp [List.filter_cons, htf]⟩
/-- The second text behind its leading spaces. -/
theorem lines_right {l : List UInt8} {ts : List Tok} {p : Nat} {r : List UInt8} (h : Run 0 l ts p r) (hr : r = [] ∨ (first r).2 = 0) :
    ∃ us, Run (l.takeWhile isSpace).length (l.drop (l.takeWhile isSpace).length) us p r ∧ us.filter solidT = ts.filter solidT := by
  by_cases hk : (l.takeWhile isSpace).length = 0
  · rw [hk]; exact ⟨ts, h, rfl⟩
  · match l with
    | [] => simp at hk
    | b :: t =>
      have hb : isSpace b = true := by
        cases hb : isSpace b with
        | true => rfl
        | false => simp [hb] at hk
      have h1 : isLetter b = false := by
        cases hc : isLetter b with
        | false => rfl
        | true =>
          simp [isLetter, UInt8.le_iff_toNat_le] at hc
          simp [isSpace, ← UInt8.toNat_inj] at hb
          omega
      have h2 : isDigit b = false := by
        cases hc : isDigit b with
        | false => rfl
        | true =>
          simp [isDigit, UInt8.le_iff_toNat_le] at hc
          simp [isSpace, ← UInt8.toNat_inj] at hb
          omega
      have hf : first (b :: t) = (4, ((b :: t).takeWhile isSpace).length) := by
        simp only [first, h1, h2, hb, count, List.tail_cons]
        simp [hb]; omega
      generalize hL : b :: t = L at *
      cases h with
      | stop =>
        rcases hr with hr | hr
        · rw [hr] at hL; cases hL
        · rw [hf] at hr; exact absurd hr hk
      | step h0 h =>
        rename_i ts
        rw [hf] at h
        simp only [Nat.zero_add] at h
        refine ⟨ts, h, ?_⟩
        simp [solidT, hf]
theorem filter_shift (ts : List Tok) (d : Nat) : (ts.map (shift d)).filter solidT = (ts.filter solidT).map (shift d) := by
  rw [List.filter_map]; rfl
/-- LexerLines: both texts are read. -/
theorem lines_ok {a b : List UInt8} {ts us : List Tok} {x y : Nat} (ha : lex a = (ts, x, 0)) (hb : lex b = (us, y, 0)) (hl : a.length + 1 + b.length ≤ 65536) :
    ∃ vs, lex (a ++ 10 :: b) = (vs, 0, 0) ∧ vs.filter solidT = ts.filter solidT ++ (us.filter solidT).map (shift (a.length + 1)) := by
  obtain ⟨_, h1, _⟩ := lex_ok ha rfl
  obtain ⟨_, h2, _⟩ := lex_ok hb rfl
  obtain ⟨p, hp⟩ := run_of_ok h1
  obtain ⟨q, hq⟩ := run_of_ok h2
  have hpl : p = a.length := by have := hp.text; rw [this.2, this.1]; simp
  obtain ⟨ls, hls, hf1⟩ := lines_left hp b
  obtain ⟨rs, hrs, hf2⟩ := lines_right hq (.inl rfl)
  have hs := hrs.shift (p + 1)
  rw [show (b.takeWhile isSpace).length + (p + 1) = p + 1 + (b.takeWhile isSpace).length from by omega] at hs
  have ht := hls.trans hs
  refine ⟨_, lex_of_ok (by simp; omega) ht.ok, ?_⟩
  rw [List.filter_append, hf1, filter_shift, hf2, hpl]
/-- LexerLines: the second text has an error. -/
theorem lines_error2 {a b : List UInt8} {ts us : List Tok} {x q e : Nat} (ha : lex a = (ts, x, 0)) (hb : lex b = (us, q, e)) (he : e ≠ 0) (hl : a.length + 1 + b.length ≤ 65536) :
    lex (a ++ 10 :: b) = ([], q + a.length + 1, 3) := by
  obtain ⟨_, h1, _⟩ := lex_ok ha rfl
  obtain ⟨_, _, h2⟩ := lex_error hb he (by omega)
  obtain ⟨p, hp⟩ := run_of_ok h1
  obtain ⟨ws, r, hq, hr1, hr2⟩ := error_run h2
  have hpl : p = a.length := by have := hp.text; rw [this.2, this.1]; simp
  obtain ⟨ls, hls, _⟩ := lines_left hp b
  obtain ⟨rs, hrs, _⟩ := lines_right hq (.inr hr2)
  have hs := hrs.shift (p + 1)
  rw [show (b.takeWhile isSpace).length + (p + 1) = p + 1 + (b.takeWhile isSpace).length from by omega] at hs
  have ht := (hls.trans hs).lex_ok
  rw [lexFrom_bad _ _ hr1 hr2] at ht
  refine lex_of_error (by simp; omega) ?_
  rw [ht, hpl]
  simp only [Except.map, Nat.add_assoc]
/-- LexerLines: the first text has an error. -/
theorem lines_error1 {a : List UInt8} {ts : List Tok} {p e : Nat} (b : List UInt8) (ha : lex a = (ts, p, e)) (he : e ≠ 0) (hl : a.length + 1 + b.length ≤ 65536) :
    lex (a ++ 10 :: b) = ([], p, 3) := by
  obtain ⟨_, _, h2⟩ := lex_error ha he (by omega)
  obtain ⟨ws, r, hq, hr1, hr2⟩ := error_run h2
  have ht := (hq.ext b hr1).lex_ok
  rw [lexFrom_bad _ _ (by simp) (first_bad_ext r b hr1 hr2)] at ht
  refine lex_of_error (by simp; omega) ?_
  rw [ht]
  rfl
end Go.Proofs.YtaaaicpjlaeiiaaDoor.PL
