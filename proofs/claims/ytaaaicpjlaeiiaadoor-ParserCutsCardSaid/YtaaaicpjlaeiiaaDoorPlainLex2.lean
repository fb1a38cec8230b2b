/- Plain facts on the tokens of a text. -/
import Derived.Test.YtaaaicpjlaeiiaaDoorPlainLex
namespace Go.Proofs.YtaaaicpjlaeiiaaDoor.PL

/-- From an offset and a text, by tokens, to an offset and the rest of the text. -/
inductive Run : Nat → List UInt8 → List Tok → Nat → List UInt8 → Prop
  | stop (pos : Nat) (l : List UInt8) : Run pos l [] pos l
  | step {pos : Nat} {l : List UInt8} {ts : List Tok} {p : Nat} {r : List UInt8} (h0 : (first l).2 ≠ 0) (h : Run (pos + (first l).2) (l.drop (first l).2) ts p r) :
      Run pos l (⟨(first l).1, l.take (first l).2, pos⟩ :: ts) p r

theorem ne_nil_of_first {l : List UInt8} (h : (first l).2 ≠ 0) : l ≠ [] := by
  rintro rfl
  exact h rfl
theorem Run.lex_ok {pos : Nat} {l : List UInt8} {ts : List Tok} {p : Nat} {r : List UInt8} (h : Run pos l ts p r) : lexFrom pos l = (lexFrom p r).map (ts ++ ·) := by
  induction h with
  | stop pos l => cases lexFrom pos l <;> simp [Except.map]
  | step h0 _ ih =>
    rw [lexFrom_step _ _ (ne_nil_of_first h0) h0, ih]
    rename_i p r _
    cases lexFrom p r <;> simp [Except.map]
theorem run_of_lexN : ∀ (n pos : Nat) (l : List UInt8), l.length ≤ n →
    (∃ ts p, Run pos l ts p [] ∧ lexFrom pos l = .ok ts) ∨ (∃ ts p r, Run pos l ts p r ∧ r ≠ [] ∧ (first r).2 = 0 ∧ lexFrom pos l = .error p)
  | n, pos, [], _ => .inl ⟨[], pos, .stop _ _, lexFrom_nil _⟩
  | 0, pos, b :: t, h => by simp at h
  | n + 1, pos, b :: t, h => by
    by_cases h0 : (first (b :: t)).2 = 0
    · exact .inr ⟨[], pos, b :: t, .stop _ _, by simp, h0, lexFrom_bad _ _ (by simp) h0⟩
    · rcases run_of_lexN n (pos + (first (b :: t)).2) ((b :: t).drop (first (b :: t)).2) (by simp at h ⊢; omega) with ⟨ts, p, h1, h2⟩ | ⟨ts, p, r, h1, h2, h3, h4⟩
      · exact .inl ⟨_, p, .step h0 h1, by rw [lexFrom_step _ _ (by simp) h0, h2]; rfl⟩
      · exact .inr ⟨_, p, r, .step h0 h1, h2, h3, by rw [lexFrom_step _ _ (by simp) h0, h4]; rfl⟩
theorem run_of_lex (pos : Nat) (l : List UInt8) :
    (∃ ts p, Run pos l ts p [] ∧ lexFrom pos l = .ok ts) ∨ (∃ ts p r, Run pos l ts p r ∧ r ≠ [] ∧ (first r).2 = 0 ∧ lexFrom pos l = .error p) := run_of_lexN l.length pos l (Nat.le_refl _)
theorem run_of_ok {pos : Nat} {l : List UInt8} {ts : List Tok} (h : lexFrom pos l = .ok ts) : ∃ p, Run pos l ts p [] := by
  rcases run_of_lex pos l with ⟨ts', p, h1, h2⟩ | ⟨ts', p, r, h1, h2, h3, h4⟩
  · rw [h] at h2; injection h2 with h2; subst h2; exact ⟨p, h1⟩
  · rw [h] at h4; cases h4
theorem Run.ok {pos : Nat} {l : List UInt8} {ts : List Tok} {p : Nat} (h : Run pos l ts p []) : lexFrom pos l = .ok ts := by
  rw [h.lex_ok, lexFrom_nil]
  simp [Except.map]
theorem Run.trans {pos : Nat} {l : List UInt8} {ts : List Tok} {p : Nat} {r : List UInt8} (h : Run pos l ts p r) {ts2 : List Tok} {p2 : Nat} {r2 : List UInt8} (h2 : Run p r ts2 p2 r2) : Run pos l (ts ++ ts2) p2 r2 := by
  induction h with
  | stop => exact h2
  | step h0 _ ih => exact .step h0 (ih h2)
theorem Run.text {pos : Nat} {l : List UInt8} {ts : List Tok} {p : Nat} {r : List UInt8} (h : Run pos l ts p r) : l = ts.flatMap Tok.text ++ r ∧ p = pos + (ts.flatMap Tok.text).length := by
  induction h with
  | stop => simp
  | step h0 _ ih =>
    rename_i pos l ts p r _
    obtain ⟨h1, h2⟩ := ih
    have hle := first_le l
    refine ⟨?_, ?_⟩
    · simp only [List.flatMap_cons, List.append_assoc]
      rw [← h1, List.take_append_drop]
    · simp only [List.flatMap_cons, List.length_append, List.length_take]
      omega
def shift (d : Nat) (t : Tok) : Tok := { t with pos := t.pos + d }
theorem Run.shift {pos : Nat} {l : List UInt8} {ts : List Tok} {p : Nat} {r : List UInt8} (h : Run pos l ts p r) (d : Nat) : Run (pos + d) l (ts.map (PL.shift d)) (p + d) r := by
  induction h with
  | stop => exact .stop _ _
  | step h0 _ ih =>
    rename_i pos l ts p r _
    rw [show pos + (first l).2 + d = pos + d + (first l).2 from by omega] at ih
    exact .step h0 ih
/-- Every token begins at its offset. -/
theorem Run.split {pos : Nat} {l : List UInt8} {ts : List Tok} {p : Nat} {r : List UInt8} (h : Run pos l ts p r) (i : Nat) (t : Tok) (hi : ts[i]? = some t) :
    pos ≤ t.pos ∧ t.pos - pos ≤ l.length ∧ Run t.pos (l.drop (t.pos - pos)) (ts.drop i) p r := by
  induction h generalizing i with
  | stop => simp at hi
  | step h0 h ih =>
    rename_i pos l ts p r
    cases i with
    | zero =>
      simp only [List.getElem?_cons_zero, Option.some.injEq] at hi
      subst hi
      refine ⟨Nat.le_refl _, by simp, ?_⟩
      simp only [Nat.sub_self, List.drop_zero]
      exact .step h0 h
    | succ i =>
      simp only [List.getElem?_cons_succ] at hi
      obtain ⟨h1, h2, h3⟩ := ih i hi
      have hle := first_le l
      refine ⟨by omega, by simp at h2; omega, ?_⟩
      rw [List.drop_drop] at h3
      rw [show (first l).2 + (t.pos - (pos + (first l).2)) = t.pos - pos from by omega] at h3
      simpa using h3
theorem Run.token {pos : Nat} {l : List UInt8} {ts : List Tok} {p : Nat} {r : List UInt8} (h : Run pos l ts p r) (t : Tok) (ht : t ∈ ts) : ∃ l0, first l0 = (t.kind, t.text.length) ∧ t.text = l0.take t.text.length ∧ t.text ≠ [] := by
  induction h with
  | stop => simp at ht
  | step h0 h ih =>
    rename_i pos l ts p r
    rcases List.mem_cons.1 ht with rfl | ht
    · have hle := first_le l
      refine ⟨l, ?_, ?_, ?_⟩
      · simp only [List.length_take, Nat.min_eq_left hle]
      · simp only [List.length_take, Nat.min_eq_left hle]
      · intro h
        have := congrArg List.length h
        simp only [List.length_take, Nat.min_eq_left hle, List.length_nil] at this
        exact h0 this
    · exact ih ht

theorem takeWhile_take {α : Type} (p : α → Bool) : ∀ (l : List α), (l.take (l.takeWhile p).length).takeWhile p = l.take (l.takeWhile p).length
  | [] => by simp
  | a :: l => by
    by_cases h : p a
    · simp [h, takeWhile_take p l]
    · simp [h]
theorem count_take (p : UInt8 → Bool) (b : UInt8) (t : List UInt8) : count p ((b :: t).take (count p (b :: t))) = count p (b :: t) := by
  unfold count
  simp only [List.tail_cons]
  rw [show 1 + (t.takeWhile p).length = (t.takeWhile p).length + 1 from by omega]
  simp only [List.take_succ_cons, List.tail_cons, takeWhile_take, List.length_take]
  have := (List.takeWhile_prefix (l := t) p).length_le
  omega
theorem sign_alone : ∀ g ∈ signs, signs.find? (fun h => h.isPrefixOf g) = some g := by decide
theorem sign_head : ∀ g ∈ signs, ∃ b t, g = b :: t := by
  intro g hg
  have : ∀ g ∈ signs, g ≠ [] := by decide
  cases g with
  | nil => exact absurd rfl (this _ hg)
  | cons b t => exact ⟨b, t, rfl⟩
/-- The text of a token is that token alone. -/
theorem first_take (l : List UInt8) (h : (first l).2 ≠ 0) : first (l.take (first l).2) = first l := by
  match l, ne_nil_of_first h with
  | b :: t, _ =>
    have key : ∀ p, ∃ t', (b :: t).take (count p (b :: t)) = b :: t' := fun p => by
      unfold count
      rw [show 1 + ((b :: t).tail.takeWhile p).length = ((b :: t).tail.takeWhile p).length + 1 from by omega]
      exact ⟨_, List.take_succ_cons⟩
    by_cases h1 : isLetter b = true
    · have e : first (b :: t) = (1, count isInner (b :: t)) := by simp [first, h1]
      rw [e]
      obtain ⟨t', ht⟩ := key isInner
      have hc := count_take isInner b t
      simp only [ht] at hc ⊢
      simp [first, h1, hc]
    · by_cases h2 : isDigit b = true
      · have e : first (b :: t) = (2, count isDigit (b :: t)) := by simp [first, h1, h2]
        rw [e]
        obtain ⟨t', ht⟩ := key isDigit
        have hc := count_take isDigit b t
        simp only [ht] at hc ⊢
        simp [first, h1, h2, hc]
      · by_cases h3 : isSpace b = true
        · have e : first (b :: t) = (4, count isSpace (b :: t)) := by simp [first, h1, h2, h3]
          rw [e]
          obtain ⟨t', ht⟩ := key isSpace
          have hc := count_take isSpace b t
          simp only [ht] at hc ⊢
          simp [first, h1, h2, h3, hc]
        · by_cases h4 : (b == 35) = true
          · have e : first (b :: t) = (5, count isText (b :: t)) := by simp only [first, h1, h2, h3, h4]; simp
            rw [e]
            obtain ⟨t', ht⟩ := key isText
            have hc := count_take isText b t
            simp only [ht] at hc ⊢
            simp only [first, h1, h2, h3, h4, hc]; simp
          · cases hf : signs.find? (fun g => g.isPrefixOf (b :: t)) with
            | none => exact absurd (by simp only [first, h1, h2, h3, h4, hf]; simp) h
            | some g =>
              have e : first (b :: t) = (3, g.length) := by simp only [first, h1, h2, h3, h4, hf]; simp
              have hm := List.mem_of_find?_eq_some hf
              have hp0 := List.find?_some hf
              have hp : g <+: (b :: t) := List.isPrefixOf_iff_prefix.1 hp0
              rw [e]
              simp only []
              rw [← List.prefix_iff_eq_take.1 hp]
              obtain ⟨b', t', rfl⟩ := sign_head g hm
              obtain rfl : b' = b := by
                obtain ⟨q, hq⟩ := hp
                simp at hq
                exact hq.1
              simp only [first, h1, h2, h3, h4, sign_alone _ hm]; simp
theorem first_whole (l : List UInt8) (h : (first l).2 ≠ 0) (h2 : (first l).2 = l.length) (pos : Nat) : lexFrom pos l = .ok [⟨(first l).1, l, pos⟩] := by
  rw [lexFrom_step _ _ (ne_nil_of_first h) h, h2]
  simp [lexFrom_nil, Except.map]

theorem lex_ok {l : List UInt8} {ts : List Tok} {at_ e : Nat} (h : lex l = (ts, at_, e)) (he : e = 0) : l.length ≤ 65536 ∧ lexFrom 0 l = .ok ts ∧ at_ = 0 := by
  unfold lex at h
  split at h
  · simp at h; omega
  · split at h
    · rename_i hh
      simp only [Prod.mk.injEq] at h
      obtain ⟨rfl, rfl, _⟩ := h
      exact ⟨by omega, hh, rfl⟩
    · simp at h; omega
theorem lex_of_ok {l : List UInt8} {ts : List Tok} (hl : l.length ≤ 65536) (h : lexFrom 0 l = .ok ts) : lex l = (ts, 0, 0) := by
  unfold lex
  rw [if_neg (by omega), h]
theorem lex_of_error {l : List UInt8} {p : Nat} (hl : l.length ≤ 65536) (h : lexFrom 0 l = .error p) : lex l = ([], p, 3) := by
  unfold lex
  rw [if_neg (by omega), h]
theorem tok_len {l : List UInt8} {ts : List Tok} {at_ : Nat} (he : lex l = (ts, at_, 0)) (t : Tok) (ht : t ∈ ts) : t.text.length ≤ l.length := by
  obtain ⟨h1, h2, _⟩ := lex_ok he rfl
  obtain ⟨p, hr⟩ := run_of_ok h2
  have h7 := (hr.text).1
  have h6 : t.text.length ≤ (ts.flatMap Tok.text).length := by
    obtain ⟨a, b, hab⟩ := List.append_of_mem ht
    rw [hab]; simp; omega
  simp only [List.append_nil] at h7
  rw [h7]
  omega
/-- LexerAlone. -/
theorem alone {l : List UInt8} {ts : List Tok} {at_ : Nat} (he : lex l = (ts, at_, 0)) (t : Tok) (ht : t ∈ ts) : lex t.text = ([⟨t.kind, t.text, 0⟩], 0, 0) := by
  obtain ⟨h1, h2, _⟩ := lex_ok he rfl
  obtain ⟨p, hr⟩ := run_of_ok h2
  obtain ⟨l0, h3, h4, h5⟩ := hr.token t ht
  have hn : (first l0).2 ≠ 0 := by rw [h3]; simpa using h5
  have hf := first_take l0 hn
  rw [h3] at hf
  simp only [] at hf
  rw [← h4] at hf
  have hlen : t.text.length ≤ 65536 := Nat.le_trans (tok_len he t ht) h1
  refine lex_of_ok hlen ?_
  have := first_whole t.text (by rw [hf]; simpa using h5) (by rw [hf]) 0
  rw [this, hf]
/-- LexerSuffix. -/
theorem suffix {l : List UInt8} {ts : List Tok} {at_ : Nat} (he : lex l = (ts, at_, 0)) (i : Nat) (t : Tok) (hi : ts[i]? = some t) :
    t.pos ≤ l.length ∧ ∃ us, lex (l.drop t.pos) = (us, 0, 0) ∧ ts.drop i = us.map (shift t.pos) := by
  obtain ⟨h1, h2, _⟩ := lex_ok he rfl
  obtain ⟨p, hr⟩ := run_of_ok h2
  obtain ⟨_, h4, h5⟩ := hr.split i t hi
  simp only [Nat.sub_zero] at h4 h5
  refine ⟨h4, ?_⟩
  rcases run_of_lex 0 (l.drop t.pos) with ⟨us, q, h6, h7⟩ | ⟨us, q, r, h6, h7, h8, h9⟩
  · refine ⟨us, lex_of_ok (by simp; omega) h7, ?_⟩
    have h8 := (h6.shift t.pos).ok
    simp only [Nat.zero_add] at h8
    rw [h5.ok] at h8
    injection h8
  · have h10 := (h6.shift t.pos).lex_ok
    simp only [Nat.zero_add] at h10
    rw [h5.ok, lexFrom_bad _ _ h7 h8] at h10
    cases h10
theorem tok_pos {l : List UInt8} {ts : List Tok} {at_ : Nat} (he : lex l = (ts, at_, 0)) (i : Nat) (t : Tok) (hi : ts[i]? = some t) : t.pos ≤ l.length := by
  obtain ⟨h1, h2, _⟩ := lex_ok he rfl
  obtain ⟨p, hr⟩ := run_of_ok h2
  obtain ⟨_, h4, _⟩ := hr.split i t hi
  simpa using h4
theorem run_count {pos : Nat} {l : List UInt8} {ts : List Tok} {p : Nat} {r : List UInt8} (h : Run pos l ts p r) : ts.length ≤ l.length := by
  induction h with
  | stop => simp
  | step h0 _ ih =>
    rename_i pos l ts p r _
    have hle := first_le l
    simp at ih ⊢
    omega
theorem lex_count {l : List UInt8} {ts : List Tok} {at_ : Nat} (he : lex l = (ts, at_, 0)) : ts.length ≤ l.length := by
  obtain ⟨h1, h2, _⟩ := lex_ok he rfl
  obtain ⟨p, hr⟩ := run_of_ok h2
  exact run_count hr
theorem Run.pos_at {pos : Nat} {l : List UInt8} {ts : List Tok} {p : Nat} {r : List UInt8} (h : Run pos l ts p r) (i : Nat) (t : Tok) (hi : ts[i]? = some t) :
    t.pos = pos + ((ts.take i).flatMap Tok.text).length := by
  induction h generalizing i with
  | stop => simp at hi
  | step h0 h ih =>
    rename_i pos l ts p r
    cases i with
    | zero => simp at hi; subst hi; simp
    | succ i =>
      simp only [List.getElem?_cons_succ] at hi
      have := ih i hi
      have hle := first_le l
      simp only [List.take_succ_cons, List.flatMap_cons, List.length_append, List.length_take]
      omega
/-- LexerJoins. -/
theorem joins {l : List UInt8} {ts : List Tok} {at_ : Nat} (he : lex l = (ts, at_, 0)) : at_ = 0 ∧ ts.flatMap Tok.text = l ∧
    ∀ i t, ts[i]? = some t → t.pos = ((ts.take i).flatMap Tok.text).length ∧ t.text ≠ [] := by
  obtain ⟨h1, h2, h3⟩ := lex_ok he rfl
  obtain ⟨p, hr⟩ := run_of_ok h2
  refine ⟨h3, ?_, fun i t hi => ?_⟩
  · have := (hr.text).1
    simpa using this.symm
  · obtain ⟨l0, _, _, h5⟩ := hr.token t (List.mem_of_getElem? hi)
    exact ⟨by simpa using hr.pos_at i t hi, h5⟩
theorem lex_error {l : List UInt8} {ts : List Tok} {at_ e : Nat} (he : lex l = (ts, at_, e)) (h0 : e ≠ 0) (hl : l.length ≤ 65536) : ts = [] ∧ e = 3 ∧ lexFrom 0 l = .error at_ := by
  unfold lex at he
  rw [if_neg (by omega)] at he
  split at he
  · simp at he; omega
  · rename_i hh
    simp only [Prod.mk.injEq] at he
    obtain ⟨rfl, rfl, rfl⟩ := he
    exact ⟨rfl, rfl, hh⟩
theorem error_run {pos : Nat} {l : List UInt8} {p : Nat} (h : lexFrom pos l = .error p) : ∃ ts r, Run pos l ts p r ∧ r ≠ [] ∧ (first r).2 = 0 := by
  rcases run_of_lex pos l with ⟨ts, q, h1, h2⟩ | ⟨ts, q, r, h1, h2, h3, h4⟩
  · rw [h] at h2; cases h2
  · rw [h] at h4; injection h4 with h4; subst h4; exact ⟨ts, r, h1, h2, h3⟩
theorem error_at {l : List UInt8} {ts : List Tok} {at_ e : Nat} (he : lex l = (ts, at_, e)) (h0 : e ≠ 0) (hl : l.length ≤ 65536) : at_ < l.length := by
  obtain ⟨_, _, h⟩ := lex_error he h0 hl
  obtain ⟨us, r, h1, h2, _⟩ := error_run h
  obtain ⟨h3, h4⟩ := h1.text
  have : 0 < r.length := List.length_pos_iff.2 h2
  rw [h3, List.length_append]
  omega
theorem flatMap_take_le (ts : List Tok) (i : Nat) : ((ts.take i).flatMap Tok.text).length ≤ (ts.flatMap Tok.text).length := by
  have h : ts.flatMap Tok.text = (ts.take i).flatMap Tok.text ++ (ts.drop i).flatMap Tok.text := by
    rw [← List.flatMap_append, List.take_append_drop]
  rw [h]; simp
theorem flatMap_take_succ (ts : List Tok) (i : Nat) (t : Tok) (hi : ts[i]? = some t) : (ts.take (i + 1)).flatMap Tok.text = (ts.take i).flatMap Tok.text ++ t.text := by
  obtain ⟨hk, rfl⟩ := List.getElem?_eq_some_iff.1 hi
  rw [List.take_succ_eq_append_getElem hk, List.flatMap_append, List.flatMap_singleton]
end Go.Proofs.YtaaaicpjlaeiiaaDoor.PL
