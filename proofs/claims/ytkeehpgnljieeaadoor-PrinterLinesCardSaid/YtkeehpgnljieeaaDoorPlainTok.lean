/- The printed text of a tree: its tokens, and what the parser's plain functions read of them. -/
import Derived.Test.YtkeehpgnljieeaaDoorPlainPrint
namespace Go.Proofs.YtkeehpgnljieeaaDoor.PP
open PL

def kt (t : Tok) : Nat × List UInt8 := (t.kind, t.text)
/-- The text l begins with tokens whose solid ones are ks, and r is what follows them. -/
def LexTo (l : List UInt8) (ks : List (Nat × List UInt8)) (r : List UInt8) : Prop := ∀ pos, ∃ ts p, Run pos l ts p r ∧ (ts.filter solidT).map kt = ks
theorem LexTo.trans {l m r : List UInt8} {ks ks' : List (Nat × List UInt8)} (h : LexTo l ks m) (h' : LexTo m ks' r) : LexTo l (ks ++ ks') r := by
  intro pos
  obtain ⟨ts, p, h1, h2⟩ := h pos
  obtain ⟨us, q, h3, h4⟩ := h' p
  exact ⟨ts ++ us, q, h1.trans h3, by rw [List.filter_append, List.map_append, h2, h4]⟩
theorem lexTo_one {k : Nat} {g r : List UInt8} (h : first (g ++ r) = (k, g.length)) (hg : g ≠ []) : LexTo (g ++ r) (if (k != 4) && (k != 5) then [(k, g)] else []) r := by
  intro pos
  have hn : (first (g ++ r)).2 ≠ 0 := by rw [h]; simpa using hg
  have hs : Run (pos + (first (g ++ r)).2) ((g ++ r).drop (first (g ++ r)).2) [] (pos + g.length) r := by
    rw [h]; simp; exact .stop _ _
  refine ⟨_, _, Run.step hn hs, ?_⟩
  rw [h]
  simp only [List.take_left', List.filter_cons, List.filter_nil]
  cases hk : ((k != 4) && (k != 5)) with
  | true => simp [solidT, hk, kt]
  | false => simp [solidT, hk]
theorem LexTo.word {g r : List UInt8} (h : first (g ++ r) = (1, g.length)) (hg : g ≠ []) : LexTo (g ++ r) [(1, g)] r := lexTo_one h hg
theorem LexTo.num {g r : List UInt8} (h : first (g ++ r) = (2, g.length)) (hg : g ≠ []) : LexTo (g ++ r) [(2, g)] r := lexTo_one h hg
theorem LexTo.sign {g r : List UInt8} (h : first (g ++ r) = (3, g.length)) (hg : g ≠ []) : LexTo (g ++ r) [(3, g)] r := lexTo_one h hg
theorem LexTo.space {g r : List UInt8} (h : first (g ++ r) = (4, g.length)) (hg : g ≠ []) : LexTo (g ++ r) [] r := lexTo_one h hg

/-- What may follow a word or a number. -/
def stopB : List UInt8 → Bool
  | [] => true
  | c :: _ => !isInner c
def solidB : List UInt8 → Bool
  | [] => true
  | c :: _ => !isSpace c
def wordB : List UInt8 → Bool
  | [] => false
  | b :: t => isLetter b && t.all isInner
theorem takeWhile_stop {p : UInt8 → Bool} {t r : List UInt8} (h : ∀ c ∈ t, p c = true) (hr : ∀ c y, r = c :: y → p c = false) : (t ++ r).takeWhile p = t := by
  rw [takeWhile_all p t r h]
  cases r with
  | nil => simp
  | cons c y => rw [List.takeWhile_cons, hr c y rfl]; simp
theorem first_word {w r : List UInt8} (hw : wordB w = true) (hr : stopB r = true) : first (w ++ r) = (1, w.length) := by
  cases w with
  | nil => simp [wordB] at hw
  | cons b t =>
    simp only [wordB, Bool.and_eq_true, List.all_eq_true] at hw
    have h1 : ((t ++ r).takeWhile isInner) = t := takeWhile_stop hw.2 (by intro c y e; subst e; simpa [stopB] using hr)
    show first (b :: (t ++ r)) = _
    unfold first; dsimp only
    rw [if_pos hw.1]
    unfold count
    simp only [List.tail_cons, h1, List.length_cons]
    rw [Nat.add_comm]
theorem digit_inner {c : UInt8} (h : isInner c = false) : isDigit c = false := by
  unfold isInner at h
  simp at h
  exact h.2
theorem first_num {w r : List UInt8} (hw : w ≠ []) (hd : ∀ c ∈ w, isDigit c = true) (hr : stopB r = true) : first (w ++ r) = (2, w.length) := by
  cases w with
  | nil => exact absurd rfl hw
  | cons b t =>
    have hb := hd b (by simp)
    have h1 : ((t ++ r).takeWhile isDigit) = t := takeWhile_stop (fun c hc => hd c (by simp [hc])) (by intro c y e; subst e; exact digit_inner (by simpa [stopB] using hr))
    have hl : isLetter b = false := by
      rw [isDigit_eq] at hb
      rw [isLetter_eq]
      simp at hb ⊢
      omega
    show first (b :: (t ++ r)) = _
    unfold first; dsimp only
    rw [if_neg (by simp [hl]), if_pos hb]
    unfold count
    simp only [List.tail_cons, h1, List.length_cons]
    rw [Nat.add_comm]
theorem space_not (b : UInt8) (h : isSpace b = true) : isLetter b = false ∧ isDigit b = false := by
  rw [isSpace_eq] at h
  rw [isLetter_eq, isDigit_eq]
  simp at h ⊢
  omega
theorem first_space {w r : List UInt8} (hw : w ≠ []) (hd : ∀ c ∈ w, isSpace c = true) (hr : solidB r = true) : first (w ++ r) = (4, w.length) := by
  cases w with
  | nil => exact absurd rfl hw
  | cons b t =>
    have hb := hd b (by simp)
    have h1 : ((t ++ r).takeWhile isSpace) = t := takeWhile_stop (fun c hc => hd c (by simp [hc])) (by intro c y e; subst e; simpa [solidB] using hr)
    obtain ⟨h2, h3⟩ := space_not b hb
    show first (b :: (t ++ r)) = _
    unfold first; dsimp only
    rw [if_neg (by simp [h2]), if_neg (by simp [h3]), if_pos hb]
    unfold count
    simp only [List.tail_cons, h1, List.length_cons]
    rw [Nat.add_comm]
theorem name_wordB {w : List UInt8} (h : isName w = true) : wordB w = true := by
  unfold isName at h
  simp only [Bool.and_eq_true, decide_eq_true_iff] at h
  obtain ⟨_, h1, h2⟩ := h
  cases w with
  | nil => simp [first] at h1
  | cons b t =>
    unfold first at h1 h2
    dsimp only at h1 h2
    split at h1
    · rename_i hb
      rw [if_pos hb] at h2
      simp only [count, List.tail_cons, List.length_cons] at h2
      have h3 : (t.takeWhile isInner).length = t.length := by omega
      have h4 : t.takeWhile isInner = t := (List.takeWhile_prefix isInner).eq_of_length h3
      simp only [wordB, hb, Bool.true_and, List.all_eq_true]
      intro c hc
      rw [← h4] at hc
      exact takeWhile_mem _ _ _ hc
    · split at h1
      · simp at h1
      · split at h1
        · simp at h1
        · split at h1
          · simp at h1
          · split at h1 <;> simp at h1
theorem wordB_ne {w : List UInt8} (h : wordB w = true) : w ≠ [] := by
  rintro rfl
  simp [wordB] at h
theorem LexTo.name {w r : List UInt8} (h : isName w = true) (hr : stopB r = true) : LexTo (w ++ r) [(1, w)] r := .word (first_word (name_wordB h) hr) (wordB_ne (name_wordB h))
theorem dec_ne (n : Nat) : dec n ≠ [] := decF_ne 19 n
theorem LexTo.dec (n : Nat) {r : List UInt8} (hr : stopB r = true) : LexTo (PP.dec n ++ r) [(2, PP.dec n)] r := .num (first_num (dec_ne n) (decF_digit 20 n) hr) (dec_ne n)
theorem LexTo.sp {r : List UInt8} (hr : solidB r = true) : LexTo (32 :: r) [] r := .space (g := [32]) (first_space (by simp) (by simp [isSpace]) hr) (by simp)
theorem LexTo.op {k : Nat} (h1 : 6 ≤ k) (h2 : k ≤ 23) (r : List UInt8) : LexTo (symbol k ++ 32 :: r) [(3, symbol k)] (32 :: r) := by
  have hf : first (symbol k ++ 32 :: r) = (3, (symbol k).length) := by
    rcases (by omega : k = 6 ∨ k = 7 ∨ k = 8 ∨ k = 9 ∨ k = 10 ∨ k = 11 ∨ k = 12 ∨ k = 13 ∨ k = 14 ∨ k = 15 ∨ k = 16 ∨ k = 17 ∨ k = 18 ∨ k = 19 ∨ k = 20 ∨ k = 21 ∨ k = 22 ∨ k = 23) with rfl | rfl | rfl | rfl | rfl | rfl | rfl | rfl | rfl | rfl | rfl | rfl | rfl | rfl | rfl | rfl | rfl | rfl <;> rfl
  have hn : symbol k ≠ [] := by
    have : ∀ i : Fin 24, 6 ≤ i.1 → symbol i.1 ≠ [] := by decide
    exact this ⟨k, by omega⟩ h1
  exact .sign hf hn
theorem LexTo.open_ (r : List UInt8) : LexTo (40 :: r) [(3, [40])] r := .sign (g := [40]) rfl (by simp)
theorem LexTo.shut (r : List UInt8) : LexTo (41 :: r) [(3, [41])] r := .sign (g := [41]) rfl (by simp)
theorem LexTo.lb (r : List UInt8) : LexTo (91 :: r) [(3, [91])] r := .sign (g := [91]) rfl (by simp)
theorem LexTo.rb (r : List UInt8) : LexTo (93 :: r) [(3, [93])] r := .sign (g := [93]) rfl (by simp)
theorem LexTo.lc (r : List UInt8) : LexTo (123 :: r) [(3, [123])] r := .sign (g := [123]) rfl (by simp)
theorem LexTo.rc (r : List UInt8) : LexTo (125 :: r) [(3, [125])] r := .sign (g := [125]) rfl (by simp)
theorem LexTo.semi (r : List UInt8) : LexTo (59 :: r) [(3, [59])] r := .sign (g := [59]) rfl (by simp)
theorem LexTo.comma (r : List UInt8) : LexTo (44 :: r) [(3, [44])] r := .sign (g := [44]) rfl (by simp)
theorem LexTo.lt (r : List UInt8) : LexTo (60 :: 32 :: r) [(3, [60])] (32 :: r) := .sign (g := [60]) rfl (by simp)
theorem LexTo.eq_ (r : List UInt8) : LexTo (61 :: 32 :: r) [(3, [61])] (32 :: r) := .sign (g := [61]) rfl (by simp)
theorem LexTo.neg (r : List UInt8) : LexTo (45 :: r) [(3, [45])] r := .sign (g := [45]) rfl (by simp)
theorem LexTo.not_ {c : UInt8} (r : List UInt8) (hc : c ≠ 61) : LexTo (33 :: c :: r) [(3, [33])] (c :: r) := by
  refine .sign (g := [33]) ?_ (by simp)
  show first (33 :: c :: r) = (3, 1)
  have e1 : isLetter 33 = false := by decide
  have e2 : isDigit 33 = false := by decide
  have e3 : isSpace 33 = false := by decide
  have e4 : ((33 : UInt8) == 35) = false := by decide
  have e5 : ((61 : UInt8) == c) = false := by simpa using fun e => hc e.symm
  unfold first; dsimp only
  rw [e1, e2, e3, e4]
  have : signs.find? (fun g => g.isPrefixOf (33 :: c :: r)) = some [33] := by
    unfold signs
    simp [List.isPrefixOf, e5]
  rw [this]
  rfl

/-- The tokens of an expression. -/
def wrapT (b : Bool) (s : List (Nat × List UInt8)) : List (Nat × List UInt8) := if b then [(3, [40])] ++ s ++ [(3, [41])] else s
def tokE : Tree → List (Nat × List UInt8)
  | .node k num nm [] => if k = 1 then [(2, dec num.toNat)] else [(1, nm)]
  | .node k _ nm [a] => if k = 3 then [(1, nm), (3, [91])] ++ tokE a ++ [(3, [93])] else [(3, symbol k)] ++ wrapT (bin a.kind) (tokE a)
  | .node k _ _ [a, b] => wrapT (bin a.kind && decide (level a.kind < level k)) (tokE a) ++ [(3, symbol k)] ++ wrapT (bin b.kind && decide (level b.kind ≤ level k)) (tokE b)
  | _ => []
/-- The first byte of an expression. -/
def headB : List UInt8 → Bool
  | [] => false
  | c :: _ => !isSpace c && c != 61
theorem headB_app {l r : List UInt8} (h : headB l = true) : headB (l ++ r) = true := by
  cases l with
  | nil => simp [headB] at h
  | cons c l => simpa [headB] using h
theorem headB_wrap {b : Bool} {l : List UInt8} (h : headB l = true) : headB (wrapP b l) = true := by
  unfold wrapP
  split
  · rfl
  · exact h
theorem letter_head {c : UInt8} (h : isLetter c = true) : isSpace c = false ∧ (c != 61) = true := by
  rw [isLetter_eq] at h
  rw [isSpace_eq, byte_bne]
  simp at h ⊢
  omega
theorem digit_head {c : UInt8} (h : isDigit c = true) : isSpace c = false ∧ (c != 61) = true := by
  rw [isDigit_eq] at h
  rw [isSpace_eq, byte_bne]
  simp at h ⊢
  omega
theorem headB_word {w : List UInt8} (h : wordB w = true) : headB w = true := by
  cases w with
  | nil => simp [wordB] at h
  | cons c t =>
    simp only [wordB, Bool.and_eq_true] at h
    obtain ⟨h1, h2⟩ := letter_head h.1
    simp [headB, h1]
    simpa using h2
theorem headB_dec (n : Nat) : headB (dec n) = true := by
  have h1 := decF_digit 20 n
  have h2 := dec_ne n
  unfold dec at h2 ⊢
  cases hd : decF 20 n with
  | nil => exact absurd hd h2
  | cons c t =>
    obtain ⟨h3, h4⟩ := digit_head (h1 c (by rw [hd]; simp))
    simp [headB, h3]
    simpa using h4
theorem headB_prE : ∀ (n : Nat) (t : Tree), t.size ≤ n → okT t 101 = true → headB (prE t) = true
  | 0, t, hs, _ => by have := t.size_pos; omega
  | n + 1, .node k num nm kids, hs, h => by
    rcases okE_inv h with ⟨rfl, _, _, _, rfl⟩ | ⟨rfl, _, hn, rfl⟩ | ⟨rfl, _, hn, a, rfl, ha⟩ | ⟨hk, _, _, a, rfl, ha⟩ | ⟨h1, h2, _, _, a, b, rfl, ha, hb⟩
    · simp only [prE, if_true]; exact headB_dec _
    · simp only [prE]; exact headB_word (name_wordB hn)
    · simp only [prE, if_true, List.append_assoc]; exact headB_app (headB_word (name_wordB hn))
    · rcases hk with rfl | rfl <;> rfl
    · simp only [Tree.size, sizeL] at hs
      simp only [prE, List.append_assoc]
      exact headB_app (headB_wrap (headB_prE n a (by omega) ha))
theorem headE {t : Tree} (h : okT t 101 = true) : headB (prE t) = true := headB_prE t.size t (Nat.le_refl _) h
theorem headB_solid {l : List UInt8} (h : headB l = true) : solidB l = true := by
  cases l with
  | nil => rfl
  | cons c l => simp [headB] at h; simp [solidB, h.1]
theorem solid_wrap {t : Tree} (h : okT t 101 = true) (b : Bool) (r : List UInt8) : solidB (wrapP b (prE t) ++ r) = true := headB_solid (headB_app (headB_wrap (headE h)))
theorem lex_wrap {b : Bool} {t : Tree} (h : ∀ r, stopB r = true → LexTo (prE t ++ r) (tokE t) r) (r : List UInt8) (hr : stopB r = true) : LexTo (wrapP b (prE t) ++ r) (wrapT b (tokE t)) r := by
  unfold wrapP wrapT
  cases b with
  | false => exact h r hr
  | true =>
    simp only [if_true, List.append_assoc, List.cons_append, List.nil_append]
    exact (LexTo.open_ _).trans ((h (41 :: r) rfl).trans (LexTo.shut r))
theorem lex_prE : ∀ (n : Nat) (t : Tree), t.size ≤ n → okT t 101 = true → ∀ r, stopB r = true → LexTo (prE t ++ r) (tokE t) r
  | 0, t, hs, _ => by have := t.size_pos; omega
  | n + 1, .node k num nm kids, hs, h => by
    intro r hr
    rcases okE_inv h with ⟨rfl, _, _, _, rfl⟩ | ⟨rfl, _, hn, rfl⟩ | ⟨rfl, _, hn, a, rfl, ha⟩ | ⟨hk, _, _, a, rfl, ha⟩ | ⟨h1, h2, _, _, a, b, rfl, ha, hb⟩
    · simp only [prE, tokE, if_true]; exact .dec _ hr
    · simp only [prE, tokE]; exact .name hn hr
    · simp only [Tree.size, sizeL] at hs
      have ih := lex_prE n a (by omega) ha
      simp only [prE, tokE, if_true, List.append_assoc, List.cons_append, List.nil_append]
      exact (LexTo.name hn rfl).trans ((LexTo.lb _).trans ((ih (93 :: r) rfl).trans (LexTo.rb r)))
    · simp only [Tree.size, sizeL] at hs
      have ih := lex_prE n a (by omega) ha
      have hw := lex_wrap (b := bin a.kind) ih r hr
      have hh := headB_wrap (b := bin a.kind) (headE ha)
      simp only [prE, tokE]
      rw [if_neg (by omega), if_neg (by omega), List.append_assoc]
      rcases hk with rfl | rfl
      · exact (LexTo.neg _).trans hw
      · cases hc : wrapP (bin a.kind) (prE a) with
        | nil => rw [hc] at hh; simp [headB] at hh
        | cons c l =>
          rw [hc] at hw hh
          have h61 : c ≠ 61 := by simp [headB] at hh; exact hh.2
          exact (LexTo.not_ _ h61).trans hw
    · simp only [Tree.size, sizeL] at hs
      have iha := lex_wrap (b := bin a.kind && decide (level a.kind < level k)) (lex_prE n a (by omega) ha)
      have ihb := lex_wrap (b := bin b.kind && decide (level b.kind ≤ level k)) (lex_prE n b (by omega) hb)
      have hsb := solid_wrap hb (bin b.kind && decide (level b.kind ≤ level k)) r
      have hso : solidB (symbol k ++ 32 :: (wrapP (bin b.kind && decide (level b.kind ≤ level k)) (prE b) ++ r)) = true := by
        have : ∀ i : Fin 24, 6 ≤ i.1 → solidB (symbol i.1) = true ∧ symbol i.1 ≠ [] := by decide
        obtain ⟨e1, e2⟩ := this ⟨k, by omega⟩ h1
        simp only at e1 e2
        cases hc : symbol k with
        | nil => exact absurd hc e2
        | cons c l => rw [hc] at e1; simpa [solidB] using e1
      simp only [prE, tokE, List.append_assoc, List.cons_append, List.nil_append]
      exact (iha _ rfl).trans ((LexTo.sp hso).trans ((LexTo.op h1 h2 _).trans ((LexTo.sp hsb).trans (ihb r hr))))
theorem lexE {t : Tree} (h : okT t 101 = true) {r : List UInt8} (hr : stopB r = true) : LexTo (prE t ++ r) (tokE t) r := lex_prE t.size t (Nat.le_refl _) h r hr

/-! ### What the parser reads -/
section
variable {E : Env}
/-- From index i on the tokens are ks. -/
def At (E : Env) (i : Nat) (ks : List (Nat × List UInt8)) : Prop := ∀ j x, ks[j]? = some x → ∃ t, E.ts[i + j]? = some t ∧ kt t = x
theorem At.left {i : Nat} {a b : List (Nat × List UInt8)} (h : At E i (a ++ b)) : At E i a := fun j x hj =>
  h j x (by rw [List.getElem?_append_left (List.getElem?_eq_some_iff.1 hj).1]; exact hj)
theorem At.right {i : Nat} {a b : List (Nat × List UInt8)} (h : At E i (a ++ b)) : At E (i + a.length) b := fun j x hj => by
  obtain ⟨t, h1, h2⟩ := h (a.length + j) x (by rw [List.getElem?_append_right (by omega)]; simpa using hj)
  exact ⟨t, by rw [Nat.add_assoc]; exact h1, h2⟩
theorem At.head {i : Nat} {x : Nat × List UInt8} {ks : List (Nat × List UInt8)} (h : At E i (x :: ks)) : ∃ t, E.ts[i]? = some t ∧ t.kind = x.1 ∧ t.text = x.2 := by
  obtain ⟨t, h1, h2⟩ := h 0 x rfl
  exact ⟨t, h1, by rw [← h2]; rfl, by rw [← h2]; rfl⟩
theorem At.tail {i : Nat} {x : Nat × List UInt8} {ks : List (Nat × List UInt8)} (h : At E i (x :: ks)) : At E (i + 1) ks := At.right (a := [x]) h
/-- The state at an index, without an error. -/
abbrev at0 (i : Nat) : St := ⟨i, 0, 0⟩
theorem more_at {i : Nat} {t : Tok} (h : E.ts[i]? = some t) : more E (at0 i) = true := by
  have := (List.getElem?_eq_some_iff.1 h).1
  simp [more, this]
theorem cur_at0 {i : Nat} {t : Tok} (h : E.ts[i]? = some t) : cur E (at0 i) = t := by
  unfold cur
  rw [List.getD_eq_getElem?_getD, h]; rfl
theorem sees_at0 {i : Nat} {t : Tok} (h : E.ts[i]? = some t) (x : List UInt8) : sees E (at0 i) x = (t.text == x) := by
  unfold sees
  rw [more_at h, cur_at0 h, Bool.true_and]
theorem At.sees {i : Nat} {x : Nat × List UInt8} {ks : List (Nat × List UInt8)} (h : At E i (x :: ks)) (y : List UInt8) : sees E (at0 i) y = (x.2 == y) := by
  obtain ⟨t, h1, _, h3⟩ := h.head
  rw [sees_at0 h1, h3]
theorem At.more {i : Nat} {x : Nat × List UInt8} {ks : List (Nat × List UInt8)} (h : At E i (x :: ks)) : more E (at0 i) = true := by
  obtain ⟨t, h1, _⟩ := h.head
  exact more_at h1
theorem At.kind {i : Nat} {x : Nat × List UInt8} {ks : List (Nat × List UInt8)} (h : At E i (x :: ks)) : (cur E (at0 i)).kind = x.1 := by
  obtain ⟨t, h1, h2, _⟩ := h.head
  rw [cur_at0 h1, h2]
theorem At.text {i : Nat} {x : Nat × List UInt8} {ks : List (Nat × List UInt8)} (h : At E i (x :: ks)) : (cur E (at0 i)).text = x.2 := by
  obtain ⟨t, h1, _, h2⟩ := h.head
  rw [cur_at0 h1, h2]
theorem At.require {i : Nat} {k : Nat} {x : List UInt8} {ks : List (Nat × List UInt8)} (h : At E i ((k, x) :: ks)) : require E (at0 i) x = at0 (i + 1) := by
  unfold PP.require
  rw [h.sees x]
  simp [adv]
theorem At.name {i : Nat} {k : Nat} {x : List UInt8} {ks : List (Nat × List UInt8)} (h : At E i ((k, x) :: ks)) (hx : isName x = true) : nameP E (at0 i) = (at0 (i + 1), x) := by
  unfold nameP
  rw [h.more, h.text, hx]
  simp [adv]
theorem At.num {i n : Nat} {ks : List (Nat × List UInt8)} (h : At E i ((2, dec n) :: ks)) {lo hi : Int} (h1 : lo ≤ (n : Int)) (h2 : (n : Int) ≤ hi) (h3 : hi ≤ 2147483647) : numP E (at0 i) lo hi = (at0 (i + 1), (n : Int)) := by
  have hv : valL 0 ((dec n).dropWhile (· == 48)) = n := by
    rw [valL_drop]
    exact decF_val 20 n (by omega)
  have hd : digitsVal hi 0 ((dec n).dropWhile (· == 48)) = n := by
    rw [digitsVal_le _ _ (by omega) (by rw [hv]; exact h2), hv]
  unfold numP
  rw [h.more, h.kind, h.text, hd]
  simp only [decide_true, Bool.and_self, if_true]
  rw [if_neg (by omega)]
  simp [adv]
/-- What may stand behind an expression whose operators have at least a level. -/
def NextOk (E : Env) (i l : Nat) : Prop := ∀ t, E.ts[i]? = some t → t.text ≠ [91] ∧ ∀ op, opOf t.text = some op → level op ≤ l
theorem NextOk.sees {i l : Nat} (h : NextOk E i l) : sees E (at0 i) [91] = false := by
  cases he : E.ts[i]? with
  | none =>
    have := List.getElem?_eq_none_iff.1 he
    simp [PP.sees, PP.more]; omega
  | some t =>
    rw [sees_at0 he]
    have := (h t he).1
    simpa using this
theorem At.next {i l : Nat} {x : Nat × List UInt8} {ks : List (Nat × List UInt8)} (h : At E i (x :: ks)) (h1 : x.2 ≠ [91]) (h2 : ∀ op, opOf x.2 = some op → level op ≤ l) : NextOk E i l := by
  intro t ht
  obtain ⟨t', h3, _, h4⟩ := h.head
  rw [ht] at h3
  injection h3 with h3
  subst h3
  rw [h4]; exact ⟨h1, h2⟩
theorem NextOk.none {i l : Nat} (h : E.ts.length ≤ i) : NextOk E i l := fun t ht => by
  rw [List.getElem?_eq_none h] at ht; cases ht
theorem NextOk.mono {i l m : Nat} (h : NextOk E i l) (hl : l ≤ m) : NextOk E i m := fun t ht => ⟨(h t ht).1, fun op ho => Nat.le_trans ((h t ht).2 op ho) hl⟩
/-- The loop of binary operators stops. -/
theorem loop_stops {i l lvl : Nat} (h : NextOk E i l) (hl : l < lvl) (n : Nat) (t : Tree) : binLoop E (n + 1) lvl (at0 i) t = some (at0 i, t) := by
  rw [binLoop]
  cases he : E.ts[i]? with
  | none =>
    have := List.getElem?_eq_none_iff.1 he
    rw [if_neg (by simp [PP.more]; omega)]
  | some x =>
    rw [if_pos (more_at he), cur_at0 he]
    cases ho : opOf x.text with
    | none => rfl
    | some op =>
      have := (h x he).2 op ho
      simp only
      rw [if_pos (by omega)]
/-- The level of a tree's operator; that of all else is greater than all. -/
def lv (t : Tree) : Nat := if bin t.kind then level t.kind else 12
theorem opOf_symbol {k : Nat} (h1 : 6 ≤ k) (h2 : k ≤ 23) : opOf (symbol k) = some k := by
  have : ∀ i : Fin 24, 6 ≤ i.1 → opOf (symbol i.1) = some i.1 := by decide
  exact this ⟨k, by omega⟩ h1
theorem level_le (k : Nat) : level k ≤ 11 := by
  by_cases h : k < 24
  · have : ∀ i : Fin 24, level i.1 ≤ 11 := by decide
    exact this ⟨k, h⟩
  · unfold level
    rw [List.getD_eq_getElem?_getD, List.getElem?_eq_none (by simpa [opTable] using h)]
    simp
theorem level_lt {k : Nat} (h1 : 6 ≤ k) (h2 : k ≤ 23) : level k ≤ 10 ∧ 1 ≤ level k := by
  have : ∀ i : Fin 24, 6 ≤ i.1 → level i.1 ≤ 10 ∧ 1 ≤ level i.1 := by decide
  exact this ⟨k, by omega⟩ h1
theorem symbol_ne {k : Nat} (h1 : 6 ≤ k) (h2 : k ≤ 23) : symbol k ≠ [91] := by
  have : ∀ i : Fin 24, 6 ≤ i.1 → symbol i.1 ≠ [91] := by decide
  exact this ⟨k, by omega⟩ h1
theorem no_op {x : List UInt8} {l : Nat} (h : opOf x = none) : ∀ op, opOf x = some op → level op ≤ l := fun op ho => by rw [h] at ho; cases ho
theorem word_ne {w : List UInt8} (h : wordB w = true) : (w == [45]) = false ∧ (w == [33]) = false ∧ (w == [40]) = false := by
  cases w with
  | nil => simp [wordB] at h
  | cons c t =>
    simp only [wordB, Bool.and_eq_true] at h
    have hc := h.1
    rw [isLetter_eq] at hc
    simp at hc
    refine ⟨?_, ?_, ?_⟩ <;> simp <;> intro e <;> subst e <;> simp at hc
theorem dec_op (n : Nat) : (dec n == [45]) = false ∧ (dec n == [33]) = false ∧ (dec n == [40]) = false := by
  have h1 := decF_digit 20 n
  have h2 := dec_ne n
  unfold dec at h2 ⊢
  cases hd : decF 20 n with
  | nil => exact absurd hd h2
  | cons c t =>
    have hc := h1 c (by rw [hd]; simp)
    rw [isDigit_eq] at hc
    simp at hc
    refine ⟨?_, ?_, ?_⟩ <;> simp <;> intro e <;> subst e <;> simp at hc
/-- A tree that is no binary one is read by unary; every tree by the loop of binary operators. -/
def ReadU (E : Env) (t : Tree) : Prop := ∀ i, At E i (tokE t) → NextOk E (i + (tokE t).length) 12 → ∃ m, unary E m (at0 i) = some (at0 (i + (tokE t).length), t)
def ReadB (E : Env) (t : Tree) : Prop := ∀ i, At E i (tokE t) → NextOk E (i + (tokE t).length) (lv t) → ∀ lvl, lvl ≤ lv t → ∀ n r, binLoop E n lvl (at0 (i + (tokE t).length)) t = some r → ∃ m, binary E m lvl (at0 i) = some r
theorem readB_of_U {t : Tree} (h : ReadU E t) (hl : lv t = 12) : ReadB E t := by
  intro i ha hn lvl _ n r hr
  obtain ⟨m, hm⟩ := h i ha (by rw [hl] at hn; exact hn)
  refine ⟨max m n + 1, ?_⟩
  rw [binary, unary_le E (Nat.le_max_left m n) hm]
  exact binLoop_le E (Nat.le_max_right m n) hr
/-- A tree in parentheses. -/
theorem read_paren {t : Tree} (h : ReadB E t) (i : Nat) (ha : At E i (wrapT true (tokE t))) : ∃ m, unary E m (at0 i) = some (at0 (i + (wrapT true (tokE t)).length), t) := by
  simp only [wrapT, if_true, List.cons_append, List.nil_append] at ha ⊢
  have h1 := ha.tail
  have h2 := h1.left
  have h3 : At E (i + 1 + (tokE t).length) [(3, [41])] := h1.right
  obtain ⟨m, hm⟩ := h (i + 1) h2 (h3.next (by simp) (no_op (by decide))) 0 (Nat.zero_le _) 1 _ (by
    have hq := h3.next (l := 0) (by simp) (no_op (by decide))
    rw [binLoop]
    obtain ⟨x, hx, _, hx2⟩ := h3.head
    rw [if_pos (more_at hx), cur_at0 hx, hx2]
    rw [show opOf ((3, [41]) : Nat × List UInt8).2 = none from by decide])
  refine ⟨m + 2, ?_⟩
  rw [unary, ha.sees, ha.sees, if_neg (by decide), if_neg (by decide), primary, ha.sees, if_pos (by decide)]
  show (binary E m 0 (at0 (i + 1))).map _ = _
  rw [hm]
  simp only [Option.map_some, List.length_cons, List.length_append, List.length_nil]
  rw [h3.require]
  simp only [at0]
  congr 3
  omega
theorem read_wrap {b : Bool} {t : Tree} (hb : ReadB E t) (hu : bin t.kind = false → ReadU E t) (hw : b = bin t.kind) (i : Nat) (ha : At E i (wrapT b (tokE t))) (hn : NextOk E (i + (wrapT b (tokE t)).length) 12) :
    ∃ m, unary E m (at0 i) = some (at0 (i + (wrapT b (tokE t)).length), t) := by
  cases b with
  | true => exact read_paren hb i ha
  | false => exact hu hw.symm i ha hn
theorem read_all : ∀ (n : Nat) (t : Tree), t.size ≤ n → okT t 101 = true → ReadB E t ∧ (bin t.kind = false → ReadU E t)
  | 0, t, hs, _ => by have := t.size_pos; omega
  | n + 1, .node k num nm kids, hs, h => by
    rcases okE_inv h with ⟨rfl, h1, h2, rfl, rfl⟩ | ⟨rfl, rfl, hn, rfl⟩ | ⟨rfl, rfl, hn, a, rfl, ha⟩ | ⟨hk, rfl, rfl, a, rfl, ha⟩ | ⟨h1, h2, rfl, rfl, a, b, rfl, ha, hb⟩
    · have hu : ReadU E (.node 1 num [] []) := by
        intro i hA _
        simp only [tokE, if_true] at hA ⊢
        refine ⟨2, ?_⟩
        obtain ⟨e1, e2, e3⟩ := dec_op num.toNat
        rw [unary, hA.sees, hA.sees, e1, e2, if_neg (by decide), if_neg (by decide), primary, hA.sees, e3, if_neg (by decide), hA.more, hA.kind, hA.num (by omega) (by omega) (by omega)]
        simp
        omega
      exact ⟨readB_of_U hu rfl, fun _ => hu⟩
    · have hu : ReadU E (.node 2 0 nm []) := by
        intro i hA hN
        simp only [tokE] at hA hN ⊢
        rw [if_neg (by decide)] at hA hN ⊢
        refine ⟨3, ?_⟩
        obtain ⟨e1, e2, e3⟩ := word_ne (name_wordB hn)
        rw [unary, hA.sees, hA.sees, e1, e2, if_neg (by decide), if_neg (by decide), primary, hA.sees, e3, if_neg (by decide), hA.more, hA.kind, if_neg (by simp), place, hA.name hn]
        simp only [List.length_cons, List.length_nil] at hN ⊢
        rw [hN.sees, if_neg (by decide)]
      exact ⟨readB_of_U hu rfl, fun _ => hu⟩
    · simp only [Tree.size, sizeL] at hs
      obtain ⟨hB, _⟩ := read_all n a (by omega) ha
      have hu : ReadU E (.node 3 0 nm [a]) := by
        intro i hA _
        simp only [tokE, if_true, List.cons_append, List.nil_append] at hA ⊢
        have a1 := hA.tail
        have a2 := a1.tail
        have a3 := a2.left
        have a4 : At E (i + 1 + 1 + (tokE a).length) [(3, [93])] := a2.right
        obtain ⟨m, hm⟩ := hB (i + 1 + 1) a3 (a4.next (by simp) (no_op (by decide))) 0 (Nat.zero_le _) 1 (at0 (i + 1 + 1 + (tokE a).length), a) (by
          rw [binLoop]
          obtain ⟨x, hx, _, hx2⟩ := a4.head
          rw [if_pos (more_at hx), cur_at0 hx, hx2]
          rw [show opOf ((3, [93]) : Nat × List UInt8).2 = none from by decide])
        refine ⟨m + 3, ?_⟩
        obtain ⟨e1, e2, e3⟩ := word_ne (name_wordB hn)
        rw [unary, hA.sees, hA.sees, e1, e2, if_neg (by decide), if_neg (by decide), primary, hA.sees, e3, if_neg (by decide), hA.more, hA.kind, if_neg (by simp), place, hA.name hn]
        simp only
        rw [a1.sees, if_pos (by decide)]
        show (binary E m 0 (at0 (i + 1 + 1))).map _ = _
        rw [hm]
        simp only [Option.map_some, List.length_cons, List.length_append, List.length_nil]
        rw [a4.require]
        simp only [at0]
        congr 3
        omega
      exact ⟨readB_of_U hu rfl, fun _ => hu⟩
    · simp only [Tree.size, sizeL] at hs
      obtain ⟨hB, hU⟩ := read_all n a (by omega) ha
      have hkb : bin k = false := by rcases hk with rfl | rfl <;> rfl
      have hu : ReadU E (.node k 0 [] [a]) := by
        intro i hA hN
        simp only [tokE] at hA hN ⊢
        rw [if_neg (by omega)] at hA hN ⊢
        simp only [List.cons_append, List.nil_append] at hA hN ⊢
        have a1 := hA.tail
        simp only [List.length_cons] at hN ⊢
        rw [show i + ((wrapT (bin a.kind) (tokE a)).length + 1) = i + 1 + (wrapT (bin a.kind) (tokE a)).length from by omega] at hN ⊢
        obtain ⟨m, hm⟩ := read_wrap hB hU rfl (i + 1) a1 hN
        refine ⟨m + 1, ?_⟩
        rcases hk with rfl | rfl
        · rw [unary, hA.sees, if_pos (by decide)]
          show (unary E m (at0 (i + 1))).map _ = _
          rw [hm]; rfl
        · rw [unary, hA.sees, hA.sees, if_neg (by decide), if_pos (by decide)]
          show (unary E m (at0 (i + 1))).map _ = _
          rw [hm]; rfl
      refine ⟨readB_of_U hu ?_, fun _ => hu⟩
      unfold lv; rw [show (Tree.node k 0 [] [a]).kind = k from rfl, hkb]; rfl
    · simp only [Tree.size, sizeL] at hs
      obtain ⟨aB, aU⟩ := read_all n a (by omega) ha
      obtain ⟨bB, bU⟩ := read_all n b (by omega) hb
      have hkb : bin k = true := by simp [bin]; omega
      have hlk := level_lt h1 h2
      refine ⟨?_, fun e => ?_⟩
      · intro i hA hN lvl hl n' r hr
        have hlv : lv (.node k 0 [] [a, b]) = level k := by unfold lv; rw [show (Tree.node k 0 [] [a, b]).kind = k from rfl, hkb]; rfl
        rw [hlv] at hN hl
        simp only [tokE] at hA hN hr
        have a1 := hA.left.left
        have a2 : At E (i + (wrapT (bin a.kind && decide (level a.kind < level k)) (tokE a)).length) [(3, symbol k)] := hA.left.right
        have a3 := hA.right
        simp only [List.length_append, List.length_cons, List.length_nil] at a3 hN hr
        generalize hp : wrapT (bin a.kind && decide (level a.kind < level k)) (tokE a) = wa at *
        generalize hq : wrapT (bin b.kind && decide (level b.kind ≤ level k)) (tokE b) = wb at *
        -- the right operand
        have right : ∃ m, binary E m (level k + 1) (at0 (i + (wa.length + 1))) = some (at0 (i + (wa.length + 1) + wb.length), b) := by
          have hN' : NextOk E (i + (wa.length + 1) + wb.length) (level k) := by
            rw [show i + (wa.length + 1) + wb.length = i + (wa.length + (0 + 1) + wb.length) from by omega]; exact hN
          have a3' : At E (i + (wa.length + 1)) wb := by
            rw [show i + (wa.length + 1) = i + (wa.length + (0 + 1)) from by omega]; exact a3
          have stop := fun n => loop_stops hN' (Nat.lt_succ_self (level k)) n b
          cases hw : (bin b.kind && decide (level b.kind ≤ level k)) with
          | true =>
            rw [hw] at hq
            rw [← hq] at a3' stop ⊢
            obtain ⟨m, hm⟩ := read_paren bB _ a3'
            refine ⟨m + 2, ?_⟩
            rw [binary, unary_le E (Nat.le_succ m) hm]
            exact stop m
          | false =>
            rw [hw] at hq
            have e : tokE b = wb := hq
            rw [← e] at a3' hN' stop ⊢
            have hlb : level k + 1 ≤ lv b := by
              unfold lv
              split
              · rename_i c
                rw [c] at hw
                simp at hw; omega
              · omega
            exact bB _ a3' (hN'.mono (by omega)) (level k + 1) hlb 1 _ (stop 0)
        obtain ⟨mr, hmr⟩ := right
        -- the loop at the operator
        have loop : binLoop E (max mr n' + 1) lvl (at0 (i + wa.length)) a = some r := by
          obtain ⟨x, hx, _, hx2⟩ := a2.head
          rw [binLoop, if_pos (more_at hx), cur_at0 hx, hx2]
          simp only
          rw [opOf_symbol h1 h2]
          simp only
          rw [if_neg (by omega)]
          show (binary E (max mr n') (level k + 1) (at0 (i + wa.length + 1))).bind _ = _
          rw [show i + wa.length + 1 = i + (wa.length + 1) from by omega, binary_le E (Nat.le_max_left mr n') hmr]
          simp only [Option.bind_some]
          refine binLoop_le E (Nat.le_max_right mr n') ?_
          rw [show i + (wa.length + 1) + wb.length = i + (wa.length + (0 + 1) + wb.length) from by omega]
          exact hr
        have hNa : NextOk E (i + wa.length) (level k) := a2.next (symbol_ne h1 h2) (fun op ho => by
          simp only [opOf_symbol h1 h2] at ho
          injection ho with ho; subst ho; exact Nat.le_refl _)
        cases hw : (bin a.kind && decide (level a.kind < level k)) with
        | true =>
          rw [hw] at hp
          rw [← hp] at a1 loop
          obtain ⟨m, hm⟩ := read_paren aB _ a1
          refine ⟨max m (max mr n' + 1) + 1, ?_⟩
          rw [binary, unary_le E (Nat.le_max_left _ _) hm]
          exact binLoop_le E (Nat.le_max_right _ _) loop
        | false =>
          rw [hw] at hp
          have e : tokE a = wa := hp
          rw [← e] at a1 loop hNa
          have hla : level k ≤ lv a := by
            unfold lv
            split
            · rename_i c
              rw [c] at hw
              simp at hw; omega
            · omega
          exact aB _ a1 (hNa.mono hla) lvl (by omega) _ _ loop
      · rw [show (Tree.node k 0 [] [a, b]).kind = k from rfl, hkb] at e; cases e
/-- An expression is read, whatever the least level 0 and what stands behind it. -/
theorem read_expr {t : Tree} (h : okT t 101 = true) {i : Nat} (hA : At E i (tokE t)) (hN : NextOk E (i + (tokE t).length) 0) : ∃ m, binary E m 0 (at0 i) = some (at0 (i + (tokE t).length), t) := by
  obtain ⟨hB, _⟩ := read_all (E := E) t.size t (Nat.le_refl _) h
  refine hB i hA (hN.mono (Nat.zero_le _)) 0 (Nat.zero_le _) 1 _ ?_
  rw [binLoop]
  cases he : E.ts[i + (tokE t).length]? with
  | none =>
    have := List.getElem?_eq_none_iff.1 he
    rw [if_neg (by simp [PP.more]; omega)]
  | some x =>
    rw [if_pos (more_at he), cur_at0 he]
    cases ho : opOf x.text with
    | none => rfl
    | some op =>
      exfalso
      have h1 := (hN x he).2 op ho
      obtain ⟨h2, h3⟩ := opOf_range ho
      have := level_lt h2 (by omega)
      omega
end
end Go.Proofs.YtkeehpgnljieeaaDoor.PP
