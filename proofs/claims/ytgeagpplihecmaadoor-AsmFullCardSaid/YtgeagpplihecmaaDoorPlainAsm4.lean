/- AsmText: spaces and comments added to the lines of a text. -/
import Derived.Test.YtgeagpplihecmaaDoorPlainAsm3
namespace Go.Proofs.YtgeagpplihecmaaDoor.AS
def pre (k : Nat) : Bytes := [[], [9], [59, 32, 120, 32, 114, 49, 10], [32, 32], [10]].getD (k % 5) []
def suf (k : Nat) : Bytes := [[10], [32, 10], [59, 32, 110, 111, 112, 10], [10, 10, 32, 10], [9, 59, 10]].getD (k / 5 % 5) []
def bls (k : Nat) : Bytes := [[32], [32, 32], [9], [32, 9, 32]].getD (k % 4) []
/-- What AsmText's loop makes: the text so far, the line so far. -/
def tx (f : Nat → Nat) : Nat → Bytes → Bytes × Bytes → Bytes × Bytes
  | _, [], p => p
  | i, b :: r, p => if b = 10 then tx f (i + 1) r (p.1 ++ (pre (f i) ++ p.2 ++ suf (f i)), []) else if b = 32 then tx f (i + 1) r (p.1, p.2 ++ bls (f i)) else tx f (i + 1) r (p.1, p.2 ++ [b])
variable {f : Nat → Nat}
theorem tx_app : ∀ (a b : Bytes) (i : Nat) (p : Bytes × Bytes), tx f i (a ++ b) p = tx f (i + a.length) b (tx f i a p)
  | [], b, i, p => by simp [tx]
  | x :: a, b, i, p => by
    rw [List.cons_append, tx, tx]
    have e : i + (x :: a).length = i + 1 + a.length := by simp; omega
    rw [e]
    split
    · exact tx_app a b _ _
    · split <;> exact tx_app a b _ _
theorem pre_len (k : Nat) : (pre k).length ≤ 7 := by
  have : ∀ j : Fin 5, ([[], [9], [59, 32, 120, 32, 114, 49, 10], [32, 32], [10]].getD j.val ([] : Bytes)).length ≤ 7 := by decide
  exact this ⟨k % 5, by omega⟩
theorem suf_len (k : Nat) : (suf k).length ≤ 6 := by
  have : ∀ j : Fin 5, ([[10], [32, 10], [59, 32, 110, 111, 112, 10], [10, 10, 32, 10], [9, 59, 10]].getD j.val ([] : Bytes)).length ≤ 6 := by decide
  exact this ⟨k / 5 % 5, by omega⟩
theorem bls_ok (k : Nat) : (bls k).length ≤ 3 ∧ (∀ b ∈ bls k, isBl b = true) ∧ bls k ≠ [] := by
  have : ∀ j : Fin 4, ([[32], [32, 32], [9], [32, 9, 32]].getD j.val ([] : Bytes)).length ≤ 3 ∧ (∀ b ∈ ([[32], [32, 32], [9], [32, 9, 32]].getD j.val ([] : Bytes)), isBl b = true) ∧ ([[32], [32, 32], [9], [32, 9, 32]].getD j.val ([] : Bytes)) ≠ [] := by decide
  exact this ⟨k % 4, by omega⟩
theorem tx_len : ∀ (r : Bytes) (i : Nat) (p : Bytes × Bytes), (tx f i r p).1.length + (tx f i r p).2.length ≤ p.1.length + p.2.length + 13 * r.length
  | [], _, _ => by simp [tx]
  | b :: r, i, p => by
    rw [tx]
    have h1 := pre_len (f i)
    have h2 := suf_len (f i)
    have h3 := (bls_ok (f i)).1
    split
    · have := tx_len r (i + 1) (p.1 ++ (pre (f i) ++ p.2 ++ suf (f i)), [])
      simp at this ⊢; omega
    · split
      · have := tx_len r (i + 1) (p.1, p.2 ++ bls (f i))
        simp at this ⊢; omega
      · have := tx_len r (i + 1) (p.1, p.2 ++ [b])
        simp at this ⊢; omega
theorem tx_word : ∀ (w : Bytes) (i : Nat) (p : Bytes × Bytes), w.all inWord = true → tx f i w p = (p.1, p.2 ++ w)
  | [], _, _, _ => by simp [tx]
  | b :: w, i, p, h => by
    rw [List.all_cons, Bool.and_eq_true] at h
    have hb := h.1
    unfold inWord isBl at hb
    simp only [Bool.and_eq_true, Bool.not_eq_true', Bool.or_eq_false_iff, bne_iff_ne, beq_eq_false_iff_ne] at hb
    rw [tx, if_neg hb.2.2, if_neg hb.1.1, tx_word w _ _ h.2]
    simp
/-- Words with blanks between them. -/
inductive Sp : List Bytes → Bytes → Prop
  | one (w : Bytes) : w.all inWord = true → w ≠ [] → Sp [w] w
  | more {ws : List Bytes} {ln g w : Bytes} : Sp ws ln → (∀ b ∈ g, isBl b = true) → g ≠ [] → w.all inWord = true → w ≠ [] → Sp (ws ++ [w]) (ln ++ g ++ w)
theorem flds_skip : ∀ (g x : Bytes), (∀ b ∈ g, isBl b = true) → flds [] (g ++ x) = flds [] x
  | [], _, _ => rfl
  | b :: g, x, h => by
    rw [List.cons_append, flds, if_pos (h b (by simp)), if_pos (by rfl : ([] : Bytes).isEmpty = true)]
    exact flds_skip g x (fun y hy => h y (by simp [hy]))
theorem flds_close {cur x : Bytes} (hc : cur ≠ []) (hx : x = [] ∨ ∃ b y, x = b :: y ∧ isBl b = true) : flds cur x = cur :: flds [] x := by
  rcases hx with rfl | ⟨b, y, rfl, hb⟩
  · simp [flds, hc]
  · rw [show flds cur (b :: y) = (if isBl b then (if cur.isEmpty then flds [] y else cur :: flds [] y) else flds (cur ++ [b]) y) from by rw [flds], if_pos hb, if_neg (by simpa using hc), show flds [] (b :: y) = (if isBl b then (if ([] : Bytes).isEmpty then flds [] y else [] :: flds [] y) else flds ([] ++ [b]) y) from by rw [flds], if_pos hb, if_pos (by rfl : ([] : Bytes).isEmpty = true)]
theorem Sp.flds {ws : List Bytes} {ln : Bytes} (h : Sp ws ln) : ∀ x, (x = [] ∨ ∃ b y, x = b :: y ∧ isBl b = true) → flds [] (ln ++ x) = ws ++ flds [] x := by
  induction h with
  | one w hw hn =>
    intro x hx
    rw [flds_word _ _ _ hw, List.nil_append, flds_close hn hx]
    rfl
  | more h hg hgn hw hn ih =>
    intro x hx
    rename_i ws ln g w
    rw [List.append_assoc, List.append_assoc, ih, flds_skip _ _ hg, flds_word _ _ _ hw, List.nil_append, flds_close hn hx]
    · simp
    · cases g with
      | nil => exact absurd rfl hgn
      | cons b g => exact .inr ⟨b, _, rfl, hg b (by simp)⟩
theorem Sp.no {ws : List Bytes} {ln : Bytes} (h : Sp ws ln) : ∀ b ∈ ln, b ≠ 59 ∧ b ≠ 10 := by
  have kw : ∀ w : Bytes, w.all inWord = true → ∀ b ∈ w, b ≠ 59 ∧ b ≠ 10 := fun w hw b hb => by
    have := List.all_eq_true.1 hw b hb
    unfold inWord at this
    simp only [Bool.and_eq_true, bne_iff_ne] at this
    exact this.2
  have kb : ∀ b : UInt8, isBl b = true → b ≠ 59 ∧ b ≠ 10 := fun b hb => by
    unfold isBl at hb
    simp only [Bool.or_eq_true, beq_iff_eq] at hb
    rcases hb with rfl | rfl <;> exact ⟨by decide, by decide⟩
  induction h with
  | one w hw _ => exact kw w hw
  | more _ hg _ hw _ ih =>
    intro b hb
    simp only [List.mem_append] at hb
    rcases hb with (hb | hb) | hb
    · exact ih b hb
    · exact kb b (hg b hb)
    · exact kw _ hw b hb
theorem tx_rest : ∀ (ws vs : List Bytes) (i : Nat) (t ln : Bytes), Sp vs ln → (∀ w ∈ ws, w.all inWord = true ∧ w ≠ []) → ∃ ln', tx f i (ws.flatMap (fun w => 32 :: w)) (t, ln) = (t, ln') ∧ Sp (vs ++ ws) ln'
  | [], vs, i, t, ln, h, _ => ⟨ln, rfl, by simpa using h⟩
  | w :: ws, vs, i, t, ln, h, hw => by
    obtain ⟨w1, w2⟩ := hw w (by simp)
    obtain ⟨b1, b2, b3⟩ := bls_ok (f i)
    rw [List.flatMap_cons, List.cons_append, tx, if_neg (by decide), if_pos rfl, tx_app, tx_word _ _ _ w1]
    have h2 := Sp.more h b2 b3 w1 w2
    obtain ⟨ln', h3, h4⟩ := tx_rest ws (vs ++ [w]) (i + 1 + w.length) t (ln ++ bls (f i) ++ w) h2 (fun x hx => hw x (by simp [hx]))
    exact ⟨ln', h3, by simpa using h4⟩
/-- The lines that are not empty. -/
def ne (ls : List Bytes) : List (List Bytes) := (ls.map words).filter (fun w => !w.isEmpty)
theorem ne_cons (l : Bytes) (ls : List Bytes) : ne (l :: ls) = if (words l).isEmpty then ne ls else words l :: ne ls := by
  unfold ne
  rw [List.map_cons, List.filter_cons]
  cases (words l).isEmpty <;> rfl
theorem words_pad {g ln t : Bytes} {ws : List Bytes} (h : Sp ws ln) (hg : ∀ b ∈ g, isBl b = true) (ht : ∃ u v, t = u ++ v ∧ (∀ b ∈ u, isBl b = true) ∧ (v = [] ∨ ∃ y, v = 59 :: y)) : words (g ++ ln ++ t) = ws := by
  obtain ⟨u, v, rfl, hu, hv⟩ := ht
  have kb : ∀ l : Bytes, (∀ b ∈ l, isBl b = true) → l.all (· != 59) = true := fun l hl => by
    rw [List.all_eq_true]
    intro b hb
    have := hl b hb
    unfold isBl at this
    simp only [Bool.or_eq_true, beq_iff_eq] at this
    rcases this with rfl | rfl <;> decide
  have hc : cutC (g ++ ln ++ (u ++ v)) = g ++ ln ++ u := by
    have h1 : (g ++ ln ++ u).all (· != 59) = true := by
      rw [List.all_append, List.all_append, kb g hg, kb u hu]
      simp only [Bool.true_and, Bool.and_true]
      rw [List.all_eq_true]
      intro b hb
      simpa using (h.no b hb).1
    rw [← List.append_assoc, cutC_app, if_pos h1]
    rcases hv with rfl | ⟨y, rfl⟩
    · simp [cutC]
    · simp [cutC]
  unfold words
  rw [hc, List.append_assoc, flds_skip _ _ hg, flds_end _ _ _ hu]
  have := h.flds [] (.inl rfl)
  rw [List.append_nil] at this
  rw [this]
  simp [AS.flds]
theorem ne_pre (k : Nat) (y : Bytes) : ∃ g : Bytes, (∀ b ∈ g, isBl b = true) ∧ ne (lines [] (pre k ++ y)) = ne (lines g y) := by
  have : k % 5 = 0 ∨ k % 5 = 1 ∨ k % 5 = 2 ∨ k % 5 = 3 ∨ k % 5 = 4 := by omega
  unfold pre
  rcases this with h | h | h | h | h <;> rw [h]
  · exact ⟨[], by simp, rfl⟩
  · exact ⟨[9], by decide, rfl⟩
  · refine ⟨[], by simp, ?_⟩
    show ne ([59, 32, 120, 32, 114, 49] :: lines [] y) = _
    rw [ne_cons, if_pos (by decide)]
  · exact ⟨[32, 32], by decide, rfl⟩
  · refine ⟨[], by simp, ?_⟩
    show ne ([] :: lines [] y) = _
    rw [ne_cons, if_pos (by decide)]
theorem ne_suf {g ln : Bytes} {ws : List Bytes} (h : Sp ws ln) (hw : ws ≠ []) (hg : ∀ b ∈ g, isBl b = true) (k : Nat) (r : Bytes) : ne (lines (g ++ ln) (suf k ++ r)) = ws :: ne (lines [] r) := by
  have : k / 5 % 5 = 0 ∨ k / 5 % 5 = 1 ∨ k / 5 % 5 = 2 ∨ k / 5 % 5 = 3 ∨ k / 5 % 5 = 4 := by omega
  have key : ∀ t : Bytes, (∃ u v, t = u ++ v ∧ (∀ b ∈ u, isBl b = true) ∧ (v = [] ∨ ∃ y, v = 59 :: y)) → ∀ ls, ne ((g ++ ln ++ t) :: ls) = ws :: ne ls := fun t ht ls => by
    rw [ne_cons, words_pad h hg ht, if_neg (by simpa using hw)]
  unfold suf
  rcases this with h' | h' | h' | h' | h' <;> rw [h']
  · have := key [] ⟨[], [], rfl, by simp, .inl rfl⟩ (lines [] r)
    rw [List.append_nil] at this
    exact this
  · have := key [32] ⟨[32], [], rfl, by decide, .inl rfl⟩ (lines [] r)
    rw [← this]
    show ne (lines (g ++ ln) ([32] ++ (10 :: r))) = _
    rw [lines_body _ _ _ (by decide), lines, if_pos (by decide)]
  · have := key [59, 32, 110, 111, 112] ⟨[], _, rfl, by simp, .inr ⟨_, rfl⟩⟩ (lines [] r)
    rw [← this]
    show ne (lines (g ++ ln) ([59, 32, 110, 111, 112] ++ (10 :: r))) = _
    rw [lines_body _ _ _ (by decide), lines, if_pos (by decide)]
  · have := key [] ⟨[], [], rfl, by simp, .inl rfl⟩ ([] :: [32] :: lines [] r)
    rw [List.append_nil] at this
    rw [ne_cons [], if_pos (by decide), ne_cons [32], if_pos (by decide)] at this
    rw [← this]
    rfl
  · have := key [9, 59] ⟨[9], [59], rfl, by decide, .inr ⟨_, rfl⟩⟩ (lines [] r)
    rw [← this]
    show ne (lines (g ++ ln) ([9, 59] ++ (10 :: r))) = _
    rw [lines_body _ _ _ (by decide), lines, if_pos (by decide)]
/-- The words of an instruction's line. -/
def iw (i : Ins) : List Bytes := name i.op :: (shape i.op).map (word i)
theorem rdLines_ne : ∀ (ls : List Bytes) (l : List Ins) (k : Nat) (acc : List Ins), ne ls = l.map iw → l.all valid = true → acc.length + l.length ≤ 4096 → rdLines ls k acc = (acc ++ l, 0, 0)
  | [], [], _, _, _, _, _ => by simp [rdLines]
  | [], _ :: _, _, _, h, _, _ => by simp [ne] at h
  | x :: ls, l, k, acc, h, hv, hl => by
    rw [ne_cons] at h
    rw [rdLines]
    cases hw : words x with
    | nil =>
      rw [hw] at h
      simp only [List.isEmpty_nil, if_true] at h
      exact rdLines_ne ls l (k + 1) acc h hv hl
    | cons w ws =>
      rw [hw] at h
      simp only [List.isEmpty_cons] at h
      cases l with
      | nil => simp at h
      | cons i l =>
        rw [List.all_cons, Bool.and_eq_true] at hv
        simp only [List.map_cons, Bool.false_eq_true, if_false, List.cons.injEq] at h
        obtain ⟨h1, h2⟩ := h
        unfold iw at h1
        injection h1 with h1 h3
        subst h1 h3
        simp only [List.length_cons] at hl
        simp only [rdLine_words hv.1]
        rw [if_neg (by omega), rdLines_ne ls l (k + 1) (acc ++ [i]) h2 hv.2 (by simp; omega)]
        simp
theorem tx_ne : ∀ (l : List Ins), l.all valid = true → ∀ (i : Nat) (t : Bytes), ∃ y, tx f i (fmtL l) (t, []) = (t ++ y, []) ∧ ne (lines [] y) = l.map iw
  | [], _, _, t => ⟨[], by simp [fmtL, tx], by decide⟩
  | x :: l, h, i, t => by
    rw [List.all_cons, Bool.and_eq_true] at h
    have hx := valid_lt h.1
    obtain ⟨n1, n2, _⟩ := name_ok x.op hx
    have e : fmtL (x :: l) = body x ++ (10 :: fmtL l) := by simp [fmtL, line_body]
    rw [e, tx_app, body_words, tx_app, tx_word _ _ _ n1]
    obtain ⟨ln, h1, h2⟩ := tx_rest (f := f) ((shape x.op).map (word x)) [name x.op] (i + (name x.op).length) t ([] ++ name x.op) (by simpa using Sp.one _ n1 n2) (fun w hw => by
      obtain ⟨k, _, rfl⟩ := List.mem_map.1 hw
      exact word_inWord x k)
    rw [h1, tx, if_pos rfl]
    generalize i + _ = j
    obtain ⟨y, h3, h4⟩ := tx_ne l h.2 (j + 1) (t ++ (pre (f j) ++ ln ++ suf (f j)))
    refine ⟨pre (f j) ++ ln ++ suf (f j) ++ y, ?_, ?_⟩
    · simp only
      rw [h3]; simp
    · rw [List.append_assoc, List.append_assoc]
      obtain ⟨g, hg, h5⟩ := ne_pre (f j) (ln ++ (suf (f j) ++ y))
      rw [h5, lines_body _ _ _ (fun b hb => (h2.no b hb).2), ne_suf h2 (by simp) hg, h4]
      rfl
/-- AsmText. -/
theorem parse_tx {l : List Ins} (h : l.all valid = true) (hl : l.length ≤ 40) : parse (tx f 0 (fmtL l) ([], [])).1 = (l, 0, 0) := by
  have h1 := fmt_len h
  have h2 := tx_len (f := f) (fmtL l) 0 ([], [])
  simp only [List.length_nil, Nat.zero_add] at h2
  obtain ⟨y, h3, h4⟩ := tx_ne (f := f) l h 0 []
  unfold parse
  rw [if_neg (by omega), h3, List.nil_append, rdLines_ne _ _ _ _ h4 h (by simp; omega)]
  rfl
end Go.Proofs.YtgeagpplihecmaaDoor.AS
