/- Laws of parsing: joined texts, comments, blanks. -/
import Derived.Test.YtgeagpplihecmaaDoorPlainAsm2
namespace Go.Proofs.YtgeagpplihecmaaDoor.AS
theorem rdLine_valid {w : Bytes} {ws : List Bytes} {i : Ins} (h : rdLine w ws = some i) : valid i = true := by
  unfold rdLine at h
  obtain ⟨op, _, h⟩ := Option.bind_eq_some_iff.1 h
  split at h
  · obtain ⟨j, _, h⟩ := Option.bind_eq_some_iff.1 h
    split at h
    · rename_i hv; injection h with h; subst h; exact hv
    · cases h
  · cases h
theorem rdLines_cases : ∀ (ls : List Bytes) (k : Nat) (acc : List Ins), acc.all valid = true →
    ((rdLines ls k acc).2 = (0, 0) ∧ (rdLines ls k acc).1.all valid = true ∧ (rdLines ls k acc).1.length ≤ acc.length + ls.length) ∨
    ((rdLines ls k acc).1 = [] ∧ k + 1 ≤ (rdLines ls k acc).2.1 ∧ (rdLines ls k acc).2.1 ≤ k + ls.length ∧ ((rdLines ls k acc).2.2 = 3 ∨ (rdLines ls k acc).2.2 = 5))
  | [], k, acc, h => .inl ⟨rfl, h, by simp [rdLines]⟩
  | l :: ls, k, acc, h => by
    rw [rdLines]
    cases hw : words l with
    | nil =>
      simp only
      rcases rdLines_cases ls (k + 1) acc h with ⟨h1, h2, h3⟩ | ⟨h1, h2, h3, h4⟩
      · exact .inl ⟨h1, h2, by simp; omega⟩
      · exact .inr ⟨h1, by omega, by simp; omega, h4⟩
    | cons w ws =>
      simp only
      cases hr : rdLine w ws with
      | none => exact .inr ⟨rfl, Nat.le_refl _, by simp, .inl rfl⟩
      | some i =>
        simp only
        split
        · exact .inr ⟨rfl, Nat.le_refl _, by simp, .inr rfl⟩
        · have hv : (acc ++ [i]).all valid = true := by rw [List.all_append, h]; simp [rdLine_valid hr]
          rcases rdLines_cases ls (k + 1) (acc ++ [i]) hv with ⟨h1, h2, h3⟩ | ⟨h1, h2, h3, h4⟩
          · exact .inl ⟨h1, h2, by simp at h3 ⊢; omega⟩
          · exact .inr ⟨h1, by omega, by simp; omega, h4⟩
theorem lines_len : ∀ (l cur : Bytes), (lines cur l).length ≤ l.length + 1
  | [], _ => by simp [lines]
  | b :: l, cur => by
    rw [lines]
    split
    · have := lines_len l []; simp; omega
    · have := lines_len l (cur ++ [b]); simp; omega
theorem parse_cases {s : Bytes} (hs : s.length ≤ 65536) : ((parse s).2 = (0, 0) ∧ (parse s).1.all valid = true ∧ (parse s).1.length ≤ s.length + 1) ∨
    ((parse s).1 = [] ∧ 1 ≤ (parse s).2.1 ∧ (parse s).2.1 ≤ s.length + 1 ∧ ((parse s).2.2 = 3 ∨ (parse s).2.2 = 5)) := by
  unfold parse
  rw [if_neg (by omega)]
  have hl := lines_len s []
  rcases rdLines_cases (lines [] s) 0 [] rfl with ⟨h1, h2, h3⟩ | ⟨h1, h2, h3, h4⟩
  · exact .inl ⟨h1, h2, by simp at h3; omega⟩
  · exact .inr ⟨h1, by omega, by omega, h4⟩
/-- AsmFixed. -/
theorem parse_back {s : Bytes} (hs : s.length ≤ 600) (h : (parse s).2.2 = 0) : (parse s).1.all valid = true ∧ (parse s).1.length ≤ 601 ∧ (fmtL (parse s).1).length ≤ 20434 ∧ parse (fmtL (parse s).1) = ((parse s).1, 0, 0) := by
  rcases parse_cases (s := s) (by omega) with ⟨_, h2, h3⟩ | ⟨_, _, _, h4⟩
  · have h5 := fmt_len h2
    exact ⟨h2, by omega, by omega, parse_fmt h2 (by omega) (by omega)⟩
  · omega
theorem rdLines_shift (a0 : List Ins) (d : Nat) : ∀ (ls : List Bytes) (k : Nat) (acc : List Ins), a0.length + acc.length + ls.length ≤ 4096 →
    rdLines ls (k + d) (a0 ++ acc) = (if (rdLines ls k acc).2.2 = 0 then (a0 ++ (rdLines ls k acc).1, 0, 0) else ([], (rdLines ls k acc).2.1 + d, (rdLines ls k acc).2.2))
  | [], k, acc, _ => by simp [rdLines]
  | l :: ls, k, acc, h => by
    simp only [List.length_cons] at h
    rw [rdLines, rdLines]
    cases hw : words l with
    | nil =>
      simp only
      rw [show k + d + 1 = k + 1 + d from by omega]
      exact rdLines_shift a0 d ls (k + 1) acc (by omega)
    | cons w ws =>
      simp only
      cases hr : rdLine w ws with
      | none => simp; omega
      | some i =>
        simp only
        rw [if_neg (show ¬ (a0 ++ acc).length = 4096 from by simp; omega), if_neg (show ¬ acc.length = 4096 from by omega), show k + d + 1 = k + 1 + d from by omega, List.append_assoc]
        exact rdLines_shift a0 d ls (k + 1) (acc ++ [i]) (by simp; omega)
/-- AsmJoins. -/
theorem parse_join {l : List Ins} {s : Bytes} (h : l.all valid = true) (hl : l.length ≤ 30) (hs : s.length ≤ 300) :
    parse (fmtL l ++ s) = (if (parse s).2.2 = 0 then (l ++ (parse s).1, 0, 0) else ([], (parse s).2.1 + l.length, (parse s).2.2)) := by
  have h1 := fmt_len h
  have h2 := lines_len s []
  unfold parse
  rw [if_neg (show ¬ 65536 < (fmtL l ++ s).length from by simp; omega), if_neg (show ¬ 65536 < s.length from by omega), lines_fmt l h, rdLines_fmt l h _ 0 [] (by simp; omega), List.nil_append]
  have := rdLines_shift l l.length (lines [] s) 0 [] (by simp; omega)
  rw [List.append_nil] at this
  exact this
theorem flds_end : ∀ (l cur t : Bytes), (∀ b ∈ t, isBl b = true) → flds cur (l ++ t) = flds cur l
  | [], cur, [], _ => rfl
  | [], cur, b :: t, h => by
    have ht := flds_end [] [] t (fun x hx => h x (by simp [hx]))
    rw [List.nil_append] at ht ⊢
    rw [show flds cur (b :: t) = (if isBl b then (if cur.isEmpty then flds [] t else cur :: flds [] t) else flds (cur ++ [b]) t) from by rw [flds], if_pos (h b (by simp)), ht]
    cases cur <;> simp [flds]
  | x :: l, cur, t, h => by
    rw [List.cons_append, flds, flds, flds_end l _ t h, flds_end l _ t h]
theorem flds_blank (l cur : Bytes) : flds cur (l ++ [32]) = flds cur l := flds_end l cur [32] (by decide)
theorem rdLines_congr : ∀ (ls ls' : List Bytes) (k : Nat) (acc : List Ins), ls.map words = ls'.map words → rdLines ls k acc = rdLines ls' k acc
  | [], [], _, _, _ => rfl
  | [], _ :: _, _, _, h => by simp at h
  | _ :: _, [], _, _, h => by simp at h
  | l :: ls, l' :: ls', k, acc, h => by
    simp only [List.map_cons, List.cons.injEq] at h
    rw [rdLines, rdLines, h.1]
    have ih := fun k acc => rdLines_congr ls ls' k acc h.2
    cases words l' with
    | nil => exact ih _ _
    | cons w ws =>
      simp only
      cases rdLine w ws with
      | none => rfl
      | some i => simp only [ih]
/-- A text without its comments. -/
def plainer : Bool → Bytes → Bytes
  | _, [] => []
  | skip, b :: l => if b = 10 then 10 :: plainer false l else if skip || b == 59 then plainer true l else b :: plainer false l
/-- A text with a comment at the end of each line. -/
def more : Bytes → Bytes
  | [] => []
  | b :: l => if b = 10 then [32, 59, 32, 115, 116, 32, 114, 49, 32, 114, 50, 32, 51, 10] ++ more l else b :: more l
theorem cutC_app (a b : Bytes) : cutC (a ++ b) = if a.all (· != 59) then a ++ cutC b else cutC a := by
  induction a with
  | nil => simp [cutC]
  | cons x a ih =>
    unfold cutC at *
    rw [List.cons_append, List.takeWhile_cons, List.takeWhile_cons, List.all_cons]
    by_cases hx : (x != 59) = true
    · rw [if_pos hx, if_pos hx, ih, hx, Bool.true_and]
      split <;> rfl
    · rw [if_neg hx, if_neg hx]
      simp [hx]
theorem cutC_all {l : Bytes} (h : l.all (· != 59) = true) : cutC l = l := cutC_no l (fun x hx => by simpa using List.all_eq_true.1 h x hx)
theorem plainer_lines : ∀ (l cur : Bytes) (skip : Bool), cur.all (· != 59) = !skip →
    ∃ h t, lines cur l = h :: t ∧ lines (cutC cur) (plainer skip l) = cutC h :: t.map cutC
  | [], cur, skip, _ => ⟨cur, [], rfl, rfl⟩
  | b :: l, cur, skip, hk => by
    by_cases hb : b = 10
    · subst hb
      obtain ⟨h, t, h1, h2⟩ := plainer_lines l [] false (by simp)
      refine ⟨cur, h :: t, ?_, ?_⟩
      · rw [lines, if_pos (by decide), h1]
      · rw [plainer, if_pos rfl, lines, if_pos (by decide)]
        rw [show cutC [] = [] from rfl] at h2
        rw [h2]; rfl
    · rw [plainer, if_neg hb, lines, if_neg (by simpa using hb)]
      cases skip with
      | true =>
        have hcut : cutC cur = cutC (cur ++ [b]) := by rw [cutC_app, if_neg (by rw [hk]; decide)]
        rw [Bool.true_or, if_pos rfl, hcut]
        exact plainer_lines l (cur ++ [b]) true (by rw [List.all_append, hk]; rfl)
      | false =>
        rw [Bool.false_or]
        by_cases h59 : b = 59
        · subst h59
          have hcut : cutC cur = cutC (cur ++ [59]) := by
            rw [cutC_app, if_pos (by rw [hk]; rfl), cutC_all (by rw [hk]; rfl)]
            simp [cutC]
          rw [if_pos (by decide), hcut]
          exact plainer_lines l (cur ++ [59]) true (by rw [List.all_append, hk]; rfl)
        · rw [if_neg (by simpa using h59), lines, if_neg (by simpa using hb)]
          have hall : (cur ++ [b]).all (· != 59) = true := by rw [List.all_append, hk]; simp [h59]
          have hcut : cutC cur ++ [b] = cutC (cur ++ [b]) := by rw [cutC_all hall, cutC_all (by rw [hk]; rfl)]
          rw [hcut]
          exact plainer_lines l (cur ++ [b]) false hall
theorem cutC_mem : ∀ (l : Bytes) (b : UInt8), b ∈ cutC l → b ≠ 59
  | [], b, h => by simp [cutC] at h
  | x :: l, b, h => by
    unfold cutC at h
    rw [List.takeWhile_cons] at h
    split at h
    · rename_i hx
      rcases List.mem_cons.1 h with rfl | h
      · simpa using hx
      · exact cutC_mem l b h
    · simp at h
theorem words_cut (l : Bytes) : words (cutC l) = words l := by
  unfold words
  rw [cutC_no (cutC l) (cutC_mem l)]
theorem parse_plainer {s : Bytes} (hs : s.length ≤ 65536) (hp : (plainer false s).length ≤ 65536) : parse (plainer false s) = parse s := by
  unfold parse
  rw [if_neg (by omega), if_neg (by omega)]
  obtain ⟨h, t, h1, h2⟩ := plainer_lines s [] false rfl
  rw [show cutC [] = [] from rfl] at h2
  rw [h1, h2]
  apply rdLines_congr
  simp [words_cut]
theorem plainer_len : ∀ (l : Bytes) (skip : Bool), (plainer skip l).length ≤ l.length
  | [], _ => by simp [plainer]
  | b :: l, skip => by
    rw [plainer]
    split
    · have := plainer_len l false; simp; omega
    · split
      · have := plainer_len l true; simp; omega
      · have := plainer_len l false; simp; omega
/-- The comment that is added to a line. -/
def rem : Bytes := [32, 59, 32, 115, 116, 32, 114, 49, 32, 114, 50, 32, 51]
theorem more_lines : ∀ (l cur : Bytes), ∃ h t, lines cur l = h :: t ∧ (lines cur (more l)).map words = (h :: t).map words
  | [], cur => ⟨cur, [], rfl, rfl⟩
  | b :: l, cur => by
    by_cases hb : b = 10
    · subst hb
      obtain ⟨h, t, h1, h2⟩ := more_lines l []
      refine ⟨cur, h :: t, by rw [lines, if_pos (by decide), h1], ?_⟩
      rw [more, if_pos rfl, show [32, 59, 32, 115, 116, 32, 114, 49, 32, 114, 50, 32, 51, 10] ++ more l = rem ++ (10 :: more l) from rfl, lines_body _ _ _ (by decide), lines, if_pos (by decide), List.map_cons, h2, List.map_cons]
      congr 1
      unfold words
      rw [cutC_app]
      split
      · rename_i hc
        rw [cutC_all hc, show cutC rem = [32] from by decide]
        exact flds_blank cur []
      · rfl
    · rw [more, if_neg hb, lines, if_neg (by simpa using hb), lines, if_neg (by simpa using hb)]
      exact more_lines l (cur ++ [b])
theorem more_len : ∀ (l : Bytes), (more l).length ≤ 14 * l.length
  | [] => by simp [more]
  | b :: l => by
    rw [more]
    have := more_len l
    split
    · simp; omega
    · simp; omega
theorem parse_more {s : Bytes} (hs : s.length ≤ 400) : parse (more s) = parse s := by
  have := more_len s
  unfold parse
  rw [if_neg (by omega), if_neg (by omega)]
  obtain ⟨h, t, h1, h2⟩ := more_lines s []
  exact rdLines_congr _ _ _ _ (by rw [h1]; exact h2)
end Go.Proofs.YtgeagpplihecmaaDoor.AS
