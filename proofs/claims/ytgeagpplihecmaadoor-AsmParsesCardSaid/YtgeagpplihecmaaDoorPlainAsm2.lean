/- The text of code is read as that code. -/
import Derived.Test.YtgeagpplihecmaaDoorPlainAsm
namespace Go.Proofs.YtgeagpplihecmaaDoor.AS
open Go.Lib (itoa decDigits nDigits)
theorem dig_nat {u : Nat} (h : u < 10) : (UInt8.ofNat (48 + u)).toNat = 48 + u := by
  rw [UInt8.toNat_ofNat']; omega
theorem dec_small {u : Nat} (h : u < 10) : decDigits u = [UInt8.ofNat (48 + u)] := by rw [decDigits, dif_pos h]
theorem dec_big {u : Nat} (h : ¬ u < 10) : decDigits u = decDigits (u / 10) ++ [UInt8.ofNat (48 + u % 10)] := by rw [decDigits, dif_neg h]
theorem dec_ne (u : Nat) : decDigits u ≠ [] := by
  by_cases h : u < 10
  · rw [dec_small h]; simp
  · rw [dec_big h]; simp
theorem dec_all (u : Nat) : (decDigits u).all isDig = true := by
  induction u using Nat.strongRecOn with
  | _ u ih =>
    by_cases h : u < 10
    · rw [dec_small h]
      simp [isDig]; omega
    · rw [dec_big h, List.all_append, ih (u / 10) (by omega)]
      simp [isDig]; omega
theorem val_app (a : Bytes) (b : UInt8) : val (a ++ [b]) = val a * 10 + (b.toNat - 48) := by simp [val]
theorem val_dec (u : Nat) : val (decDigits u) = u := by
  induction u using Nat.strongRecOn with
  | _ u ih =>
    by_cases h : u < 10
    · rw [dec_small h]
      simp [val]; omega
    · rw [dec_big h, val_app, ih (u / 10) (by omega), dig_nat (show u % 10 < 10 from by omega)]
      omega
theorem dec_head (u : Nat) (h : 1 ≤ u) : (decDigits u).head? ≠ some 48 := by
  induction u using Nat.strongRecOn with
  | _ u ih =>
    by_cases h10 : u < 10
    · rw [dec_small h10]
      simp only [List.head?_cons, ne_eq, Option.some.injEq]
      intro e
      have := congrArg UInt8.toNat e
      rw [dig_nat h10] at this
      simp at this
      omega
    · rw [dec_big h10, List.head?_append]
      have := ih (u / 10) (by omega) (by omega)
      cases hd : (decDigits (u / 10)).head? with
      | none => exact absurd (List.head?_eq_none_iff.1 hd) (dec_ne _)
      | some x => rw [hd] at this; simpa using this
theorem dec_len {u k : Nat} (hk : 1 ≤ k) (h : u < 10 ^ k) : (decDigits u).length ≤ k := by
  induction k generalizing u with
  | zero => omega
  | succ k ih =>
    by_cases h10 : u < 10
    · rw [dec_small h10]; simp
    · rw [dec_big h10, List.length_append]
      have hp : u / 10 < 10 ^ k := by rw [Nat.pow_succ] at h; omega
      by_cases hk0 : k = 0
      · subst hk0; simp at hp; omega
      · have := ih (by omega) hp
        simp; omega
theorem dec_hd_not (u : Nat) {x : UInt8} (hx : isDig x = false) : (decDigits u).head? ≠ some x := by
  intro e
  have h := dec_all u
  cases hd : decDigits u with
  | nil => exact dec_ne u hd
  | cons a l =>
    rw [hd] at e h
    simp at e
    subst e
    simp [hx] at h
theorem num_dec {u : Nat} (h : u < 1000000000) : num (decDigits u) = some (u : Int) := by
  have h45 := dec_hd_not u (x := 45) (by decide)
  have hd : digs (decDigits u) = decDigits u := by unfold digs; rw [if_neg h45]
  unfold num
  rw [hd, if_neg, if_neg h45, val_dec]
  rintro (h1 | h1 | ⟨h1, h2⟩ | h1)
  · exact dec_ne u h1
  · have := dec_len (u := u) (k := 9) (by omega) (by omega); omega
  · rcases h2 with h2 | h2
    · by_cases h10 : u < 10
      · rw [dec_small h10] at h2; simp at h2
      · exact dec_head u (by omega) h1
    · exact h45 h2
  · rw [dec_all] at h1; cases h1
theorem num_itoa {n : Int} (h1 : -1000000000 < n) (h2 : n < 1000000000) : num (itoa n) = some n := by
  unfold itoa
  by_cases hn : n < 0
  · rw [if_pos hn]
    have hd : digs (45 :: decDigits n.natAbs) = decDigits n.natAbs := by simp [digs]
    unfold num
    rw [hd, if_neg, if_pos (by simp), val_dec]
    · congr 1; omega
    · rintro (h1 | h1 | ⟨h1, _⟩ | h1)
      · exact dec_ne _ h1
      · have := dec_len (u := n.natAbs) (k := 9) (by omega) (by omega); omega
      · exact dec_head _ (by omega) h1
      · rw [dec_all] at h1; cases h1
  · rw [if_neg hn, num_dec (by omega)]
    congr 1; omega
/-- A byte that may stand in a word: no blank, no semicolon, no line feed. -/
def inWord (b : UInt8) : Bool := !isBl b && (b != 59 && b != 10)
theorem dig_inWord {b : UInt8} (h : isDig b = true) : inWord b = true := by
  unfold isDig at h
  simp only [Bool.and_eq_true, decide_eq_true_iff] at h
  have hne : ∀ c : UInt8, (c.toNat < 48 ∨ 57 < c.toNat) → b ≠ c := fun c hc e => by subst e; omega
  have e1 := hne 32 (by decide)
  have e2 := hne 9 (by decide)
  have e3 := hne 59 (by decide)
  have e4 := hne 10 (by decide)
  simp [inWord, isBl, e1, e2, e3, e4]
theorem dec_inWord (u : Nat) : (decDigits u).all inWord = true := by
  have := dec_all u
  rw [List.all_eq_true] at this ⊢
  exact fun x hx => dig_inWord (this x hx)
theorem itoa_inWord (n : Int) : (itoa n).all inWord = true := by
  unfold itoa
  split
  · rw [List.all_cons, dec_inWord]; decide
  · exact dec_inWord _
theorem itoa_ne (n : Int) : itoa n ≠ [] := by
  unfold itoa
  split
  · simp
  · exact dec_ne _
theorem word_inWord (i : Ins) (k : Nat) : (word i k).all inWord = true ∧ word i k ≠ [] := by
  unfold word
  split
  · exact ⟨itoa_inWord _, itoa_ne _⟩
  · refine ⟨?_, by simp⟩
    rw [List.all_cons, itoa_inWord]; decide
theorem name_ok : ∀ op : Nat, op < 30 → (name op).all inWord = true ∧ name op ≠ [] ∧ opIx names (name op) = some op ∧ (name op).length ≤ 6 := by decide +kernel
/-- Words with a blank ahead of each but the first. -/
theorem flds_word : ∀ (w cur r : Bytes), w.all inWord = true → flds cur (w ++ r) = flds (cur ++ w) r
  | [], cur, r, _ => by simp
  | b :: w, cur, r, h => by
    rw [List.all_cons, Bool.and_eq_true] at h
    have hb : isBl b = false := by
      have := h.1
      unfold inWord at this
      simp only [Bool.and_eq_true, Bool.not_eq_true'] at this
      exact this.1
    rw [List.cons_append, flds, if_neg (by simp [hb]), flds_word w _ r h.2]
    simp
theorem flds_tail : ∀ (ws : List Bytes) (cur : Bytes), cur ≠ [] → (∀ w ∈ ws, w.all inWord = true ∧ w ≠ []) → flds cur (ws.flatMap (fun w => 32 :: w)) = cur :: ws
  | [], cur, hc, _ => by
    simp [flds, hc]
  | w :: ws, cur, hc, h => by
    obtain ⟨h1, h2⟩ := h w (by simp)
    rw [List.flatMap_cons, List.cons_append, flds, if_pos (by decide), if_neg (by simpa using hc), flds_word w [] _ h1, List.nil_append, flds_tail ws w h2 (fun x hx => h x (by simp [hx]))]
/-- The line of an instruction without its line feed. -/
def body (i : Ins) : Bytes := name i.op ++ (shape i.op).flatMap (fun k => 32 :: word i k)
theorem body_words (i : Ins) : body i = name i.op ++ ((shape i.op).map (word i)).flatMap (fun w => 32 :: w) := by
  unfold body; rw [List.flatMap_map]
theorem line_body (i : Ins) : line i = body i ++ [10] := rfl
theorem body_no (i : Ins) (h : i.op < 30) {b : UInt8} (hb : b ∈ body i) : b ≠ 59 ∧ b ≠ 10 := by
  have key : ∀ w : Bytes, w.all inWord = true → b ∈ w → b ≠ 59 ∧ b ≠ 10 := fun w hw hm => by
    have := List.all_eq_true.1 hw b hm
    unfold inWord at this
    simp only [Bool.and_eq_true, bne_iff_ne] at this
    exact this.2
  unfold body at hb
  rcases List.mem_append.1 hb with hb | hb
  · exact key _ (name_ok _ h).1 hb
  · obtain ⟨k, _, hk⟩ := List.mem_flatMap.1 hb
    rcases List.mem_cons.1 hk with rfl | hk
    · exact ⟨by decide, by decide⟩
    · exact key _ (word_inWord i k).1 hk
theorem cutC_no : ∀ (l : Bytes), (∀ b ∈ l, b ≠ 59) → cutC l = l
  | [], _ => rfl
  | b :: l, h => by
    unfold cutC at *
    rw [List.takeWhile_cons, if_pos (by simpa using h b (by simp))]
    exact congrArg _ (cutC_no l (fun x hx => h x (by simp [hx])))
theorem words_body (i : Ins) (h : i.op < 30) : words (body i) = name i.op :: (shape i.op).map (word i) := by
  unfold words
  rw [cutC_no _ (fun b hb => (body_no i h hb).1), body_words, flds_word _ _ _ (name_ok _ h).1, List.nil_append]
  exact flds_tail _ _ (name_ok _ h).2.1 (fun w hw => by
    obtain ⟨k, _, rfl⟩ := List.mem_map.1 hw
    exact word_inWord i k)
theorem valid_lt {i : Ins} (h : valid i = true) : i.op < 30 := by
  unfold valid at h
  simp only [Bool.and_eq_true, decide_eq_true_iff] at h
  exact h.1
theorem inside_eq (i : Ins) (k : Nat) : inside i k = (decide ((if (shape i.op).contains k then (if k = 3 then lo i.op else 0) else 0) ≤ i.get k) && decide (i.get k ≤ (if (shape i.op).contains k then (if k = 3 then hi i.op else 15) else 0))) := by
  unfold inside limLo limHi
  cases (shape i.op).contains k <;> by_cases h : k = 3 <;> simp [h]
theorem valid_no {i : Ins} {k : Nat} (hk : k < 4) (h : inside i k = false) : valid i = false := by
  unfold valid
  have : k = 0 ∨ k = 1 ∨ k = 2 ∨ k = 3 := by omega
  rcases this with rfl | rfl | rfl | rfl <;> simp [h]
theorem valid_yes {i : Ins} (h30 : i.op < 30) (h : ∀ j, j < 4 → inside i j = true) : valid i = true := by
  unfold valid
  rw [h 0 (by omega), h 1 (by omega), h 2 (by omega), h 3 (by omega)]
  simp [h30]
theorem lim_small (op k : Nat) : -131072 ≤ limLo op k ∧ limHi op k ≤ 131071 := by
  unfold limLo limHi lo hi
  constructor <;> (repeat' split) <;> omega
theorem valid_in {i : Ins} (h : valid i = true) {k : Nat} (hk : k ≤ 3) : limLo i.op k ≤ i.get k ∧ i.get k ≤ limHi i.op k := by
  unfold valid at h
  simp only [Bool.and_eq_true, decide_eq_true_iff, inside] at h
  obtain ⟨_, h0, h1, h2, h3⟩ := h
  have : k = 0 ∨ k = 1 ∨ k = 2 ∨ k = 3 := by omega
  rcases this with rfl | rfl | rfl | rfl
  · exact h0
  · exact h1
  · exact h2
  · exact h3
theorem shape_le : ∀ op : Nat, ∀ k ∈ shape op, k ≤ 3 := by
  intro op k hk
  unfold shape at hk
  repeat' split at hk
  all_goals first | (simp at hk; done) | (simp at hk; omega)
theorem reg_itoa {n : Int} (h1 : 0 ≤ n) (h2 : n < 1000000000) : reg (114 :: itoa n) = some n := by
  unfold reg
  rw [if_pos]
  · exact num_itoa (by omega) h2
  · refine ⟨rfl, ?_⟩
    have : itoa n = decDigits n.toNat := by unfold itoa; rw [if_neg (by omega)]
    rw [List.tail_cons, this]
    exact dec_hd_not _ (by decide)
theorem limLo_reg (op k : Nat) (h : k < 3) : limLo op k = 0 := by
  unfold limLo
  rw [if_neg (by simp; omega)]
theorem rd_word {i : Ins} (h : valid i = true) {k : Nat} (hk : k ≤ 3) : rd k (word i k) = some (i.get k) := by
  obtain ⟨h1, h2⟩ := valid_in h hk
  obtain ⟨l1, l2⟩ := lim_small i.op k
  unfold rd word
  by_cases h3 : k = 3
  · subst h3
    rw [if_pos rfl, if_pos rfl]
    have : i.get 3 = i.imm := rfl
    rw [this] at h1 h2 ⊢
    exact num_itoa (by omega) (by omega)
  · rw [if_neg h3, if_neg h3]
    rw [limLo_reg _ _ (by omega)] at h1
    exact reg_itoa h1 (by omega)
/-- The operands that are read fill the instruction. -/
def fill (i : Ins) : List Nat → Ins → Ins
  | [], j => j
  | k :: ks, j => fill i ks (j.put k (i.get k))
theorem rdAll_words {i : Ins} (h : valid i = true) : ∀ (ks : List Nat) (j : Ins), (∀ k ∈ ks, k ≤ 3) → rdAll ks (ks.map (word i)) j = some (fill i ks j)
  | [], _, _ => rfl
  | k :: ks, j, hk => by
    rw [List.map_cons, rdAll, rd_word h (hk k (by simp))]
    simp only [Option.bind_some, fill]
    exact rdAll_words h ks _ (fun x hx => hk x (by simp [hx]))
theorem fill_all {i : Ins} (h : valid i = true) : fill i (shape i.op) { Ins.zero with op := i.op } = i := by
  have h0 : ∀ k, k ≤ 3 → (shape i.op).contains k = false → i.get k = 0 := fun k hk hn => by
    obtain ⟨h1, h2⟩ := valid_in h hk
    unfold limLo at h1; unfold limHi at h2
    rw [hn] at h1 h2
    simp at h1 h2
    omega
  have g0 := h0 0 (by omega)
  have g1 := h0 1 (by omega)
  have g2 := h0 2 (by omega)
  have g3 := h0 3 (by omega)
  obtain ⟨op, a, b, c, imm⟩ := i
  simp only [Ins.get, if_true, Nat.reduceEqDiff, if_false] at g0 g1 g2 g3
  unfold shape at *
  dsimp only at *
  repeat' split
  all_goals simp_all [fill, Ins.put, Ins.get, Ins.zero]
theorem rdLine_words {i : Ins} (h : valid i = true) : rdLine (name i.op) ((shape i.op).map (word i)) = some i := by
  unfold rdLine
  rw [(name_ok _ (valid_lt h)).2.2.1]
  simp only [Option.bind_some, List.length_map, if_true]
  rw [rdAll_words h _ _ (shape_le _), fill_all h]
  simp [h]
theorem lines_body (b r cur : Bytes) (h : ∀ x ∈ b, x ≠ 10) : lines cur (b ++ r) = lines (cur ++ b) r := by
  induction b generalizing cur with
  | nil => simp
  | cons x b ih =>
    rw [List.cons_append, lines, if_neg (by simpa using h x (by simp)), ih _ (fun y hy => h y (by simp [hy]))]
    simp
theorem lines_fmt (l : List Ins) (h : l.all valid = true) (r : Bytes) : lines [] (fmtL l ++ r) = l.map body ++ lines [] r := by
  induction l with
  | nil => rfl
  | cons i l ih =>
    rw [List.all_cons, Bool.and_eq_true] at h
    have e : fmtL (i :: l) ++ r = body i ++ (10 :: (fmtL l ++ r)) := by simp [fmtL, line_body]
    rw [e, lines_body _ _ _ (fun x hx => (body_no i (valid_lt h.1) hx).2), List.nil_append, lines, if_pos (by decide), ih h.2]
    rfl
theorem rdLines_fmt : ∀ (l : List Ins), l.all valid = true → ∀ (ls : List Bytes) (k : Nat) (acc : List Ins), acc.length + l.length ≤ 4096 → rdLines (l.map body ++ ls) k acc = rdLines ls (k + l.length) (acc ++ l)
  | [], _, ls, k, acc, _ => by simp
  | i :: l, h, ls, k, acc, hl => by
    rw [List.all_cons, Bool.and_eq_true] at h
    simp only [List.length_cons] at hl
    rw [List.map_cons, List.cons_append, rdLines, words_body i (valid_lt h.1)]
    simp only [rdLine_words h.1]
    rw [if_neg (by omega), rdLines_fmt l h.2 ls (k + 1) (acc ++ [i]) (by simp; omega)]
    rw [List.append_assoc, show k + 1 + l.length = k + (i :: l).length from by simp only [List.length_cons]; omega]
    rfl
theorem itoa_len {n : Int} (h1 : -131072 ≤ n) (h2 : n ≤ 131071) : (itoa n).length ≤ 7 := by
  unfold itoa
  split
  · have := dec_len (u := n.natAbs) (k := 6) (by omega) (by omega); simp; omega
  · have := dec_len (u := n.toNat) (k := 6) (by omega) (by omega); omega
theorem word_len {i : Ins} (h : valid i = true) {k : Nat} (hk : k ≤ 3) : (word i k).length ≤ 8 := by
  obtain ⟨h1, h2⟩ := valid_in h hk
  obtain ⟨l1, l2⟩ := lim_small i.op k
  have := itoa_len (n := i.get k) (by omega) (by omega)
  unfold word
  split
  · rename_i e; subst e
    have : i.get 3 = i.imm := rfl
    rw [← this]; omega
  · simp; omega
theorem flat_len {α : Type} (f : α → Bytes) (c : Nat) : ∀ (l : List α), (∀ x ∈ l, (f x).length ≤ c) → (l.flatMap f).length ≤ c * l.length
  | [], _ => by simp
  | x :: l, h => by
    have h1 := h x (by simp)
    have h2 := flat_len f c l (fun y hy => h y (by simp [hy]))
    simp only [List.flatMap_cons, List.length_append, List.length_cons]
    rw [Nat.mul_succ]; omega
theorem shape_len (op : Nat) : (shape op).length ≤ 3 := by
  unfold shape
  repeat' split
  all_goals simp
theorem line_len {i : Ins} (h : valid i = true) : (line i).length ≤ 34 := by
  have h1 := (name_ok _ (valid_lt h)).2.2.2
  have h2 := flat_len (fun k => 32 :: word i k) 9 (shape i.op) (fun k hk => by have := word_len h (shape_le _ k hk); simp; omega)
  have h3 := shape_len i.op
  have h4 : 9 * (shape i.op).length ≤ 27 := by omega
  unfold line
  simp only [List.length_append, List.length_cons, List.length_nil]
  omega
theorem fmt_len {l : List Ins} (h : l.all valid = true) : (fmtL l).length ≤ 34 * l.length := flat_len line 34 l (fun i hi => line_len (List.all_eq_true.1 h i hi))
/-- The text of valid code is parsed as that code. -/
theorem parse_fmt {l : List Ins} (h : l.all valid = true) (hl : l.length ≤ 4096) (hs : (fmtL l).length ≤ 65536) : parse (fmtL l) = (l, 0, 0) := by
  unfold parse
  rw [if_neg (by omega)]
  have := lines_fmt l h []
  rw [List.append_nil] at this
  rw [this, rdLines_fmt l h _ 0 [] (by simpa using hl)]
  simp [lines, rdLines, words, cutC, flds]
end Go.Proofs.YtgeagpplihecmaaDoor.AS
