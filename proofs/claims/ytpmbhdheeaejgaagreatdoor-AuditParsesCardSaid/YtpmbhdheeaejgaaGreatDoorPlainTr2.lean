/- The text of a trace as plain functions: lines, what the auditor reads back, line for line. -/
import Derived.Test.YtpmbhdheeaejgaaGreatDoorPlainTr
namespace Go.Proofs.YtpmbhdheeaejgaaGreatDoor.TR
open Go.Lib
open AU (Ev)
def word (k : Nat) : Bytes :=
  if k = 1 then [114, 101, 108, 101, 97, 115, 101] else if k = 2 then [100, 105, 115, 112, 97, 116, 99, 104] else if k = 3 then [102, 105, 110, 105, 115, 104] else if k = 4 then [116, 114, 97, 112]
  else if k = 5 then [99, 117, 116, 111, 102, 102] else if k = 6 then [108, 97, 116, 101] else if k = 7 then [115, 101, 110, 100] else [117, 110, 107, 110, 111, 119, 110]
def words : List Bytes := [word 1, word 2, word 3, word 4, word 5, word 6, word 7]
def kindP (w : Bytes) : Option Nat :=
  if w = word 1 then some 1 else if w = word 2 then some 2 else if w = word 3 then some 3 else if w = word 4 then some 4 else if w = word 5 then some 5 else if w = word 6 then some 6 else if w = word 7 then some 7 else none
def known (k : Nat) : Prop := 1 ≤ k ∧ k ≤ 7
theorem word_un {k : Nat} (h : ¬ known k) : word k = [117, 110, 107, 110, 111, 119, 110] := by
  unfold known at h
  unfold word
  iterate 7 rw [if_neg (by omega)]
theorem known_cases {k : Nat} (h : known k) : k = 1 ∨ k = 2 ∨ k = 3 ∨ k = 4 ∨ k = 5 ∨ k = 6 ∨ k = 7 := by
  unfold known at h
  omega
theorem kindP_word {k : Nat} (h : known k) : kindP (word k) = some k := by
  rcases known_cases h with rfl | rfl | rfl | rfl | rfl | rfl | rfl <;> decide
theorem kindP_un {k : Nat} (h : ¬ known k) : kindP (word k) = none := by
  rw [word_un h]
  decide
theorem kindP_some {w : Bytes} {k : Nat} (h : kindP w = some k) : w = word k ∧ known k := by
  unfold kindP at h
  unfold known
  split at h
  · rename_i e; injection h with h; subst h; exact ⟨e, by omega⟩
  split at h
  · rename_i e; injection h with h; subst h; exact ⟨e, by omega⟩
  split at h
  · rename_i e; injection h with h; subst h; exact ⟨e, by omega⟩
  split at h
  · rename_i e; injection h with h; subst h; exact ⟨e, by omega⟩
  split at h
  · rename_i e; injection h with h; subst h; exact ⟨e, by omega⟩
  split at h
  · rename_i e; injection h with h; subst h; exact ⟨e, by omega⟩
  split at h
  · rename_i e; injection h with h; subst h; exact ⟨e, by omega⟩
  · cases h
theorem word_len (k : Nat) : (word k).length ≤ 8 := by
  by_cases h : known k
  · rcases known_cases h with rfl | rfl | rfl | rfl | rfl | rfl | rfl <;> decide
  · rw [word_un h]; decide
theorem word_mem (k : Nat) : ∀ b ∈ word k, 97 ≤ b.toNat := by
  by_cases h : known k
  · rcases known_cases h with rfl | rfl | rfl | rfl | rfl | rfl | rfl <;> decide
  · rw [word_un h]; decide
def flds (e : Ev) : List Bytes := [itoa e.slot, itoa e.cycle, word e.kind, itoa e.task, itoa e.job, itoa e.core, itoa e.value, itoa e.port]
def lineE (e : Ev) : Bytes := joinC 32 (flds e)
def fmt (l : List Ev) : Bytes := l.flatMap fun e => lineE e ++ [10]
structure okI (e : Ev) : Prop where
  slot : i64 e.slot
  cycle : i64 e.cycle
  task : i64 e.task
  job : i64 e.job
  core : i64 e.core
  value : i64 e.value
  port : i64 e.port
theorem flds_mem (e : Ev) : ∀ w ∈ flds e, ∀ b ∈ w, b.toNat ≠ 32 ∧ b.toNat ≠ 10 := by
  have hi : ∀ n : Int, ∀ b ∈ itoa n, b.toNat ≠ 32 ∧ b.toNat ≠ 10 := fun n b hb => by
    have := itoa_mem n b hb
    omega
  have hw : ∀ b ∈ word e.kind, b.toNat ≠ 32 ∧ b.toNat ≠ 10 := fun b hb => by
    have := word_mem e.kind b hb
    omega
  intro w hw'
  unfold flds at hw'
  simp only [List.mem_cons, List.not_mem_nil, or_false] at hw'
  rcases hw' with rfl | rfl | rfl | rfl | rfl | rfl | rfl | rfl
  · exact hi _
  · exact hi _
  · exact hw
  · exact hi _
  · exact hi _
  · exact hi _
  · exact hi _
  · exact hi _
theorem ne32 {b : UInt8} (h : b.toNat ≠ 32) : b ≠ 32 := fun e => h (by rw [e]; rfl)
theorem ne10 {b : UInt8} (h : b.toNat ≠ 10) : b ≠ 10 := fun e => h (by rw [e]; rfl)
theorem joinC_mem {c : UInt8} : ∀ (ws : List Bytes) (b : UInt8), b ∈ joinC c ws → b = c ∨ ∃ w ∈ ws, b ∈ w
  | [], b, h => by simp [joinC] at h
  | [w], b, h => .inr ⟨w, by simp, h⟩
  | w :: v :: ws, b, h => by
    rw [join_cons (by simp), List.mem_append, List.mem_cons] at h
    rcases h with h | h | h
    · exact .inr ⟨w, by simp, h⟩
    · exact .inl h
    · rcases joinC_mem (v :: ws) b h with h | ⟨x, h1, h2⟩
      · exact .inl h
      · exact .inr ⟨x, by simp [h1], h2⟩
theorem line_mem (e : Ev) : ∀ b ∈ lineE e, b ≠ 10 := by
  intro b hb
  rcases joinC_mem _ b hb with rfl | ⟨w, h1, h2⟩
  · decide
  · exact ne10 (flds_mem e w h1 b h2).2
theorem parts_line (e : Ev) : parts 32 [] (lineE e) = flds e := parts_join _ (by simp [flds]) (fun w hw b hb => ne32 (flds_mem e w hw b hb).1)
def mkP (k : Nat) (a b d e f g h : Bytes) : Option Ev := (numP a).bind fun x0 => (numP b).bind fun x1 => (numP d).bind fun x3 => (numP e).bind fun x4 => (numP f).bind fun x5 => (numP g).bind fun x6 => (numP h).bind fun x7 => some ⟨x0, x5, x3, x4, k, x6, x1, x7⟩
def parseP (line : Bytes) : Option Ev := match parts 32 [] line with
  | [a, b, c, d, e, f, g, h] => (kindP c).bind fun k => mkP k a b d e f g h
  | _ => none
theorem parse_line {e : Ev} (hk : known e.kind) (hi : okI e) : parseP (lineE e) = some e := by
  unfold parseP
  rw [parts_line]
  unfold flds mkP
  simp only
  rw [kindP_word hk, numP_itoa hi.slot, numP_itoa hi.cycle, numP_itoa hi.task, numP_itoa hi.job, numP_itoa hi.core, numP_itoa hi.value, numP_itoa hi.port]
  rfl
theorem parse_un {e : Ev} (hk : ¬ known e.kind) : parseP (lineE e) = none := by
  unfold parseP
  rw [parts_line]
  unfold flds
  simp only
  rw [kindP_un hk]
  rfl
theorem parse_some {s : Bytes} {e : Ev} (h : parseP s = some e) : s = lineE e ∧ known e.kind ∧ okI e := by
  have hj := join_parts 32 s []
  unfold parseP at h
  split at h
  · rename_i a b c d e' f g i hp
    rw [hp, List.nil_append] at hj
    obtain ⟨k, h0, h⟩ := Option.bind_eq_some_iff.1 h
    unfold mkP at h
    obtain ⟨x0, h1, h⟩ := Option.bind_eq_some_iff.1 h
    obtain ⟨x1, h2, h⟩ := Option.bind_eq_some_iff.1 h
    obtain ⟨x3, h3, h⟩ := Option.bind_eq_some_iff.1 h
    obtain ⟨x4, h4, h⟩ := Option.bind_eq_some_iff.1 h
    obtain ⟨x5, h5, h⟩ := Option.bind_eq_some_iff.1 h
    obtain ⟨x6, h6, h⟩ := Option.bind_eq_some_iff.1 h
    obtain ⟨x7, h7, h⟩ := Option.bind_eq_some_iff.1 h
    injection h with h
    subst h
    obtain ⟨k1, k2⟩ := kindP_some h0
    obtain ⟨a1, a2⟩ := numP_some h1
    obtain ⟨b1, b2⟩ := numP_some h2
    obtain ⟨c1, c2⟩ := numP_some h3
    obtain ⟨d1, d2⟩ := numP_some h4
    obtain ⟨e1, e2⟩ := numP_some h5
    obtain ⟨f1, f2⟩ := numP_some h6
    obtain ⟨g1, g2⟩ := numP_some h7
    refine ⟨?_, k2, a2, b2, c2, d2, e2, f2, g2⟩
    rw [← hj]
    unfold lineE flds
    simp only
    rw [← k1, ← a1, ← b1, ← c1, ← d1, ← e1, ← f1, ← g1]
  · cases h
/-! The lines of a text. -/
def runP : Nat → Bytes → Nat → List Ev → List Ev × Nat × Nat
  | 0, _, _, acc => (acc, 0, 0)
  | f + 1, s, n, acc => if s = [] then (acc, 0, 0) else match parseP (cutP 10 [] s).1 with
    | none => ([], n, 3)
    | some e => if (cutP 10 [] s).2.2 = false then ([], n, 4) else runP f (cutP 10 [] s).2.1 (n + 1) (acc ++ [e])
theorem cutP_line {a r : Bytes} (h : ∀ b ∈ a, b ≠ 10) : cutP 10 [] (a ++ 10 :: r) = (a, r, true) := by
  rw [cutP_body a _ [] h, List.nil_append, cutP]
  rfl
theorem cutP_end {a : Bytes} (h : ∀ b ∈ a, b ≠ 10) : cutP 10 [] a = (a, [], false) := by
  have := cutP_body (c := 10) a [] [] h
  rw [List.append_nil, List.nil_append] at this
  rw [this]
  rfl
theorem cutP_split (s : Bytes) : (∃ a r, s = a ++ 10 :: r ∧ (∀ b ∈ a, b ≠ 10) ∧ cutP 10 [] s = (a, r, true)) ∨ ((∀ b ∈ s, b ≠ 10) ∧ cutP 10 [] s = (s, [], false)) := by
  rcases index_one 10 s with ⟨_, h⟩ | ⟨a, r, h1, h2, _⟩
  · exact .inr ⟨h, cutP_end h⟩
  · refine .inl ⟨a, r, h1, h2, ?_⟩
    rw [h1]
    exact cutP_line h2
theorem fmt_cons (e : Ev) (l : List Ev) : fmt (e :: l) = lineE e ++ 10 :: fmt l := by simp [fmt]
theorem fmt_snoc (l : List Ev) (e : Ev) : fmt (l ++ [e]) = fmt l ++ (lineE e ++ [10]) := by simp [fmt]
instance (k : Nat) : Decidable (known k) := inferInstanceAs (Decidable (_ ∧ _))
/-- The first event of an unknown kind, from 1; 0 if there is none. -/
def firstBad : List Ev → Nat
  | [] => 0
  | e :: l => if known e.kind then (if firstBad l = 0 then 0 else firstBad l + 1) else 1
theorem run_fmt : ∀ (l : List Ev) (f n : Nat) (acc : List Ev), (∀ e ∈ l, okI e) → (fmt l).length < f → runP f (fmt l) n acc = if firstBad l = 0 then (acc ++ l, 0, 0) else ([], n + firstBad l - 1, 3)
  | [], f + 1, n, acc, _, _ => by simp [runP, fmt, firstBad]
  | [], 0, _, _, _, h => by omega
  | e :: l, 0, _, _, _, h => by omega
  | e :: l, f + 1, n, acc, hi, h => by
    rw [fmt_cons] at h ⊢
    rw [runP, if_neg (by simp), cutP_line (line_mem e)]
    simp only
    by_cases hk : known e.kind
    · rw [parse_line hk (hi e (by simp))]
      simp only [Bool.true_eq_false, if_false]
      rw [run_fmt l f (n + 1) (acc ++ [e]) (fun x hx => hi x (by simp [hx])) (by simp at h; omega)]
      have hf : firstBad (e :: l) = if firstBad l = 0 then 0 else firstBad l + 1 := by rw [firstBad, if_pos hk]
      rw [hf]
      by_cases h0 : firstBad l = 0
      · rw [if_pos h0, if_pos h0]; simp
      · rw [if_neg h0, if_neg h0]
        simp only [Nat.add_eq_zero_iff, Nat.succ_ne_self, and_false, if_false]
        rw [show n + 1 + firstBad l - 1 = n + (firstBad l + 1) - 1 from by omega]
    · rw [parse_un hk]
      simp only
      have hf : firstBad (e :: l) = 1 := by rw [firstBad, if_neg hk]
      rw [hf]
      simp
/-- What is read is the text of what is returned. -/
theorem run_ok : ∀ (f : Nat) (s : Bytes) (n : Nat) (acc l : List Ev) (at_ : Nat), s.length < f → runP f s n acc = (l, at_, 0) → at_ = 0 ∧ ∃ l', l = acc ++ l' ∧ s = fmt l' ∧ ∀ e ∈ l', known e.kind ∧ okI e
  | 0, _, _, _, _, _, h, _ => by omega
  | f + 1, s, n, acc, l, at_, h, hr => by
    rw [runP] at hr
    by_cases h0 : s = []
    · rw [if_pos h0] at hr
      injection hr with h1 h2
      injection h2 with h2 h3
      exact ⟨h2.symm, [], by simp [← h1], by rw [h0]; rfl, fun e he => by simp at he⟩
    · rw [if_neg h0] at hr
      split at hr
      · injection hr with _ h2
        injection h2 with _ h3
        cases h3
      · rename_i e he
        rcases cutP_split s with ⟨a, r, h1, h2, h3⟩ | ⟨_, h3⟩
        · rw [h3] at hr he
          simp only [Bool.true_eq_false, if_false] at hr he
          obtain ⟨q0, l', q1, q2, q3⟩ := run_ok f r (n + 1) (acc ++ [e]) l at_ (by rw [h1] at h; simp at h; omega) hr
          obtain ⟨p1, p2, p3⟩ := parse_some he
          refine ⟨q0, e :: l', by rw [q1]; simp, by rw [h1, fmt_cons, p1, q2], fun x hx => ?_⟩
          rcases List.mem_cons.1 hx with rfl | hx
          · exact ⟨p2, p3⟩
          · exact q3 x hx
        · rw [h3] at hr
          simp at hr
/-- Where the reading stops at a line. -/
theorem run_err : ∀ (f : Nat) (s : Bytes) (n : Nat) (acc l : List Ev) (at_ er : Nat), s.length < f → runP f s n acc = (l, at_, er) → er ≠ 0 →
    l = [] ∧ ∃ l' line rest, s = fmt l' ++ (line ++ rest) ∧ (∀ e ∈ l', known e.kind ∧ okI e) ∧ at_ = n + l'.length ∧ (∀ b ∈ line, b ≠ 10) ∧ line ++ rest ≠ [] ∧
      ((er = 3 ∧ parseP line = none ∧ (rest = [] ∨ ∃ r, rest = 10 :: r)) ∨ (er = 4 ∧ rest = [] ∧ ∃ e, parseP line = some e))
  | 0, _, _, _, _, _, _, h, _, _ => by omega
  | f + 1, s, n, acc, l, at_, er, h, hr, hne => by
    rw [runP] at hr
    by_cases h0 : s = []
    · rw [if_pos h0] at hr
      injection hr with _ h2
      injection h2 with _ h3
      exact absurd h3.symm hne
    · rw [if_neg h0] at hr
      rcases cutP_split s with ⟨a, r, h1, h2, h3⟩ | ⟨h2, h3⟩
      · rw [h3] at hr
        simp only [Bool.true_eq_false, if_false] at hr
        cases he : parseP a with
        | none =>
          rw [he] at hr
          injection hr with q1 q2
          injection q2 with q2 q3
          exact ⟨q1.symm, [], a, 10 :: r, by rw [h1]; rfl, fun e he => by simp at he, by simp [← q2], h2, by simp, .inl ⟨q3.symm, he, .inr ⟨r, rfl⟩⟩⟩
        | some e =>
          rw [he] at hr
          obtain ⟨q0, l', line, rest, q1, q2, q3, q4, q5, q6⟩ := run_err f r (n + 1) (acc ++ [e]) l at_ er (by rw [h1] at h; simp at h; omega) hr hne
          obtain ⟨p1, p2, p3⟩ := parse_some he
          refine ⟨q0, e :: l', line, rest, by rw [h1, fmt_cons, p1, q1]; simp, fun x hx => ?_, by rw [q3]; simp; omega, q4, q5, q6⟩
          rcases List.mem_cons.1 hx with rfl | hx
          · exact ⟨p2, p3⟩
          · exact q2 x hx
      · rw [h3] at hr
        simp only [if_true] at hr
        cases he : parseP s with
        | none =>
          rw [he] at hr
          injection hr with q1 q2
          injection q2 with q2 q3
          exact ⟨q1.symm, [], s, [], by simp [fmt], fun e he => by simp at he, by simp [← q2], h2, by simpa using h0, .inl ⟨q3.symm, he, .inl rfl⟩⟩
        | some e =>
          rw [he] at hr
          injection hr with q1 q2
          injection q2 with q2 q3
          exact ⟨q1.symm, [], s, [], by simp [fmt], fun e he => by simp at he, by simp [← q2], h2, by simpa using h0, .inr ⟨q3.symm, rfl, e, he⟩⟩
end Go.Proofs.YtpmbhdheeaejgaaGreatDoor.TR
