/- The lines of a printed block: their number, braces, indentation (plain law of PrinterLines). -/
import Derived.Test.YtkeehpgnljieeaaDoorPlainTok
namespace Go.Proofs.YtkeehpgnljieeaaDoor.PP
open PL
/-- What the law's loop over the bytes knows: depth, tabs, whether a line begins, lines. -/
structure Ls where
  d : Int
  t : Int
  s : Bool
  n : Nat
  deriving DecidableEq
def lsPost (x : Ls) (c : UInt8) : Ls := if c = 123 then ⟨x.d + 1, x.t, x.s, x.n⟩ else if c = 125 then ⟨x.d - 1, x.t, x.s, x.n⟩ else if c = 10 then ⟨x.d, 0, true, x.n + 1⟩ else x
def lsStep (x : Ls) (c : UInt8) : Option Ls :=
  if x.s then
    if c = 9 then some ⟨x.d, x.t + 1, true, x.n⟩
    else if x.t ≠ (if c = 125 then x.d - 1 else x.d) ∨ c = 10 then none
    else some (lsPost ⟨x.d, x.t, false, x.n⟩ c)
  else some (lsPost x c)
def scan : Ls → List UInt8 → Option Ls
  | x, [] => some x
  | x, c :: l => (lsStep x c).bind fun y => scan y l
theorem scan_app : ∀ (a b : List UInt8) (x : Ls), scan x (a ++ b) = (scan x a).bind fun y => scan y b
  | [], b, x => rfl
  | c :: a, b, x => by
    rw [List.cons_append, scan, scan]
    cases lsStep x c with
    | none => rfl
    | some y => exact scan_app a b y
theorem scan_tabs (d : Int) (n : Nat) : ∀ (i : Nat) (t : Int), scan ⟨d, t, true, n⟩ (tabs i) = some ⟨d, t + i, true, n⟩
  | 0, t => by simp [tabs, scan]
  | i + 1, t => by
    have ih := scan_tabs d n i (t + 1)
    unfold tabs at ih ⊢
    rw [List.replicate_succ, scan]
    show (lsStep ⟨d, t, true, n⟩ 9).bind _ = _
    unfold lsStep
    rw [if_pos rfl, if_pos rfl, Option.bind_some, ih]
    congr 2
    omega
/-- A byte that opens no line, ends none and is no brace. -/
def good (b : UInt8) : Prop := b ≠ 9 ∧ b ≠ 10 ∧ b ≠ 123 ∧ b ≠ 125
instance (b : UInt8) : Decidable (good b) := inferInstanceAs (Decidable (_ ∧ _))
theorem post_good {b : UInt8} (h : good b) (x : Ls) : lsPost x b = x := by
  unfold lsPost
  rw [if_neg h.2.2.1, if_neg h.2.2.2, if_neg h.2.1]
theorem scan_good (d t : Int) (n : Nat) : ∀ (a : List UInt8), (∀ b ∈ a, good b) → scan ⟨d, t, false, n⟩ a = some ⟨d, t, false, n⟩
  | [], _ => rfl
  | b :: a, h => by
    rw [scan]
    show (lsStep ⟨d, t, false, n⟩ b).bind _ = _
    unfold lsStep
    rw [if_neg (by simp), post_good (h b (by simp)), Option.bind_some]
    exact scan_good d t n a (fun x hx => h x (by simp [hx]))
theorem step_in (d t : Int) (n : Nat) (c : UInt8) : lsStep ⟨d, t, false, n⟩ c = some (lsPost ⟨d, t, false, n⟩ c) := by
  unfold lsStep
  rw [if_neg (by simp)]
/-- A line of good bytes. -/
theorem scan_first {a : List UInt8} (h : ∀ b ∈ a, good b) (hne : a ≠ []) (i n : Nat) : scan ⟨i, 0, true, n⟩ (tabs i ++ a) = some ⟨i, i, false, n⟩ := by
  rw [scan_app, scan_tabs, Option.bind_some]
  cases a with
  | nil => exact absurd rfl hne
  | cons b a =>
    have hb := h b (by simp)
    rw [scan]
    unfold lsStep
    rw [if_pos rfl, if_neg hb.1, if_neg (by rw [if_neg hb.2.2.2]; simp; exact hb.2.1), post_good hb, Option.bind_some, Int.zero_add]
    exact scan_good _ _ _ a (fun x hx => h x (by simp [hx]))
theorem scan_plain {a : List UInt8} (h : ∀ b ∈ a, good b) (hne : a ≠ []) (i n : Nat) : scan ⟨i, 0, true, n⟩ (tabs i ++ a ++ [10]) = some ⟨i, 0, true, n + 1⟩ := by
  rw [scan_app, scan_first h hne, Option.bind_some]
  rfl
theorem scan_open {a : List UInt8} (h : ∀ b ∈ a, good b) (hne : a ≠ []) (i n : Nat) : scan ⟨i, 0, true, n⟩ (tabs i ++ (a ++ [123]) ++ [10]) = some ⟨((i + 1 : Nat) : Int), 0, true, n + 1⟩ := by
  rw [← List.append_assoc, scan_app, scan_app, scan_first h hne, Option.bind_some]
  rfl
theorem scan_close (i n : Nat) : scan ⟨((i + 1 : Nat) : Int), 0, true, n⟩ (tabs i ++ sCb ++ [10]) = some ⟨(i : Int), 0, true, n + 1⟩ := by
  rw [scan_app, scan_app, scan_tabs, Option.bind_some]
  simp [sCb, scan, lsStep, lsPost]
theorem scan_else (i n : Nat) : scan ⟨((i + 1 : Nat) : Int), 0, true, n⟩ (tabs i ++ sElse ++ [10]) = some ⟨((i + 1 : Nat) : Int), 0, true, n + 1⟩ := by
  rw [scan_app, scan_app, scan_tabs, Option.bind_some]
  simp [sElse, scan, lsStep, lsPost]
/-! The bytes of names, numbers, expressions. -/
theorem dig_good (n : Nat) : good (dig n) := by
  have : ∀ i, i < 10 → good (UInt8.ofNat (48 + i)) := by decide
  exact this _ (Nat.mod_lt _ (by omega))
theorem decF_good : ∀ (f n : Nat), ∀ b ∈ decF f n, good b
  | 0, _, b, h => by simp [decF] at h
  | f + 1, n, b, h => by
    rw [decF] at h
    split at h
    · rw [List.mem_singleton] at h; rw [h]; exact dig_good n
    · rw [List.mem_append, List.mem_singleton] at h
      rcases h with h | rfl
      · exact decF_good f _ b h
      · exact dig_good n
theorem dec_good (n : Nat) : ∀ b ∈ dec n, good b := decF_good 20 n
theorem symbol_good (k : Nat) : ∀ b ∈ symbol k, good b := by
  by_cases h : k < 24
  · have : ∀ i : Fin 24, ∀ b ∈ symbol i.1, good b := by decide
    exact this ⟨k, h⟩
  · unfold symbol
    rw [List.getD_eq_getElem?_getD, List.getElem?_eq_none (by simpa [opTable] using h)]
    simp
theorem wrapP_good {b : Bool} {s : List UInt8} (h : ∀ x ∈ s, good x) : ∀ x ∈ wrapP b s, good x := by
  unfold wrapP
  split
  · intro x hx
    simp only [List.mem_append, List.mem_singleton] at hx
    rcases hx with (rfl | hx) | rfl
    · decide
    · exact h x hx
    · decide
  · exact h
theorem letter_good {b : UInt8} (h : isInner b = true) : good b := by
  unfold isInner isLetter isDigit at h
  simp at h
  refine ⟨?_, ?_, ?_, ?_⟩ <;> rintro rfl <;> revert h <;> decide
theorem name_good {w : List UInt8} (h : isName w = true) : ∀ b ∈ w, good b := by
  have := name_wordB h
  cases w with
  | nil => simp
  | cons b t =>
    unfold wordB at this
    simp only [Bool.and_eq_true, List.all_eq_true] at this
    intro x hx
    rcases List.mem_cons.1 hx with rfl | hx
    · exact letter_good (by unfold isInner; rw [this.1]; rfl)
    · exact letter_good (this.2 x hx)
theorem name_ne {w : List UInt8} (h : isName w = true) : w ≠ [] := by
  rintro rfl
  simp [isName] at h
theorem prE_good : ∀ (n : Nat) (t : Tree), t.size ≤ n → okT t 101 = true → ∀ b ∈ prE t, good b
  | 0, t, hs, _ => by have := t.size_pos; omega
  | n + 1, .node k num nm kids, hs, h => by
    rcases okE_inv h with ⟨rfl, _, _, _, rfl⟩ | ⟨rfl, _, hn, rfl⟩ | ⟨rfl, _, hn, a, rfl, ha⟩ | ⟨hk, _, _, a, rfl, ha⟩ | ⟨h1, h2, _, _, a, b, rfl, ha, hb⟩
    · simp only [prE, if_true]
      exact dec_good _
    · simp only [prE]
      rw [if_neg (by omega)]
      exact name_good hn
    · simp only [Tree.size, sizeL] at hs
      have h1 := prE_good n a (by omega) ha
      simp only [prE, if_true]
      intro x hx
      simp only [List.mem_append, List.mem_singleton] at hx
      rcases hx with ((hx | rfl) | hx) | rfl
      · exact name_good hn x hx
      · decide
      · exact h1 x hx
      · decide
    · simp only [Tree.size, sizeL] at hs
      have h1 := prE_good n a (by omega) ha
      simp only [prE]
      rw [if_neg (by omega)]
      intro x hx
      rcases List.mem_append.1 hx with hx | hx
      · exact symbol_good k x hx
      · exact wrapP_good h1 x hx
    · simp only [Tree.size, sizeL] at hs
      have i1 := prE_good n a (by omega) ha
      have i2 := prE_good n b (by omega) hb
      simp only [prE]
      intro x hx
      simp only [List.mem_append, List.mem_singleton] at hx
      rcases hx with (((hx | rfl) | hx) | rfl) | hx
      · exact wrapP_good i1 x hx
      · decide
      · exact symbol_good k x hx
      · decide
      · exact wrapP_good i2 x hx
theorem goodE {t : Tree} (h : okT t 101 = true) : ∀ b ∈ prE t, good b := prE_good t.size t (Nat.le_refl _) h
theorem goodP {t : Tree} (h : okT t 112 = true) : ∀ b ∈ prE t, good b := goodE (okT_place h)
/-- The law's count: statements, and the lines of their braces. -/
def lnC (k : Nat) : Nat := if k = 40 ∨ k = 44 ∨ k = 45 then 1 else if k = 42 ∨ k = 43 ∨ k = 46 then 2 else if k = 41 then 3 else 0
mutual
def stm : Tree → Nat
  | .node k _ _ l => lnC k + stmL l
def stmL : List Tree → Nat
  | [] => 0
  | t :: l => stm t + stmL l
end
theorem stm_E : ∀ (n : Nat) (t : Tree), t.size ≤ n → okT t 101 = true → stm t = 0
  | 0, t, hs, _ => by have := t.size_pos; omega
  | n + 1, .node k num nm kids, hs, h => by
    rcases okE_inv h with ⟨rfl, _, _, _, rfl⟩ | ⟨rfl, _, hn, rfl⟩ | ⟨rfl, _, hn, a, rfl, ha⟩ | ⟨hk, _, _, a, rfl, ha⟩ | ⟨h1, h2, _, _, a, b, rfl, ha, hb⟩
    · rfl
    · rfl
    · simp only [Tree.size, sizeL] at hs
      simp [stm, stmL, lnC, stm_E n a (by omega) ha]
    · simp only [Tree.size, sizeL] at hs
      have : lnC k = 0 := by unfold lnC; rw [if_neg (by omega), if_neg (by omega), if_neg (by omega)]
      simp [stm, stmL, this, stm_E n a (by omega) ha]
    · simp only [Tree.size, sizeL] at hs
      have : lnC k = 0 := by unfold lnC; rw [if_neg (by omega), if_neg (by omega), if_neg (by omega)]
      simp [stm, stmL, this, stm_E n a (by omega) ha, stm_E n b (by omega) hb]
theorem stmE {t : Tree} (h : okT t 101 = true) : stm t = 0 := stm_E t.size t (Nat.le_refl _) h
theorem stmP {t : Tree} (h : okT t 112 = true) : stm t = 0 := stmE (okT_place h)
/-- A line all of whose parts are good. -/
theorem line_plain {ps : List (List UInt8)} (h : ∀ p ∈ ps, ∀ b ∈ p, good b) (hne : ps.flatten ≠ []) (i n : Nat) : scan ⟨i, 0, true, n⟩ (lineP i ps) = some ⟨i, 0, true, n + 1⟩ :=
  scan_plain (fun b hb => by
    obtain ⟨p, hp, hb⟩ := List.mem_flatten.1 hb
    exact h p hp b hb) hne i n
/-- A line whose last part opens a brace. -/
theorem line_open {ps : List (List UInt8)} (h : ∀ p ∈ ps, ∀ b ∈ p, good b) (i n : Nat) : scan ⟨i, 0, true, n⟩ (lineP i (ps ++ [sOb])) = some ⟨((i + 1 : Nat) : Int), 0, true, n + 1⟩ := by
  have e : lineP i (ps ++ [sOb]) = tabs i ++ ((ps.flatten ++ [32]) ++ [123]) ++ [10] := by simp [lineP, sOb]
  rw [e]
  refine scan_open (fun b hb => ?_) (by simp) i n
  rw [List.mem_append, List.mem_singleton] at hb
  rcases hb with hb | rfl
  · obtain ⟨p, hp, hb⟩ := List.mem_flatten.1 hb
    exact h p hp b hb
  · decide
theorem close_line (i n : Nat) : scan ⟨((i + 1 : Nat) : Int), 0, true, n⟩ (lineP i [sCb]) = some ⟨(i : Int), 0, true, n + 1⟩ := by
  have e : lineP i [sCb] = tabs i ++ sCb ++ [10] := by simp [lineP]
  rw [e]; exact scan_close i n
theorem else_line (i n : Nat) : scan ⟨((i + 1 : Nat) : Int), 0, true, n⟩ (lineP i [sElse]) = some ⟨((i + 1 : Nat) : Int), 0, true, n + 1⟩ := by
  have e : lineP i [sElse] = tabs i ++ sElse ++ [10] := by simp [lineP]
  rw [e]; exact scan_else i n
theorem lines_S : ∀ (n : Nat), (∀ t i m, t.size ≤ n → okT t 115 = true → scan ⟨((i : Nat) : Int), 0, true, m⟩ (prS t i) = some ⟨(i : Int), 0, true, m + stm t⟩) ∧ (∀ l i m, sizeL l ≤ n → okS l = true → scan ⟨((i : Nat) : Int), 0, true, m⟩ (prL l i) = some ⟨(i : Int), 0, true, m + stmL l⟩)
  | 0 => ⟨fun t i m hs _ => by have := t.size_pos; omega, fun l i m hs _ => by
      cases l with
      | nil => simp [prL, scan, stmL]
      | cons t l => have := t.size_pos; simp [sizeL] at hs; omega⟩
  | n + 1 => by
    obtain ⟨ihS, ihL⟩ := lines_S n
    have hS : ∀ t i m, t.size ≤ n + 1 → okT t 115 = true → scan ⟨((i : Nat) : Int), 0, true, m⟩ (prS t i) = some ⟨(i : Int), 0, true, m + stm t⟩ := by
      intro t i m hs h
      cases t with
      | node k num nm kids =>
        have blk : ∀ (x : Tree) (j m : Nat), x.size ≤ n → okT x 98 = true → scan ⟨((j : Nat) : Int), 0, true, m⟩ (prB x j) = some ⟨(j : Int), 0, true, m + stm x⟩ := by
          intro x j m hx hx2
          cases x with
          | node k' num' nm' l =>
            obtain ⟨rfl, _, _, hl⟩ := okB_inv hx2
            simp only [Tree.size] at hx
            have := ihL l j m (by omega) hl
            simpa [prB, stm, lnC] using this
        have hd := dec_good num.toNat
        rcases okS_inv h with ⟨rfl, _, _, a, b, rfl, ha, hb⟩ | ⟨rfl, _, _, a, b, c, rfl, ha, hb, hc⟩ | ⟨rfl, _, _, hn, a, rfl, ha⟩ | ⟨rfl, _, _, _, a, b, rfl, ha, hb⟩ | ⟨rfl, _, _, _, a, rfl, ha⟩ | ⟨rfl, _, _, _, a, rfl, ha⟩ | ⟨rfl, _, hn, a, rfl, ha⟩
        · simp only [prS, if_true]
          rw [line_plain (by
            intro p hp b' hb'
            simp only [List.mem_cons, List.not_mem_nil, or_false] at hp
            rcases hp with rfl | rfl | rfl | rfl
            · exact goodP ha b' hb'
            · revert b'; decide
            · exact goodE hb b' hb'
            · revert b'; decide) (by simp [sEq, sSemi]) i m]
          simp [stm, stmL, lnC, stmP ha, stmE hb]
        · simp only [Tree.size, sizeL] at hs
          simp only [prS]
          rw [scan_app, scan_app, scan_app, scan_app, show [sIf, prE a, sOb] = [sIf, prE a] ++ [sOb] from rfl, line_open (by
            intro p hp b' hb'
            simp only [List.mem_cons, List.not_mem_nil, or_false] at hp
            rcases hp with rfl | rfl
            · revert b'; decide
            · exact goodE ha b' hb') i m, Option.bind_some, blk b (i + 1) _ (by omega) hb, Option.bind_some, else_line, Option.bind_some, blk c (i + 1) _ (by omega) hc, Option.bind_some, close_line]
          simp [stm, stmL, lnC, stmE ha]
          omega
        · simp only [Tree.size, sizeL] at hs
          simp only [prS, if_true]
          rw [scan_app, scan_app, show [sFor, nm, sLt, dec num.toNat, sOb] = [sFor, nm, sLt, dec num.toNat] ++ [sOb] from rfl, line_open (by
            intro p hp b' hb'
            simp only [List.mem_cons, List.not_mem_nil, or_false] at hp
            rcases hp with rfl | rfl | rfl | rfl
            · revert b'; decide
            · exact name_good hn b' hb'
            · revert b'; decide
            · exact hd b' hb') i m, Option.bind_some, blk a (i + 1) _ (by omega) ha, Option.bind_some, close_line]
          simp [stm, stmL, lnC]
          omega
        · simp only [Tree.size, sizeL] at hs
          simp only [prS]
          rw [if_neg (by omega), scan_app, scan_app, show [sWhile, prE a, sBound, dec num.toNat, sOb] = [sWhile, prE a, sBound, dec num.toNat] ++ [sOb] from rfl, line_open (by
            intro p hp b' hb'
            simp only [List.mem_cons, List.not_mem_nil, or_false] at hp
            rcases hp with rfl | rfl | rfl | rfl
            · revert b'; decide
            · exact goodE ha b' hb'
            · revert b'; decide
            · exact hd b' hb') i m, Option.bind_some, blk b (i + 1) _ (by omega) hb, Option.bind_some, close_line]
          simp [stm, stmL, lnC, stmE ha]
          omega
        · simp only [prS]
          rw [if_neg (by omega), if_pos trivial, line_plain (by
            intro p hp b' hb'
            simp only [List.mem_cons, List.not_mem_nil, or_false] at hp
            rcases hp with rfl | rfl | rfl | rfl | rfl
            · revert b'; decide
            · exact goodP ha b' hb'
            · revert b'; decide
            · exact hd b' hb'
            · revert b'; decide) (by simp [sIn]) i m]
          simp [stm, stmL, lnC, stmP ha]
        · simp only [prS]
          rw [if_neg (by omega), if_neg (by omega), if_pos trivial, line_plain (by
            intro p hp b' hb'
            simp only [List.mem_cons, List.not_mem_nil, or_false] at hp
            rcases hp with rfl | rfl | rfl | rfl | rfl
            · revert b'; decide
            · exact goodE ha b' hb'
            · revert b'; decide
            · exact hd b' hb'
            · revert b'; decide) (by simp [sOut]) i m]
          simp [stm, stmL, lnC, stmE ha]
        · simp only [Tree.size, sizeL] at hs
          simp only [prS]
          rw [if_neg (by omega), if_neg (by omega), if_neg (by omega), scan_app, scan_app, show [sLock, nm, sOb] = [sLock, nm] ++ [sOb] from rfl, line_open (by
            intro p hp b' hb'
            simp only [List.mem_cons, List.not_mem_nil, or_false] at hp
            rcases hp with rfl | rfl
            · revert b'; decide
            · exact name_good hn b' hb') i m, Option.bind_some, blk a (i + 1) _ (by omega) ha, Option.bind_some, close_line]
          simp [stm, stmL, lnC]
          omega
    refine ⟨hS, fun l => ?_⟩
    · induction l with
      | nil => intro i m _ _; simp [prL, scan, stmL]
      | cons t l ih =>
        intro i m hs hl
        simp only [okS, Bool.and_eq_true] at hl
        simp only [sizeL] at hs
        have ht := t.size_pos
        simp only [prL, stmL]
        rw [scan_app, hS t i m (by omega) hl.1, Option.bind_some, ih i _ (by omega) hl.2]
        congr 2
        omega
/-- The printed text of a block, line for line. -/
theorem lines_B {t : Tree} (h : okT t 98 = true) : scan ⟨0, 0, true, 0⟩ (prB t 0) = some ⟨0, 0, true, stm t⟩ := by
  cases t with
  | node k num nm l =>
    obtain ⟨rfl, _, _, hl⟩ := okB_inv h
    have := (lines_S (sizeL l)).2 l 0 0 (Nat.le_refl _) hl
    simpa [prB, stm, lnC] using this
end Go.Proofs.YtkeehpgnljieeaaDoor.PP
