/- The printer's texts as plain functions. -/
import Derived.Test.YtkeehpgnljieeaaDoorPlainValid
import Derived.Test.YtkeehpgnljieeaaDoorPlainNumbers
namespace Go.Proofs.YtkeehpgnljieeaaDoor.PP
open PL

def sIf : List UInt8 := [105, 102, 32]
def sOb : List UInt8 := [32, 123]
def sElse : List UInt8 := [125, 32, 101, 108, 115, 101, 32, 123]
def sCb : List UInt8 := [125]
def sFor : List UInt8 := [102, 111, 114, 32]
def sLt : List UInt8 := [32, 60, 32]
def sWhile : List UInt8 := [119, 104, 105, 108, 101, 32]
def sBound : List UInt8 := [32, 98, 111, 117, 110, 100, 32]
def sIn : List UInt8 := [105, 110, 32]
def sOut : List UInt8 := [111, 117, 116, 32]
def sLock : List UInt8 := [108, 111, 99, 107, 32]
def sComma : List UInt8 := [44, 32]
def sSemi : List UInt8 := [59]
def sEq : List UInt8 := [32, 61, 32]
def sShared : List UInt8 := [115, 104, 97, 114, 101, 100, 32]
def sTask : List UInt8 := [116, 97, 115, 107, 32]
def sPeriod : List UInt8 := [32, 112, 101, 114, 105, 111, 100, 32]
def sVar : List UInt8 := [118, 97, 114, 32]
def sArray : List UInt8 := [97, 114, 114, 97, 121, 32]
def sOpen : List UInt8 := [91]
def sClose : List UInt8 := [93, 59]
def Tree.kind : Tree → Nat
  | .node k _ _ _ => k
def Tree.kids : Tree → List Tree
  | .node _ _ _ l => l
def bin (k : Nat) : Bool := decide (6 ≤ k) && decide (k ≤ 23)
def wrapP (b : Bool) (s : List UInt8) : List UInt8 := if b then [40] ++ s ++ [41] else s
/-- The text of an expression. -/
def prE : Tree → List UInt8
  | .node k num nm [] => if k = 1 then dec num.toNat else nm
  | .node k _ nm [a] => if k = 3 then nm ++ [91] ++ prE a ++ [93] else symbol k ++ wrapP (bin a.kind) (prE a)
  | .node k _ _ [a, b] => wrapP (bin a.kind && decide (level a.kind < level k)) (prE a) ++ [32] ++ symbol k ++ [32] ++ wrapP (bin b.kind && decide (level b.kind ≤ level k)) (prE b)
  | _ => []
def tabs (n : Nat) : List UInt8 := List.replicate n 9
def lineP (ind : Nat) (parts : List (List UInt8)) : List UInt8 := tabs ind ++ parts.flatten ++ [10]
mutual
/-- The lines of a statement. -/
def prS : Tree → Nat → List UInt8
  | .node k num nm [a], i =>
    if k = 42 then lineP i [sFor, nm, sLt, dec num.toNat, sOb] ++ prB a (i + 1) ++ lineP i [sCb]
    else if k = 44 then lineP i [sIn, prE a, sComma, dec num.toNat, sSemi]
    else if k = 45 then lineP i [sOut, prE a, sComma, dec num.toNat, sSemi]
    else lineP i [sLock, nm, sOb] ++ prB a (i + 1) ++ lineP i [sCb]
  | .node k num _ [a, b], i =>
    if k = 40 then lineP i [prE a, sEq, prE b, sSemi]
    else lineP i [sWhile, prE a, sBound, dec num.toNat, sOb] ++ prB b (i + 1) ++ lineP i [sCb]
  | .node _ _ _ [a, b, c], i => lineP i [sIf, prE a, sOb] ++ prB b (i + 1) ++ lineP i [sElse] ++ prB c (i + 1) ++ lineP i [sCb]
  | _, _ => []
def prB : Tree → Nat → List UInt8
  | .node _ _ _ l, i => prL l i
def prL : List Tree → Nat → List UInt8
  | [], _ => []
  | t :: ts, i => prS t i ++ prL ts i
end
def prVar (v : List UInt8) : List UInt8 := lineP 1 [sVar, v, sSemi]
def prArr (i : Nat) (kw : List UInt8) (a : ArrD) : List UInt8 := lineP i [kw, a.name, sOpen, dec a.len.toNat, sClose]
def prTask (t : TaskD) : List UInt8 := lineP 0 [sTask, t.name, sPeriod, dec t.period.toNat, sOb] ++ t.vars.flatMap prVar ++ t.arrays.flatMap (prArr 1 sArray) ++ prB t.body 1 ++ lineP 0 [sCb]
def prP (p : ProgD) : List UInt8 := p.shared.flatMap (prArr 0 sShared) ++ p.tasks.flatMap prTask

theorem len0 {l : List Tree} (h : l.length = 0) : l = [] := List.length_eq_zero_iff.1 h
theorem len1 {l : List Tree} (h : l.length = 1) : ∃ a, l = [a] := List.length_eq_one_iff.1 h
theorem len2 {l : List Tree} (h : l.length = 2) : ∃ a b, l = [a, b] := by
  match l, h with
  | [a, b], _ => exact ⟨a, b, rfl⟩
theorem len3 {l : List Tree} (h : l.length = 3) : ∃ a b c, l = [a, b, c] := by
  match l, h with
  | [a, b, c], _ => exact ⟨a, b, c, rfl⟩
theorem formOf_bin {k : Nat} (h1 : 6 ≤ k) (h2 : k ≤ 23) : formOf k = ⟨false, 0, 0, [101, 101]⟩ := by
  unfold formOf
  rw [if_neg (by omega), if_neg (by omega), if_neg (by omega), if_neg (by omega), if_neg (by omega), if_neg (by omega), if_neg (by omega), if_neg (by omega), if_neg (by omega), if_neg (by omega), if_neg (by omega)]
/-- What a valid expression is. -/
theorem okE_inv {k : Nat} {num : Int} {nm : List UInt8} {kids : List Tree} (h : okT (.node k num nm kids) 101 = true) :
    (k = 1 ∧ 0 ≤ num ∧ num ≤ 2147483647 ∧ nm = [] ∧ kids = []) ∨ (k = 2 ∧ num = 0 ∧ isName nm = true ∧ kids = []) ∨ (k = 3 ∧ num = 0 ∧ isName nm = true ∧ ∃ a, kids = [a] ∧ okT a 101 = true) ∨
    ((k = 4 ∨ k = 5) ∧ num = 0 ∧ nm = [] ∧ ∃ a, kids = [a] ∧ okT a 101 = true) ∨ (6 ≤ k ∧ k ≤ 23 ∧ num = 0 ∧ nm = [] ∧ ∃ a b, kids = [a, b] ∧ okT a 101 = true ∧ okT b 101 = true) := by
  simp only [okT, Bool.and_eq_true] at h
  obtain ⟨hb, h⟩ := h
  have hk : 1 ≤ k ∧ k ≤ 23 := by simpa [belongs] using hb
  rw [if_neg (by omega)] at h
  simp only [Bool.and_eq_true] at h
  obtain ⟨⟨h1, h2⟩, h3⟩ := h
  rcases (by omega : k = 1 ∨ k = 2 ∨ k = 3 ∨ (k = 4 ∨ k = 5) ∨ (6 ≤ k ∧ k ≤ 23)) with rfl | rfl | rfl | hk | ⟨ha, hb⟩
  · simp [formOf] at h1 h2
    exact .inl ⟨rfl, by omega, by omega, h2, len0 (by simp [h1.2])⟩
  · simp [formOf] at h1 h2
    exact .inr (.inl ⟨rfl, by omega, h2, len0 (by simp [h1.2])⟩)
  · simp [formOf] at h1 h2 h3
    obtain ⟨a, rfl⟩ := len1 h1.2
    simp [okZ] at h3
    exact .inr (.inr (.inl ⟨rfl, by omega, h2, a, rfl, h3⟩))
  · have hf : formOf k = ⟨false, 0, 0, [101]⟩ := by rcases hk with rfl | rfl <;> rfl
    rw [hf] at h1 h2 h3
    simp at h1 h2
    obtain ⟨a, rfl⟩ := len1 h1.2
    simp [okZ] at h3
    exact .inr (.inr (.inr (.inl ⟨hk, by omega, h2, a, rfl, h3⟩)))
  · have hf := formOf_bin ha hb
    rw [hf] at h1 h2 h3
    simp at h1 h2
    obtain ⟨a, b, rfl⟩ := len2 h1.2
    simp [okZ] at h3
    exact .inr (.inr (.inr (.inr ⟨ha, hb, by omega, h2, a, b, rfl, h3.1, h3.2⟩)))
/-- What a valid place is. -/
theorem okP_inv {k : Nat} {num : Int} {nm : List UInt8} {kids : List Tree} (h : okT (.node k num nm kids) 112 = true) :
    (k = 2 ∧ num = 0 ∧ isName nm = true ∧ kids = []) ∨ (k = 3 ∧ num = 0 ∧ isName nm = true ∧ ∃ a, kids = [a] ∧ okT a 101 = true) := by
  have h' := okE_inv (okT_place h)
  simp only [okT, Bool.and_eq_true] at h
  have hb : k = 2 ∨ k = 3 := by simpa [belongs] using h.1
  rcases h' with h' | h' | h' | h' | h'
  · omega
  · exact .inl h'
  · exact .inr h'
  · omega
  · omega
/-- What a valid statement is. -/
theorem okS_inv {k : Nat} {num : Int} {nm : List UInt8} {kids : List Tree} (h : okT (.node k num nm kids) 115 = true) :
    (k = 40 ∧ num = 0 ∧ nm = [] ∧ ∃ a b, kids = [a, b] ∧ okT a 112 = true ∧ okT b 101 = true) ∨
    (k = 41 ∧ num = 0 ∧ nm = [] ∧ ∃ a b c, kids = [a, b, c] ∧ okT a 101 = true ∧ okT b 98 = true ∧ okT c 98 = true) ∨
    (k = 42 ∧ 1 ≤ num ∧ num ≤ 1000 ∧ isName nm = true ∧ ∃ a, kids = [a] ∧ okT a 98 = true) ∨
    (k = 43 ∧ 1 ≤ num ∧ num ≤ 1000 ∧ nm = [] ∧ ∃ a b, kids = [a, b] ∧ okT a 101 = true ∧ okT b 98 = true) ∨
    (k = 44 ∧ 0 ≤ num ∧ num ≤ 7 ∧ nm = [] ∧ ∃ a, kids = [a] ∧ okT a 112 = true) ∨
    (k = 45 ∧ 0 ≤ num ∧ num ≤ 7 ∧ nm = [] ∧ ∃ a, kids = [a] ∧ okT a 101 = true) ∨
    (k = 46 ∧ num = 0 ∧ isName nm = true ∧ ∃ a, kids = [a] ∧ okT a 98 = true) := by
  simp only [okT, Bool.and_eq_true] at h
  obtain ⟨hb, h⟩ := h
  have hk : 40 ≤ k ∧ k < 47 := by simpa [belongs] using hb
  rw [if_neg (by omega)] at h
  simp only [Bool.and_eq_true] at h
  obtain ⟨⟨h1, h2⟩, h3⟩ := h
  rcases (by omega : k = 40 ∨ k = 41 ∨ k = 42 ∨ k = 43 ∨ k = 44 ∨ k = 45 ∨ k = 46) with rfl | rfl | rfl | rfl | rfl | rfl | rfl
  · simp [formOf] at h1 h2 h3
    obtain ⟨a, b, rfl⟩ := len2 h1.2
    simp [okZ] at h3
    exact .inl ⟨rfl, by omega, h2, a, b, rfl, h3.1, h3.2⟩
  · simp [formOf] at h1 h2 h3
    obtain ⟨a, b, c, rfl⟩ := len3 h1.2
    simp [okZ] at h3
    exact .inr (.inl ⟨rfl, by omega, h2, a, b, c, rfl, h3.1, h3.2.1, h3.2.2⟩)
  · simp [formOf] at h1 h2 h3
    obtain ⟨a, rfl⟩ := len1 h1.2
    simp [okZ] at h3
    exact .inr (.inr (.inl ⟨rfl, by omega, by omega, h2, a, rfl, h3⟩))
  · simp [formOf] at h1 h2 h3
    obtain ⟨a, b, rfl⟩ := len2 h1.2
    simp [okZ] at h3
    exact .inr (.inr (.inr (.inl ⟨rfl, by omega, by omega, h2, a, b, rfl, h3.1, h3.2⟩)))
  · simp [formOf] at h1 h2 h3
    obtain ⟨a, rfl⟩ := len1 h1.2
    simp [okZ] at h3
    exact .inr (.inr (.inr (.inr (.inl ⟨rfl, by omega, by omega, h2, a, rfl, h3⟩))))
  · simp [formOf] at h1 h2 h3
    obtain ⟨a, rfl⟩ := len1 h1.2
    simp [okZ] at h3
    exact .inr (.inr (.inr (.inr (.inr (.inl ⟨rfl, by omega, by omega, h2, a, rfl, h3⟩)))))
  · simp [formOf] at h1 h2 h3
    obtain ⟨a, rfl⟩ := len1 h1.2
    simp [okZ] at h3
    exact .inr (.inr (.inr (.inr (.inr (.inr ⟨rfl, by omega, h2, a, rfl, h3⟩)))))
theorem okB_inv {k : Nat} {num : Int} {nm : List UInt8} {kids : List Tree} (h : okT (.node k num nm kids) 98 = true) : k = 47 ∧ num = 0 ∧ nm = [] ∧ okS kids = true := by
  simp only [okT, Bool.and_eq_true] at h
  obtain ⟨hb, h⟩ := h
  have hk : k = 47 := by simpa [belongs] using hb
  subst hk
  simp at h
  exact ⟨rfl, h.1.1, h.1.2, h.2⟩

/-! ### Lengths -/
theorem isName_len {l : List UInt8} (h : isName l = true) : l.length ≤ 12 := by
  unfold isName at h
  simp only [Bool.and_eq_true, decide_eq_true_iff] at h
  exact h.1.1.2
theorem dec_len (n : Nat) : (dec n).length ≤ 20 := decF_len 20 n
theorem symbol_len (k : Nat) : (symbol k).length ≤ 2 := by
  by_cases h : k < 24
  · have : ∀ i : Fin 24, (symbol i.1).length ≤ 2 := by decide
    exact this ⟨k, h⟩
  · unfold symbol
    rw [List.getD_eq_getElem?_getD, List.getElem?_eq_none (by simpa [opTable] using h)]
    simp
theorem wrapP_len (b : Bool) (s : List UInt8) : (wrapP b s).length ≤ s.length + 2 := by unfold wrapP; split <;> simp <;> omega
theorem Tree.size_pos (t : Tree) : 1 ≤ t.size := by cases t; simp [Tree.size]
theorem prE_len : ∀ (n : Nat) (t : Tree), t.size ≤ n → okT t 101 = true → (prE t).length ≤ 20 * t.size
  | 0, t, hs, _ => by have := t.size_pos; omega
  | n + 1, .node k num nm kids, hs, h => by
    rcases okE_inv h with ⟨rfl, _, _, _, rfl⟩ | ⟨rfl, _, hn, rfl⟩ | ⟨rfl, _, hn, a, rfl, ha⟩ | ⟨hk, _, _, a, rfl, ha⟩ | ⟨h1, h2, _, _, a, b, rfl, ha, hb⟩
    · simp only [prE, if_true, Tree.size, sizeL]
      have := dec_len num.toNat; omega
    · have := isName_len hn
      simp [prE, Tree.size, sizeL]; omega
    · simp only [Tree.size, sizeL] at hs ⊢
      have h1 := prE_len n a (by omega) ha
      have := isName_len hn
      simp [prE]; omega
    · simp only [Tree.size, sizeL] at hs ⊢
      have h1 := prE_len n a (by omega) ha
      have h2 := symbol_len k
      have h3 := wrapP_len (bin a.kind) (prE a)
      simp only [prE]
      rw [if_neg (by omega), List.length_append]; omega
    · simp only [Tree.size, sizeL] at hs ⊢
      have i1 := prE_len n a (by omega) ha
      have i2 := prE_len n b (by omega) hb
      have i3 := symbol_len k
      have i4 := wrapP_len (bin a.kind && decide (level a.kind < level k)) (prE a)
      have i5 := wrapP_len (bin b.kind && decide (level b.kind ≤ level k)) (prE b)
      simp only [prE, List.length_append, List.length_cons, List.length_nil]
      omega
theorem lineP_len (i : Nat) (ps : List (List UInt8)) : (lineP i ps).length = i + ps.flatten.length + 1 := by simp [lineP, tabs]; omega
theorem okPE {t : Tree} (h : okT t 112 = true) : (prE t).length ≤ 20 * t.size := prE_len t.size t (Nat.le_refl _) (okT_place h)
theorem okEE {t : Tree} (h : okT t 101 = true) : (prE t).length ≤ 20 * t.size := prE_len t.size t (Nat.le_refl _) h
theorem prS_len : ∀ (n : Nat), (∀ t i, t.size ≤ n → okT t 115 = true → i + t.depth ≤ 1000 → (prS t i).length ≤ 4000 * t.size) ∧ (∀ l i, sizeL l ≤ n → okS l = true → i + depthL l ≤ 1000 → (prL l i).length ≤ 4000 * sizeL l)
  | 0 => ⟨fun t i hs _ _ => by have := t.size_pos; omega, fun l i hs _ _ => by
      cases l with
      | nil => simp [prL, sizeL]
      | cons t l => have := t.size_pos; simp [sizeL] at hs; omega⟩
  | n + 1 => by
    obtain ⟨ihS, ihL⟩ := prS_len n
    have hS : ∀ t i, t.size ≤ n + 1 → okT t 115 = true → i + t.depth ≤ 1000 → (prS t i).length ≤ 4000 * t.size := by
      intro t i hs h hd
      cases t with
      | node k num nm kids =>
        have blk : ∀ (x : Tree) (j : Nat), x.size ≤ n → okT x 98 = true → j + x.depth ≤ 1001 → (prB x j).length ≤ 4000 * x.size := by
          intro x j hx hx2 hd
          cases x with
          | node k' num' nm' l =>
            obtain ⟨_, _, _, hl⟩ := okB_inv hx2
            simp only [Tree.size, Tree.depth, prB] at hx hd ⊢
            have := ihL l j (by omega) hl (by omega)
            omega
        rcases okS_inv h with ⟨rfl, _, _, a, b, rfl, ha, hb⟩ | ⟨rfl, _, _, a, b, c, rfl, ha, hb, hc⟩ | ⟨rfl, _, _, hn, a, rfl, ha⟩ | ⟨rfl, _, _, _, a, b, rfl, ha, hb⟩ | ⟨rfl, _, _, _, a, rfl, ha⟩ | ⟨rfl, _, _, _, a, rfl, ha⟩ | ⟨rfl, _, hn, a, rfl, ha⟩
        · have h1 := okPE ha
          have h2 := okEE hb
          simp only [Tree.size, sizeL, Tree.depth, depthL] at hs hd ⊢
          simp [prS, lineP_len, sEq, sSemi]; omega
        · have h1 := okEE ha
          simp only [Tree.size, sizeL, Tree.depth, depthL] at hs hd ⊢
          have h2 := blk b (i + 1) (by omega) hb (by omega)
          have h3 := blk c (i + 1) (by omega) hc (by omega)
          simp [prS, lineP_len, sIf, sOb, sElse, sCb]; omega
        · have h1 := isName_len hn
          have h3 := dec_len num.toNat
          simp only [Tree.size, sizeL, Tree.depth, depthL] at hs hd ⊢
          have h2 := blk a (i + 1) (by omega) ha (by omega)
          simp [prS, lineP_len, sFor, sLt, sOb, sCb]; omega
        · have h1 := okEE ha
          have h3 := dec_len num.toNat
          simp only [Tree.size, sizeL, Tree.depth, depthL] at hs hd ⊢
          have h2 := blk b (i + 1) (by omega) hb (by omega)
          simp [prS, lineP_len, sWhile, sBound, sOb, sCb]; omega
        · have h1 := okPE ha
          have h3 := dec_len num.toNat
          simp only [Tree.size, sizeL, Tree.depth, depthL] at hs hd ⊢
          simp [prS, lineP_len, sIn, sComma, sSemi]; omega
        · have h1 := okEE ha
          have h3 := dec_len num.toNat
          simp only [Tree.size, sizeL, Tree.depth, depthL] at hs hd ⊢
          simp [prS, lineP_len, sOut, sComma, sSemi]; omega
        · have h1 := isName_len hn
          simp only [Tree.size, sizeL, Tree.depth, depthL] at hs hd ⊢
          have h2 := blk a (i + 1) (by omega) ha (by omega)
          simp [prS, lineP_len, sLock, sOb, sCb]; omega
    refine ⟨hS, fun l => ?_⟩
    · induction l with
      | nil => intro i _ _ _; simp [prL]
      | cons t l ih =>
        intro i hs hl hd
        simp only [okS, Bool.and_eq_true] at hl
        simp only [sizeL, depthL, prL, List.length_append] at hs hd ⊢
        have ht := t.size_pos
        have h2 := ih i (by omega) hl.2 (by omega)
        have h1 := hS t i (by omega) hl.1 (by omega)
        omega
end Go.Proofs.YtkeehpgnljieeaaDoor.PP
