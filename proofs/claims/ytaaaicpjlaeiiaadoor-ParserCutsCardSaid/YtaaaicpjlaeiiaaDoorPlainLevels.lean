/- Of two binary operators the one with the higher level binds more tightly: the parser's plain functions at all pairs of operators. -/
import Derived.Test.YtaaaicpjlaeiiaaDoorPlainPar3
import Derived.Test.YtaaaicpjlaeiiaaDoorPlainLex3
namespace Go.Proofs.YtaaaicpjlaeiiaaDoor.PP
open PL

def envL (l : List UInt8) : Env := ⟨(lex l).1.filter solidT, l.length⟩
def sigT (l : List UInt8) : St := ⟨0, (lex l).2.1, (lex l).2.2⟩
def lvText (i j : Nat) : List UInt8 := [120, 32] ++ symbol (i + 6) ++ [32, 45, 121, 32] ++ symbol (j + 6) ++ [32, 122]
def kindOf : Tree → Nat
  | .node k _ _ _ => k
def kidsOf : Tree → List Tree
  | .node _ _ _ ks => ks
/-- The shape of the tree. -/
def lvShape (i j : Nat) (t : Tree) : Bool :=
  if level (j + 6) > level (i + 6) then
    kindOf t == i + 6 && (kidsOf t).length == 2 && kindOf ((kidsOf t).getD 1 t) == j + 6 && (kidsOf ((kidsOf t).getD 1 t)).length == 2 && kindOf ((kidsOf ((kidsOf t).getD 1 t)).getD 0 t) == 4
  else
    kindOf t == j + 6 && (kidsOf t).length == 2 && kindOf ((kidsOf t).getD 0 t) == i + 6 && (kidsOf ((kidsOf t).getD 0 t)).length == 2 && kindOf ((kidsOf ((kidsOf t).getD 0 t)).getD 1 t) == 4
def lvOk (i j : Nat) : Bool := match exprP (envL (lvText i j)) 40 (sigT (lvText i j)) with
  | some (σ, t) => σ.err == 0 && lvShape i j t
  | none => false
theorem lv_all : ∀ i, i < 18 → ∀ j, j < 18 → lvOk i j = true := by decide +kernel
theorem two_of {l : List Tree} (h : l.length = 2) : ∃ x y, l = [x, y] := by
  match l, h with
  | [x, y], _ => exact ⟨x, y, rfl⟩
theorem lv_expr {i j : Nat} (hi : i < 18) (hj : j < 18) : ∃ σ t, exprP (envL (lvText i j)) 40 (sigT (lvText i j)) = some (σ, t) ∧ σ.err = 0 ∧
    (level (i + 6) < level (j + 6) → ∃ n m x k2 n2 m2 x3 ks v, t = .node (i + 6) n m [x, .node (j + 6) n2 m2 [.node 4 k2 x3 ks, v]]) ∧
    (¬ level (i + 6) < level (j + 6) → ∃ n m x k2 n2 m2 x3 ks v, t = .node (j + 6) n m [.node (i + 6) n2 m2 [v, .node 4 k2 x3 ks], x]) := by
  have h := lv_all i hi j hj
  unfold lvOk at h
  split at h
  · rename_i σ t he
    simp only [Bool.and_eq_true, beq_iff_eq] at h
    refine ⟨σ, t, he, h.1, fun hl => ?_, fun hl => ?_⟩
    · have h2 := h.2
      unfold lvShape at h2
      rw [if_pos hl] at h2
      simp only [Bool.and_eq_true, beq_iff_eq] at h2
      obtain ⟨⟨⟨⟨a1, a2⟩, a3⟩, a4⟩, a5⟩ := h2
      obtain ⟨k, n, m, ks⟩ := t
      obtain ⟨x, y, e1⟩ := two_of a2
      simp only [kindOf, kidsOf] at a1 e1
      subst a1 e1
      obtain ⟨k1, n1, m1, ks1⟩ := y
      simp only [kidsOf, List.getD_cons_succ, List.getD_cons_zero, kindOf] at a3 a4 a5
      obtain ⟨u, v, e2⟩ := two_of a4
      subst a3 e2
      obtain ⟨k2, n2, m2, ks2⟩ := u
      simp only [List.getD_cons_zero] at a5
      subst a5
      exact ⟨n, m, x, n2, n1, m1, m2, ks2, v, rfl⟩
    · have h2 := h.2
      unfold lvShape at h2
      rw [if_neg hl] at h2
      simp only [Bool.and_eq_true, beq_iff_eq] at h2
      obtain ⟨⟨⟨⟨a1, a2⟩, a3⟩, a4⟩, a5⟩ := h2
      obtain ⟨k, n, m, ks⟩ := t
      obtain ⟨x, y, e1⟩ := two_of a2
      simp only [kindOf, kidsOf] at a1 e1
      subst a1 e1
      obtain ⟨k1, n1, m1, ks1⟩ := x
      simp only [kidsOf, List.getD_cons_zero, kindOf] at a3 a4 a5
      obtain ⟨u, v, e2⟩ := two_of a4
      subst a3 e2
      obtain ⟨k2, n2, m2, ks2⟩ := v
      simp only [List.getD_cons_succ, List.getD_cons_zero] at a5
      subst a5
      exact ⟨n, m, y, n2, n1, m1, m2, ks2, u, rfl⟩
  · cases h
end Go.Proofs.YtaaaicpjlaeiiaaDoor.PP
