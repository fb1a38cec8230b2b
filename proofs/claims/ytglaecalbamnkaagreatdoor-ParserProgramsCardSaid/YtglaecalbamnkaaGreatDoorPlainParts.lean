/- The parser's block and the reference's stmts with finish have the same outcome. -/
import Derived.Test.YtglaecalbamnkaaGreatDoorRdK
namespace Go.Proofs.YtglaecalbamnkaaGreatDoor
namespace PP
variable (E : Env)
/-- From an error on, statements are not read. -/
theorem stmts_err {n : Nat} {top : Bool} {σ : St} {acc : List Tree} {r : St × List Tree} (h : stmts E n top σ acc = some r) (he : σ.err ≠ 0) : r = (σ, acc) := by
  cases n with
  | zero => simp [stmts] at h
  | succ n =>
    have hm : more E σ = false := by simp [more, he]
    rw [stmts, show goes E top σ = false by unfold goes; rw [hm]; rfl] at h
    exact (Option.some.inj h).symm
theorem le_stay {σ σ' : St} (h : Le σ σ') (he : σ.err ≠ 0) : σ' = σ := h.2 he
theorem statement_brace {n : Nat} {σ : St} {r : St × Tree} (h : statement E n σ = some r) (hs : sees E σ [125] = true) : r.1 = reject E σ := by
  cases n with
  | zero => simp [statement] at h
  | succ n =>
    rw [statement, sees_one hs (by decide), sees_one hs (by decide), sees_one hs (by decide), sees_one hs (by decide), sees_one hs (by decide), sees_one hs (by decide)] at h
    simp only [Bool.false_eq_true, if_false] at h
    obtain ⟨a, ha, h⟩ := Option.bind_eq_some_iff.1 h
    obtain ⟨x, hx, rfl⟩ := Option.map_eq_some_iff.1 h
    have hre := reject_err E σ
    have htx : (cur E σ).text = [125] := by
      unfold sees at hs; simp only [Bool.and_eq_true, beq_iff_eq] at hs; exact hs.2
    have hnm : nameP E σ = (reject E σ, []) := by
      unfold nameP; rw [htx, show PL.isName [125] = false from by decide +kernel, Bool.and_false]; rfl
    have ha1 : a.1 = reject E σ := by
      cases n with
      | zero => simp [place] at ha
      | succ n =>
        rw [place, hnm, show sees E (reject E σ) [91] = false by unfold sees more; simp [hre]] at ha
        simp only [Bool.false_eq_true, if_false, Option.some.injEq] at ha
        rw [← ha]
    have e1 : require E a.1 [61] = reject E σ := by rw [ha1]; exact le_stay (le_require E _ _) hre
    have e2 : x.1 = reject E σ := by
      rw [e1] at hx
      exact le_stay ((expr_le E n).2.2.2.1 _ _ _ hx) hre
    show require E x.1 [59] = _
    rw [e2]; exact le_stay (le_require E _ _) hre
theorem stmts_top : ∀ (n : Nat) (σ : St) (acc : List Tree) (r : St × List Tree), stmts E n true σ acc = some r →
    ∃ r', stmts E n false σ acc = some r' ∧ (more E r'.1 = false → r = r') ∧ (more E r'.1 = true → r.1 = reject E r'.1)
  | 0, _, _, _, h => by simp [stmts] at h
  | n + 1, σ, acc, r, h => by
    rw [stmts] at h
    cases hm : more E σ with
    | false =>
      rw [show goes E true σ = false by unfold goes; rw [hm]; rfl] at h
      refine ⟨(σ, acc), ?_, fun _ => (Option.some.inj h).symm, fun h2 => ?_⟩
      · rw [stmts, show goes E false σ = false by unfold goes; rw [hm]; rfl]; rfl
      · simp only [] at h2; rw [hm] at h2; cases h2
    | true =>
      rw [show goes E true σ = true by unfold goes; rw [hm]; rfl] at h
      obtain ⟨x, hx, hr⟩ := Option.bind_eq_some_iff.1 h
      cases hs : sees E σ [125] with
      | true =>
        have e1 := statement_brace E hx hs
        rw [e1] at hr
        have e2 := stmts_err E hr (reject_err E σ)
        refine ⟨(σ, acc), ?_, fun h2 => ?_, fun _ => by rw [e2]⟩
        · rw [stmts, show goes E false σ = false by unfold goes; rw [hs]; simp]; rfl
        · simp only [] at h2; rw [hm] at h2; cases h2
      | false =>
        obtain ⟨r', h1, h2, h3⟩ := stmts_top n _ _ _ hr
        refine ⟨r', ?_, h2, h3⟩
        rw [stmts, show goes E false σ = true by unfold goes; rw [hm, hs]; rfl]
        simp only [if_true]
        rw [hx]; exact h1
end PP
open PP
theorem blockP_ref {E : Env} {n m : Nat} {σ : St} {q r : St × Tree} (h : blockP E n σ = some q) (hr : ((stmts E m false σ []).map fun r => (r.1, Tree.node 47 0 [] r.2)) = some r) :
    PP.out zeroT q = PP.out zeroT (endSt E r.2 r.1, r.2) := by
  unfold blockP at h
  obtain ⟨x, hx, rfl⟩ := Option.map_eq_some_iff.1 h
  obtain ⟨y, hy, rfl⟩ := Option.map_eq_some_iff.1 hr
  obtain ⟨r', h1, h2, h3⟩ := stmts_top E n σ [] x hx
  have e : r' = y := Option.some.inj ((stmts_le E (Nat.le_max_left n m) h1).symm.trans (stmts_le E (Nat.le_max_right n m) hy))
  subst e
  simp only []
  cases hm : more E r'.1 with
  | false =>
    rw [h2 hm]
    unfold endSt; rw [hm]; rfl
  | true =>
    have hre := reject_err E r'.1
    have e1 := h3 hm
    unfold endSt limitP PP.out
    rw [hm, e1]
    simp [hre]
theorem exprP_ref {E : Env} {n m : Nat} {σ : St} {q r : St × Tree} (h : exprP E n σ = some q) (hr : binary E m 0 σ = some r) : q = (endSt E r.2 r.1, r.2) := by
  unfold exprP at h
  obtain ⟨x, hx, rfl⟩ := Option.map_eq_some_iff.1 h
  have e : x = r := Option.some.inj ((binary_le E (Nat.le_max_left n m) hx).symm.trans (binary_le E (Nat.le_max_right n m) hr))
  subst e; rfl
end Go.Proofs.YtglaecalbamnkaaGreatDoor
