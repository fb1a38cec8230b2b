/- The parser's plain functions: the next token goes on, and after an error nothing turns. -/
import Derived.Test.YtaaaicpjlaeiiaaDoorPlainPar3
namespace Go.Proofs.YtaaaicpjlaeiiaaDoor.PP
open PL

def Le (σ σ' : St) : Prop := σ.next ≤ σ'.next ∧ (σ.err ≠ 0 → σ' = σ)
theorem Le.refl (σ : St) : Le σ σ := ⟨Nat.le_refl _, fun _ => rfl⟩
theorem Le.trans {a b c : St} (h : Le a b) (k : Le b c) : Le a c := ⟨Nat.le_trans h.1 k.1, fun e => by
  have h1 := h.2 e
  subst h1
  exact k.2 e⟩
section
variable (E : Env)
theorem sees_err {σ : St} {t : List UInt8} (h : sees E σ t = true) : σ.err = 0 ∧ σ.next < E.ts.length := by
  unfold sees at h
  rcases more_cases E σ with ⟨_, h2, h3⟩ | ⟨h1, _⟩ | ⟨h1, _, _⟩
  · exact ⟨h2, h3⟩
  · rw [h1] at h; cases h
  · rw [h1] at h; cases h
theorem more_err {σ : St} (h : more E σ = true) : σ.err = 0 ∧ σ.next < E.ts.length := by
  rcases more_cases E σ with ⟨_, h2, h3⟩ | ⟨h1, _⟩ | ⟨h1, _, _⟩
  · exact ⟨h2, h3⟩
  · rw [h1] at h; cases h
  · rw [h1] at h; cases h
theorem le_adv {σ : St} (h : σ.err = 0) : Le σ (adv σ) := ⟨by simp [adv], fun e => absurd h e⟩
theorem le_fail (σ : St) (o e : Nat) : Le σ (fail σ o e) := by
  unfold fail; split
  · rename_i h; exact ⟨Nat.le_refl _, fun e => absurd h e⟩
  · exact Le.refl _
theorem le_reject (σ : St) : Le σ (reject E σ) := by unfold reject; split <;> exact le_fail _ _ _
theorem le_require (σ : St) (t : List UInt8) : Le σ (require E σ t) := by
  unfold require; split
  · rename_i h; exact le_adv (sees_err E h).1
  · exact le_reject E σ
theorem le_nameP (σ : St) : Le σ (nameP E σ).1 := by
  unfold nameP; split
  · rename_i h; exact le_adv (more_err E (by simp at h; exact h.1)).1
  · exact le_reject E σ
theorem le_numP (σ : St) (l h : Int) : Le σ (numP E σ l h).1 := by
  unfold numP; split
  · rename_i c
    dsimp only
    split
    · exact le_fail _ _ _
    · exact le_adv (more_err E (by simp at c; exact c.1)).1
  · exact le_reject E σ
theorem fail_err {σ : St} {o e : Nat} (he : e ≠ 0) : (fail σ o e).err ≠ 0 := by unfold fail; split <;> assumption
theorem reject_err (σ : St) : (reject E σ).err ≠ 0 := by unfold reject; split <;> exact fail_err (by decide)
theorem nameP_adv (σ : St) : (nameP E σ).1.err ≠ 0 ∨ σ.next < (nameP E σ).1.next := by
  unfold nameP; split
  · right; simp [adv]
  · left; exact reject_err E σ
theorem require_adv (σ : St) (t : List UInt8) : (require E σ t).err ≠ 0 ∨ σ.next < (require E σ t).next := by
  unfold require; split
  · right; simp [adv]
  · left; exact reject_err E σ
theorem expr_le : ∀ (n : Nat), (∀ σ r, unary E n σ = some r → Le σ r.1) ∧ (∀ σ r, primary E n σ = some r → Le σ r.1) ∧ (∀ σ r, place E n σ = some r → Le σ r.1) ∧
    (∀ l σ r, binary E n l σ = some r → Le σ r.1) ∧ (∀ l σ t r, binLoop E n l σ t = some r → Le σ r.1)
  | 0 => ⟨fun _ _ h => by simp [unary] at h, fun _ _ h => by simp [primary] at h, fun _ _ h => by simp [place] at h, fun _ _ _ h => by simp [binary] at h, fun _ _ _ _ h => by simp [binLoop] at h⟩
  | n + 1 => by
    obtain ⟨hu, hp, hpl, hb, hl⟩ := expr_le n
    refine ⟨fun σ r h => ?_, fun σ r h => ?_, fun σ r h => ?_, fun l σ r h => ?_, fun l σ t r h => ?_⟩
    · rw [unary] at h
      split at h
      · rename_i c
        obtain ⟨x, hx, rfl⟩ := Option.map_eq_some_iff.1 h
        exact (le_adv (sees_err E c).1).trans (hu _ x hx)
      · split at h
        · rename_i c
          obtain ⟨x, hx, rfl⟩ := Option.map_eq_some_iff.1 h
          exact (le_adv (sees_err E c).1).trans (hu _ x hx)
        · exact hp _ _ h
    · rw [primary] at h
      split at h
      · rename_i c
        obtain ⟨x, hx, rfl⟩ := Option.map_eq_some_iff.1 h
        exact ((le_adv (sees_err E c).1).trans (hb _ _ _ hx)).trans (le_require E _ _)
      · split at h
        · injection h with h; subst h; exact le_numP E _ _ _
        · exact hpl _ _ h
    · rw [place] at h
      split at h
      · rename_i c
        obtain ⟨x, hx, rfl⟩ := Option.map_eq_some_iff.1 h
        exact (((le_nameP E σ).trans (le_adv (sees_err E c).1)).trans (hb _ _ _ hx)).trans (le_require E _ _)
      · injection h with h; subst h; exact le_nameP E _
    · rw [binary] at h
      obtain ⟨x, hx, hr⟩ := Option.bind_eq_some_iff.1 h
      exact (hu _ x hx).trans (hl _ _ _ _ hr)
    · rw [binLoop] at h
      split at h
      · rename_i c
        split at h
        · split at h
          · injection h with h; subst h; exact Le.refl _
          · obtain ⟨x, hx, hr⟩ := Option.bind_eq_some_iff.1 h
            exact ((le_adv (more_err E c).1).trans (hb _ _ _ hx)).trans (hl _ _ _ _ hr)
        · injection h with h; subst h; exact Le.refl _
      · injection h with h; subst h; exact Le.refl _
theorem place_adv {n : Nat} {σ : St} {r : St × Tree} (h : place E n σ = some r) : r.1.err ≠ 0 ∨ σ.next < r.1.next := by
  cases n with
  | zero => simp [place] at h
  | succ n =>
    rw [place] at h
    split at h
    · rename_i c
      obtain ⟨x, hx, rfl⟩ := Option.map_eq_some_iff.1 h
      have h1 := (le_nameP E σ).1
      have h2 := ((expr_le E n).2.2.2.1 _ _ _ hx).1
      have h3 := (le_require E x.1 [93]).1
      right
      simp only [adv] at h2 ⊢
      omega
    · injection h with h; subst h; exact nameP_adv E σ
theorem le_transfer (kind : Nat) (kid : Tree) (σ : St) : Le σ (transfer E kind kid σ).1 := ((le_require E σ _).trans (le_numP E _ _ _)).trans (le_require E _ _)
theorem stmt_le : ∀ (n : Nat), (∀ top σ acc r, stmts E n top σ acc = some r → Le σ r.1) ∧ (∀ σ r, block E n σ = some r → Le σ r.1) ∧
    (∀ σ r, choice E n σ = some r → Le σ r.1) ∧ (∀ σ r, statement E n σ = some r → Le σ r.1 ∧ (r.1.err ≠ 0 ∨ σ.next < r.1.next))
  | 0 => ⟨fun _ _ _ _ h => by simp [stmts] at h, fun _ _ h => by simp [block] at h, fun _ _ h => by simp [choice] at h, fun _ _ h => by simp [statement] at h⟩
  | n + 1 => by
    obtain ⟨hs, hb, hc, ht⟩ := stmt_le n
    have he : ∀ l σ r, binary E n l σ = some r → Le σ r.1 := (expr_le E n).2.2.2.1
    have hp : ∀ σ r, place E n σ = some r → Le σ r.1 := (expr_le E n).2.2.1
    have step : ∀ {σ σ' : St}, σ.err = 0 → Le (adv σ) σ' → Le σ σ' ∧ (σ'.err ≠ 0 ∨ σ.next < σ'.next) := by
      intro σ σ' h1 h2
      have h3 := h2.1
      simp only [adv] at h3
      exact ⟨(le_adv h1).trans h2, .inr (by omega)⟩
    refine ⟨fun top σ acc r h => ?_, fun σ r h => ?_, fun σ r h => ?_, fun σ r h => ?_⟩
    · rw [stmts] at h
      split at h
      · obtain ⟨x, hx, hr⟩ := Option.bind_eq_some_iff.1 h
        exact (ht _ _ hx).1.trans (hs _ _ _ _ hr)
      · injection h with h; subst h; exact Le.refl _
    · rw [block] at h
      obtain ⟨x, hx, rfl⟩ := Option.map_eq_some_iff.1 h
      exact ((le_require E σ _).trans (hs _ _ _ _ hx)).trans (le_require E _ _)
    · rw [choice] at h
      obtain ⟨x, hx, h⟩ := Option.bind_eq_some_iff.1 h
      obtain ⟨y, hy, h⟩ := Option.bind_eq_some_iff.1 h
      obtain ⟨z, hz, rfl⟩ := Option.map_eq_some_iff.1 h
      exact ((((le_require E σ _).trans (he _ _ x hx)).trans (hb _ y hy)).trans (le_require E _ _)).trans (hb _ z hz)
    · rw [statement] at h
      by_cases c1 : sees E σ [105, 102] = true
      · rw [if_pos c1] at h
        refine ⟨hc _ _ h, ?_⟩
        cases n with
        | zero => simp [choice] at h
        | succ n =>
          rw [choice] at h
          obtain ⟨x, hx, h⟩ := Option.bind_eq_some_iff.1 h
          obtain ⟨y, hy, h⟩ := Option.bind_eq_some_iff.1 h
          obtain ⟨z, hz, rfl⟩ := Option.map_eq_some_iff.1 h
          have h1 : (require E σ [105, 102]).next = σ.next + 1 := by unfold require; rw [if_pos c1]; rfl
          have h2 := ((expr_le E n).2.2.2.1 _ _ _ hx).1
          have h3 := ((stmt_le n).2.1 _ _ hy).1
          have h4 := ((stmt_le n).2.1 _ _ hz).1
          have h5 := (le_require E y.1 [101, 108, 115, 101]).1
          right
          simp only
          omega
      rw [if_neg c1] at h
      by_cases c2 : sees E σ [102, 111, 114] = true
      · rw [if_pos c2] at h
        obtain ⟨z, hz, rfl⟩ := Option.map_eq_some_iff.1 h
        exact step (sees_err E c2).1 ((((le_nameP E _).trans (le_require E _ _)).trans (le_numP E _ _ _)).trans (hb _ z hz))
      rw [if_neg c2] at h
      by_cases c3 : sees E σ [119, 104, 105, 108, 101] = true
      · rw [if_pos c3] at h
        obtain ⟨x, hx, h⟩ := Option.bind_eq_some_iff.1 h
        obtain ⟨z, hz, rfl⟩ := Option.map_eq_some_iff.1 h
        exact step (sees_err E c3).1 ((((he _ _ x hx).trans (le_require E _ _)).trans (le_numP E _ _ _)).trans (hb _ z hz))
      rw [if_neg c3] at h
      by_cases c4 : sees E σ [105, 110] = true
      · rw [if_pos c4] at h
        obtain ⟨z, hz, rfl⟩ := Option.map_eq_some_iff.1 h
        exact step (sees_err E c4).1 ((hp _ z hz).trans (le_transfer E _ _ _))
      rw [if_neg c4] at h
      by_cases c5 : sees E σ [111, 117, 116] = true
      · rw [if_pos c5] at h
        obtain ⟨z, hz, rfl⟩ := Option.map_eq_some_iff.1 h
        exact step (sees_err E c5).1 ((he _ _ z hz).trans (le_transfer E _ _ _))
      rw [if_neg c5] at h
      by_cases c6 : sees E σ [108, 111, 99, 107] = true
      · rw [if_pos c6] at h
        obtain ⟨z, hz, rfl⟩ := Option.map_eq_some_iff.1 h
        exact step (sees_err E c6).1 ((le_nameP E _).trans (hb _ z hz))
      rw [if_neg c6] at h
      obtain ⟨x, hx, h⟩ := Option.bind_eq_some_iff.1 h
      obtain ⟨z, hz, rfl⟩ := Option.map_eq_some_iff.1 h
      have l1 := ((le_require E x.1 [61]).trans (he _ _ z hz)).trans (le_require E z.1 [59])
      refine ⟨(hp _ x hx).trans l1, ?_⟩
      rcases place_adv E hx with h1 | h1
      · left
        have := l1.2 h1
        simp only
        rw [this]; exact h1
      · right
        have := l1.1
        simp only
        omega
end
end Go.Proofs.YtaaaicpjlaeiiaaDoor.PP
