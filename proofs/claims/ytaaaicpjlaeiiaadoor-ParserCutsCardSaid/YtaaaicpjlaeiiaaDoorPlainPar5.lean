/- The parser's plain functions: a tree has no more nodes than tokens were read, where there is no error. -/
import Derived.Test.YtaaaicpjlaeiiaaDoorPlainPar4
namespace Go.Proofs.YtaaaicpjlaeiiaaDoor.PP
open PL

section
variable (E : Env)
theorem ok_back {σ σ' : St} (h : Le σ σ') (he : σ'.err = 0) : σ.err = 0 := by
  by_cases h0 : σ.err = 0
  · exact h0
  · rw [h.2 h0] at he; exact absurd he h0
theorem require_ok {σ : St} {t : List UInt8} (h : (require E σ t).err = 0) : σ.next + 1 ≤ (require E σ t).next := by
  rcases require_adv E σ t with h1 | h1
  · exact absurd h h1
  · exact h1
theorem nameP_ok {σ : St} (h : (nameP E σ).1.err = 0) : σ.next + 1 ≤ (nameP E σ).1.next := by
  rcases nameP_adv E σ with h1 | h1
  · exact absurd h h1
  · exact h1
theorem numP_ok {σ : St} {lo hi : Int} (h : (numP E σ lo hi).1.err = 0) : σ.next + 1 ≤ (numP E σ lo hi).1.next := by
  unfold numP at h ⊢
  split
  · rename_i c
    rw [if_pos c] at h
    dsimp only at h ⊢
    split
    · rename_i d; rw [if_pos d] at h; exact absurd h (fail_err (by decide))
    · simp [adv]
  · rename_i c
    rw [if_neg c] at h
    exact absurd h (reject_err E σ)
theorem expr_size : ∀ (n : Nat), (∀ σ r, unary E n σ = some r → r.1.err = 0 → r.2.size + σ.next ≤ r.1.next) ∧ (∀ σ r, primary E n σ = some r → r.1.err = 0 → r.2.size + σ.next ≤ r.1.next) ∧ (∀ σ r, place E n σ = some r → r.1.err = 0 → r.2.size + σ.next ≤ r.1.next) ∧
    (∀ l σ r, binary E n l σ = some r → r.1.err = 0 → r.2.size + σ.next ≤ r.1.next) ∧ (∀ l σ t r, binLoop E n l σ t = some r → r.1.err = 0 → r.2.size + σ.next ≤ r.1.next + t.size)
  | 0 => ⟨fun _ _ h => by simp [unary] at h, fun _ _ h => by simp [primary] at h, fun _ _ h => by simp [place] at h, fun _ _ _ h => by simp [binary] at h, fun _ _ _ _ h => by simp [binLoop] at h⟩
  | n + 1 => by
    obtain ⟨hu, hp, hpl, hb, hl⟩ := expr_size n
    refine ⟨fun σ r h he => ?_, fun σ r h he => ?_, fun σ r h he => ?_, fun l σ r h he => ?_, fun l σ t r h he => ?_⟩
    · rw [unary] at h
      split at h
      · obtain ⟨x, hx, rfl⟩ := Option.map_eq_some_iff.1 h
        have := hu _ _ hx he
        simp only [Tree.size, sizeL, adv] at this ⊢; omega
      · split at h
        · obtain ⟨x, hx, rfl⟩ := Option.map_eq_some_iff.1 h
          have := hu _ _ hx he
          simp only [Tree.size, sizeL, adv] at this ⊢; omega
        · exact hp _ _ h he
    · rw [primary] at h
      split at h
      · obtain ⟨x, hx, rfl⟩ := Option.map_eq_some_iff.1 h
        have h1 := hb _ _ _ hx (ok_back (le_require E x.1 [41]) he)
        have h2 := (le_require E x.1 [41]).1
        simp only [adv] at h1 ⊢; omega
      · split at h
        · injection h with h; subst h
          have := numP_ok E he
          simp only [Tree.size, sizeL] at this ⊢; omega
        · exact hpl _ _ h he
    · rw [place] at h
      split at h
      · rename_i c
        obtain ⟨x, hx, rfl⟩ := Option.map_eq_some_iff.1 h
        have h1 := hb _ _ _ hx (ok_back (le_require E x.1 [93]) he)
        have h2 := (le_require E x.1 [93]).1
        have h3 := (le_nameP E σ).1
        simp only [Tree.size, sizeL, adv] at h1 ⊢; omega
      · injection h with h; subst h
        have := nameP_ok E he
        simp only [Tree.size, sizeL] at this ⊢; omega
    · rw [binary] at h
      obtain ⟨x, hx, hr⟩ := Option.bind_eq_some_iff.1 h
      have h1 := hl _ _ _ _ hr he
      have h2 := hu _ _ hx (ok_back ((expr_le E n).2.2.2.2 _ _ _ _ hr) he)
      omega
    · rw [binLoop] at h
      split at h
      · split at h
        · split at h
          · injection h with h; subst h; simp only; omega
          · obtain ⟨x, hx, hr⟩ := Option.bind_eq_some_iff.1 h
            have h1 := hl _ _ _ _ hr he
            have h2 := hb _ _ _ hx (ok_back ((expr_le E n).2.2.2.2 _ _ _ _ hr) he)
            simp only [Tree.size, sizeL, adv] at h1 h2; omega
        · injection h with h; subst h; simp only; omega
      · injection h with h; subst h; simp only; omega
theorem sizeL_app (l m : List Tree) : sizeL (l ++ m) = sizeL l + sizeL m := by
  induction l with
  | nil => simp [sizeL]
  | cons a l ih => simp only [List.cons_append, sizeL, ih]; omega
theorem stmt_size : ∀ (n : Nat), (∀ top σ acc r, stmts E n top σ acc = some r → r.1.err = 0 → sizeL r.2 + σ.next ≤ r.1.next + sizeL acc) ∧ (∀ σ r, block E n σ = some r → r.1.err = 0 → r.2.size + σ.next ≤ r.1.next) ∧
    (∀ σ r, choice E n σ = some r → r.1.err = 0 → r.2.size + σ.next ≤ r.1.next) ∧ (∀ σ r, statement E n σ = some r → r.1.err = 0 → r.2.size + σ.next ≤ r.1.next)
  | 0 => ⟨fun _ _ _ _ h => by simp [stmts] at h, fun _ _ h => by simp [block] at h, fun _ _ h => by simp [choice] at h, fun _ _ h => by simp [statement] at h⟩
  | n + 1 => by
    obtain ⟨hs, hb, hc, ht⟩ := stmt_size n
    have hbs : ∀ l σ r, binary E n l σ = some r → r.1.err = 0 → r.2.size + σ.next ≤ r.1.next := (expr_size E n).2.2.2.1
    have hps : ∀ σ r, place E n σ = some r → r.1.err = 0 → r.2.size + σ.next ≤ r.1.next := (expr_size E n).2.2.1
    have kb : ∀ σ r, block E n σ = some r → Le σ r.1 := (stmt_le E n).2.1
    have ke : ∀ l σ r, binary E n l σ = some r → Le σ r.1 := (expr_le E n).2.2.2.1
    refine ⟨fun top σ acc r h he => ?_, fun σ r h he => ?_, fun σ r h he => ?_, fun σ r h he => ?_⟩
    · rw [stmts] at h
      split at h
      · obtain ⟨x, hx, hr⟩ := Option.bind_eq_some_iff.1 h
        have h1 := hs _ _ _ _ hr he
        have h2 := ht _ _ hx (ok_back ((stmt_le E n).1 _ _ _ _ hr) he)
        rw [sizeL_app] at h1
        simp only [sizeL] at h1; omega
      · injection h with h; subst h; simp only; omega
    · rw [block] at h
      obtain ⟨x, hx, rfl⟩ := Option.map_eq_some_iff.1 h
      have e1 := ok_back (le_require E x.1 [125]) he
      have h1 := hs _ _ _ _ hx e1
      have h2 := require_ok E he
      have h3 := (le_require E σ [123]).1
      simp only [Tree.size, sizeL] at h1 h2 ⊢; omega
    · rw [choice] at h
      obtain ⟨x, hx, h⟩ := Option.bind_eq_some_iff.1 h
      obtain ⟨y, hy, h⟩ := Option.bind_eq_some_iff.1 h
      obtain ⟨z, hz, rfl⟩ := Option.map_eq_some_iff.1 h
      have e1 := ok_back (kb _ z hz) he
      have e2 := ok_back (le_require E y.1 _) e1
      have e3 := ok_back (kb _ y hy) e2
      have e4 := ok_back (ke _ _ x hx) e3
      have h1 := hbs _ _ x hx e3
      have h2 := hb _ y hy e2
      have h3 := hb _ z hz he
      have h4 := require_ok E e4
      have h5 := (le_require E y.1 [101, 108, 115, 101]).1
      simp only [Tree.size, sizeL] at h1 h2 h3 h4 h5 ⊢; omega
    · rw [statement] at h
      by_cases c1 : sees E σ [105, 102] = true
      · rw [if_pos c1] at h
        exact hc _ _ h he
      rw [if_neg c1] at h
      by_cases c2 : sees E σ [102, 111, 114] = true
      · rw [if_pos c2] at h
        obtain ⟨z, hz, rfl⟩ := Option.map_eq_some_iff.1 h
        have h1 := hb _ z hz he
        have h2 := ((le_nameP E (adv σ)).trans ((le_require E _ [60]).trans (le_numP E (require E (nameP E (adv σ)).1 [60]) 1 1000))).1
        simp only [Tree.size, sizeL, adv] at h1 h2 ⊢; omega
      rw [if_neg c2] at h
      by_cases c3 : sees E σ [119, 104, 105, 108, 101] = true
      · rw [if_pos c3] at h
        obtain ⟨x, hx, h⟩ := Option.bind_eq_some_iff.1 h
        obtain ⟨z, hz, rfl⟩ := Option.map_eq_some_iff.1 h
        have e1 := ok_back (kb _ z hz) he
        have e2 := ok_back (le_numP E _ _ _) e1
        have e3 := ok_back (le_require E _ _) e2
        have h1 := hbs _ _ x hx e3
        have h2 := hb _ z hz he
        have h3 := ((le_require E x.1 [98, 111, 117, 110, 100]).trans (le_numP E (require E x.1 [98, 111, 117, 110, 100]) 1 1000)).1
        simp only [Tree.size, sizeL, adv] at h1 h2 h3 ⊢; omega
      rw [if_neg c3] at h
      by_cases c4 : sees E σ [105, 110] = true
      · rw [if_pos c4] at h
        obtain ⟨z, hz, rfl⟩ := Option.map_eq_some_iff.1 h
        have e1 := ok_back (le_transfer E 44 z.2 z.1) he
        have h1 := hps _ z hz e1
        have h2 := (le_transfer E 44 z.2 z.1).1
        simp only [adv] at h1
        simp only [transfer, Tree.size, sizeL] at h1 h2 ⊢; omega
      rw [if_neg c4] at h
      by_cases c5 : sees E σ [111, 117, 116] = true
      · rw [if_pos c5] at h
        obtain ⟨z, hz, rfl⟩ := Option.map_eq_some_iff.1 h
        have e1 := ok_back (le_transfer E 45 z.2 z.1) he
        have h1 := hbs _ _ z hz e1
        have h2 := (le_transfer E 45 z.2 z.1).1
        simp only [adv] at h1
        simp only [transfer, Tree.size, sizeL] at h1 h2 ⊢; omega
      rw [if_neg c5] at h
      by_cases c6 : sees E σ [108, 111, 99, 107] = true
      · rw [if_pos c6] at h
        obtain ⟨z, hz, rfl⟩ := Option.map_eq_some_iff.1 h
        have h1 := hb _ z hz he
        have h2 := (le_nameP E (adv σ)).1
        simp only [Tree.size, sizeL, adv] at h1 h2 ⊢; omega
      rw [if_neg c6] at h
      obtain ⟨x, hx, h⟩ := Option.bind_eq_some_iff.1 h
      obtain ⟨z, hz, rfl⟩ := Option.map_eq_some_iff.1 h
      have e1 := ok_back (le_require E z.1 [59]) he
      have e2 := ok_back (ke _ _ z hz) e1
      have e3 := ok_back (le_require E x.1 [61]) e2
      have h1 := hps _ x hx e3
      have h2 := hbs _ _ z hz e1
      have h3 := require_ok E he
      have h4 := (le_require E x.1 [61]).1
      simp only [Tree.size, sizeL] at h1 h2 h3 ⊢; omega
theorem arrayP_next (σ : St) : σ.next < (arrayP E σ).1.next := by
  have h1 := ((le_nameP E (adv σ)).trans ((le_require E (nameP E (adv σ)).1 [91]).trans ((le_numP E (require E (nameP E (adv σ)).1 [91]) 1 32).trans ((le_require E (numP E (require E (nameP E (adv σ)).1 [91]) 1 32).1 [93]).trans (le_require E (require E (numP E (require E (nameP E (adv σ)).1 [91]) 1 32).1 [93]) [59]))))).1
  have h2 : (adv σ).next = σ.next + 1 := rfl
  have h3 : (arrayP E σ).1 = require E (require E (numP E (require E (nameP E (adv σ)).1 [91]) 1 32).1 [93]) [59] := rfl
  rw [h3]; omega
theorem variableP_next (σ : St) : σ.next < (variableP E σ).1.next := by
  have h1 := ((le_nameP E (adv σ)).trans (le_require E (nameP E (adv σ)).1 [59])).1
  have h2 : (adv σ).next = σ.next + 1 := rfl
  have h3 : (variableP E σ).1 = require E (nameP E (adv σ)).1 [59] := rfl
  rw [h3]; omega
theorem decls_next : ∀ (n : Nat) σ vs ar r, decls E n σ vs ar = some r → σ.next ≤ r.1.next
  | 0, _, _, _, _, h => by simp [decls] at h
  | n + 1, σ, vs, ar, r, h => by
    rw [decls] at h
    split at h
    · split at h
      · have h1 := decls_next n _ _ _ _ h
        have h2 := arrayP_next E σ
        omega
      · split at h
        · have h1 := decls_next n _ _ _ _ h
          have h2 := variableP_next E σ
          omega
        · have h1 := decls_next n _ _ _ _ h
          have h2 := (le_fail σ (here E σ) 5).1
          omega
    · injection h with h; subst h; exact Nat.le_refl _
theorem limitP_next (t : Tree) (o : Nat) (σ : St) : (limitP t o σ).next = σ.next := by
  unfold limitP
  split
  · split
    · unfold fail; split <;> rfl
    · rfl
  · rfl
end
end Go.Proofs.YtaaaicpjlaeiiaaDoor.PP
