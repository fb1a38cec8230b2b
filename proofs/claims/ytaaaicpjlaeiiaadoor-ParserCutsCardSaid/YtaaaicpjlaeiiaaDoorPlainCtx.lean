/- An expression is read alike wherever its tokens stand, if a closing parenthesis or the end follows. -/
import Derived.Test.YtaaaicpjlaeiiaaDoorPlainPar5
import Derived.Test.YtaaaicpjlaeiiaaDoorPlainLevels
namespace Go.Proofs.YtaaaicpjlaeiiaaDoor.PP
open PL

structure Sim (E1 E2 : Env) (d : Nat) : Prop where
  tok : ∀ (i : Nat) t, E1.ts[i]? = some t → ∃ p, E2.ts[i + d]? = some ⟨t.kind, t.text, p⟩
  fin : E2.ts[E1.ts.length + d]? = none ∨ ∃ p, E2.ts[E1.ts.length + d]? = some ⟨3, [41], p⟩
def sh (d : Nat) (σ : St) : St := ⟨σ.next + d, σ.off, σ.err⟩
theorem more_iff (E : Env) (σ : St) : more E σ = true ↔ σ.err = 0 ∧ σ.next < E.ts.length := by simp [more]
theorem cur_of {E : Env} {σ : St} {t : Tok} (h : E.ts[σ.next]? = some t) : cur E σ = t := by
  unfold cur; rw [List.getD_eq_getElem?_getD, h]; rfl
section
variable {E1 E2 : Env} {d : Nat} (S : Sim E1 E2 d)
include S
theorem sim_more {σ : St} (h : more E1 σ = true) : more E2 (sh d σ) = true ∧ (cur E2 (sh d σ)).kind = (cur E1 σ).kind ∧ (cur E2 (sh d σ)).text = (cur E1 σ).text := by
  obtain ⟨h1, h2⟩ := (more_iff E1 σ).1 h
  obtain ⟨p, hp⟩ := S.tok _ _ (cur_at E1 h2)
  have hlt : σ.next + d < E2.ts.length := (List.getElem?_eq_some_iff.1 hp).1
  have hc : cur E2 (sh d σ) = ⟨(cur E1 σ).kind, (cur E1 σ).text, p⟩ := cur_of hp
  exact ⟨(more_iff E2 _).2 ⟨h1, hlt⟩, by rw [hc], by rw [hc]⟩
theorem sim_end {σ : St} (he : σ.err = 0) (hn : σ.next ≤ E1.ts.length) (h : more E1 σ = false) : more E2 (sh d σ) = false ∨ (more E2 (sh d σ) = true ∧ (cur E2 (sh d σ)).kind = 3 ∧ (cur E2 (sh d σ)).text = [41]) := by
  have hl : σ.next = E1.ts.length := by
    rcases Nat.lt_or_ge σ.next E1.ts.length with h1 | h1
    · rw [(more_iff E1 σ).2 ⟨he, h1⟩] at h; cases h
    · omega
  rcases S.fin with h1 | ⟨p, h1⟩
  · left
    have h2 : E2.ts.length ≤ E1.ts.length + d := List.getElem?_eq_none_iff.1 h1
    rcases more_cases E2 (sh d σ) with ⟨_, _, h3⟩ | ⟨h3, _⟩ | ⟨h3, _, _⟩
    · simp only [sh] at h3; omega
    · exact h3
    · exact h3
  · right
    have h2 : E2.ts[(sh d σ).next]? = some ⟨3, [41], p⟩ := by simp only [sh]; rw [hl]; exact h1
    have hc : cur E2 (sh d σ) = ⟨3, [41], p⟩ := cur_of h2
    exact ⟨(more_iff E2 _).2 ⟨he, (List.getElem?_eq_some_iff.1 h2).1⟩, by rw [hc], by rw [hc]⟩
theorem sim_sees {σ : St} (he : σ.err = 0) (hn : σ.next ≤ E1.ts.length) {x : List UInt8} (hx : x ≠ [41]) : sees E2 (sh d σ) x = sees E1 σ x := by
  cases hm : more E1 σ with
  | true =>
    obtain ⟨h1, _, h3⟩ := sim_more S hm
    unfold sees; rw [h1, hm, h3]
  | false =>
    unfold sees
    rw [hm]
    rcases sim_end S he hn hm with h1 | ⟨h1, _, h3⟩
    · rw [h1]; rfl
    · rw [h1, h3]
      simp only [Bool.true_and, Bool.false_and, beq_eq_false_iff_ne]
      exact fun e => hx e.symm
theorem sim_req {σ : St} {x : List UInt8} (h : (require E1 σ x).err = 0) : require E2 (sh d σ) x = sh d (require E1 σ x) ∧ (require E1 σ x).next ≤ E1.ts.length := by
  cases hs : sees E1 σ x with
  | false => unfold require at h; rw [hs] at h; exact absurd h (reject_err E1 σ)
  | true =>
    have hm : more E1 σ = true := by
      rcases sees_err E1 hs with ⟨h1, h2⟩
      exact (more_iff E1 σ).2 ⟨h1, h2⟩
    have h2 : sees E2 (sh d σ) x = true := by
      obtain ⟨h1, _, h3⟩ := sim_more S hm
      unfold sees at hs ⊢
      rw [hm] at hs
      rw [h1, h3]; exact hs
    unfold require
    rw [hs, h2]
    refine ⟨by simp [adv, sh]; omega, ?_⟩
    have := (sees_err E1 hs).2
    simp only [if_true, adv]; omega
theorem sim_name {σ : St} (h : (nameP E1 σ).1.err = 0) : nameP E2 (sh d σ) = (sh d (nameP E1 σ).1, (nameP E1 σ).2) ∧ (nameP E1 σ).1.next ≤ E1.ts.length := by
  cases hs : (more E1 σ && isName (cur E1 σ).text) with
  | false => unfold nameP at h; rw [hs] at h; exact absurd h (reject_err E1 σ)
  | true =>
    have hm : more E1 σ = true := by simp at hs; exact hs.1
    obtain ⟨h1, _, h3⟩ := sim_more S hm
    have h2 : (more E2 (sh d σ) && isName (cur E2 (sh d σ)).text) = true := by rw [h1, h3]; rw [hm] at hs; exact hs
    unfold nameP
    rw [hs, h2]
    refine ⟨by simp only [if_true, h3]; simp [adv, sh]; omega, ?_⟩
    have := ((more_iff E1 σ).1 hm).2
    simp only [if_true, adv]; omega
theorem sim_num {σ : St} {lo hi : Int} (h : (numP E1 σ lo hi).1.err = 0) : numP E2 (sh d σ) lo hi = (sh d (numP E1 σ lo hi).1, (numP E1 σ lo hi).2) ∧ (numP E1 σ lo hi).1.next ≤ E1.ts.length := by
  cases hs : (more E1 σ && decide ((cur E1 σ).kind = 2)) with
  | false => unfold numP at h; rw [hs] at h; exact absurd h (reject_err E1 σ)
  | true =>
    have hm : more E1 σ = true := by simp at hs; exact hs.1
    obtain ⟨h1, h4, h3⟩ := sim_more S hm
    have h2 : (more E2 (sh d σ) && decide ((cur E2 (sh d σ)).kind = 2)) = true := by rw [h1, h4]; rw [hm] at hs; exact hs
    unfold numP at h ⊢
    rw [hs] at h
    rw [hs, h2, h3]
    simp only [if_true] at h ⊢
    split
    · rename_i c; rw [if_pos c] at h; exact absurd h (fail_err (by decide))
    · refine ⟨by simp [adv, sh]; omega, ?_⟩
      have := ((more_iff E1 σ).1 hm).2
      simp only [adv]; omega
theorem sim_expr : ∀ (n : Nat), (∀ σ r, unary E1 n σ = some r → r.1.err = 0 → σ.next ≤ E1.ts.length → unary E2 n (sh d σ) = some (sh d r.1, r.2) ∧ r.1.next ≤ E1.ts.length) ∧
    (∀ σ r, primary E1 n σ = some r → r.1.err = 0 → σ.next ≤ E1.ts.length → primary E2 n (sh d σ) = some (sh d r.1, r.2) ∧ r.1.next ≤ E1.ts.length) ∧
    (∀ σ r, place E1 n σ = some r → r.1.err = 0 → σ.next ≤ E1.ts.length → place E2 n (sh d σ) = some (sh d r.1, r.2) ∧ r.1.next ≤ E1.ts.length) ∧
    (∀ l σ r, binary E1 n l σ = some r → r.1.err = 0 → σ.next ≤ E1.ts.length → binary E2 n l (sh d σ) = some (sh d r.1, r.2) ∧ r.1.next ≤ E1.ts.length) ∧
    (∀ l σ t r, binLoop E1 n l σ t = some r → r.1.err = 0 → σ.next ≤ E1.ts.length → binLoop E2 n l (sh d σ) t = some (sh d r.1, r.2) ∧ r.1.next ≤ E1.ts.length)
  | 0 => ⟨fun _ _ h => by simp [unary] at h, fun _ _ h => by simp [primary] at h, fun _ _ h => by simp [place] at h, fun _ _ _ h => by simp [binary] at h, fun _ _ _ _ h => by simp [binLoop] at h⟩
  | n + 1 => by
    obtain ⟨hu, hp, hpl, hb, hl⟩ := sim_expr n
    have hadv : ∀ σ : St, sh d (adv σ) = adv (sh d σ) := fun σ => by simp [sh, adv]; omega
    refine ⟨fun σ r h he hn => ?_, fun σ r h he hn => ?_, fun σ r h he hn => ?_, fun l σ r h he hn => ?_, fun l σ t r h he hn => ?_⟩
    · have h0 := ok_back ((expr_le E1 (n + 1)).1 _ _ h) he
      rw [unary] at h ⊢
      rw [sim_sees S h0 hn (by decide), sim_sees S h0 hn (by decide)]
      split at h
      · rename_i c; rw [if_pos c]
        obtain ⟨x, hx, rfl⟩ := Option.map_eq_some_iff.1 h
        have hb := (sees_err E1 c).2
        obtain ⟨k1, k2⟩ := hu _ _ hx he (by simp only [adv]; omega)
        rw [← hadv, k1]; exact ⟨rfl, k2⟩
      · rename_i c; rw [if_neg c]
        split at h
        · rename_i c; rw [if_pos c]
          obtain ⟨x, hx, rfl⟩ := Option.map_eq_some_iff.1 h
          have hb := (sees_err E1 c).2
          obtain ⟨k1, k2⟩ := hu _ _ hx he (by simp only [adv]; omega)
          rw [← hadv, k1]; exact ⟨rfl, k2⟩
        · rename_i c; rw [if_neg c]; exact hp _ _ h he hn
    · have h0 := ok_back ((expr_le E1 (n + 1)).2.1 _ _ h) he
      rw [primary] at h ⊢
      rw [sim_sees S h0 hn (by decide)]
      split at h
      · rename_i c; rw [if_pos c]
        obtain ⟨x, hx, rfl⟩ := Option.map_eq_some_iff.1 h
        have hbn := (sees_err E1 c).2
        obtain ⟨k1, k2⟩ := hb _ _ _ hx (ok_back (le_require E1 x.1 [41]) he) (by simp only [adv]; omega)
        obtain ⟨k3, k4⟩ := sim_req S (σ := x.1) (x := [41]) he
        rw [← hadv, k1]
        simp only [Option.map_some]
        exact ⟨by rw [k3], k4⟩
      · rename_i c; rw [if_neg c]
        split at h
        · rename_i c2
          injection h with h; subst h
          have hm : more E1 σ = true := by simp at c2; exact c2.1
          obtain ⟨h1, h4, _⟩ := sim_more S hm
          rw [h1, h4]
          rw [hm] at c2
          rw [if_pos c2]
          obtain ⟨k1, k2⟩ := sim_num S he
          exact ⟨by rw [k1], k2⟩
        · rename_i c2
          have hc2 : (more E2 (sh d σ) && decide ((cur E2 (sh d σ)).kind = 2)) = false := by
            cases hm : more E1 σ with
            | true =>
              obtain ⟨h1, h4, _⟩ := sim_more S hm
              rw [h1, h4]; rw [hm] at c2; simpa using c2
            | false =>
              rcases sim_end S h0 hn hm with h1 | ⟨h1, h4, _⟩
              · rw [h1]; rfl
              · rw [h1, h4]; rfl
          rw [hc2]
          simp only [Bool.false_eq_true, if_false]
          exact hpl _ _ h he hn
    · rw [place] at h ⊢
      split at h
      · rename_i c
        obtain ⟨x, hx, rfl⟩ := Option.map_eq_some_iff.1 h
        have e1 := ok_back (le_require E1 x.1 [93]) he
        have e2 := (sees_err E1 c).1
        obtain ⟨k1, k2⟩ := sim_name S e2
        have hbn := (sees_err E1 c).2
        rw [k1]
        simp only []
        rw [sim_sees S e2 k2 (by decide), if_pos c]
        obtain ⟨k3, k4⟩ := hb _ _ _ hx e1 (by simp only [adv]; omega)
        obtain ⟨k5, k6⟩ := sim_req S (σ := x.1) (x := [93]) he
        rw [← hadv, k3]
        simp only [Option.map_some]
        exact ⟨by rw [k5], k6⟩
      · rename_i c
        injection h with h; subst h
        obtain ⟨k1, k2⟩ := sim_name S he
        rw [k1]
        simp only []
        rw [sim_sees S he k2 (by decide), if_neg c]
        exact ⟨rfl, k2⟩
    · rw [binary] at h ⊢
      obtain ⟨x, hx, hr⟩ := Option.bind_eq_some_iff.1 h
      obtain ⟨k1, k2⟩ := hu _ _ hx (ok_back ((expr_le E1 n).2.2.2.2 _ _ _ _ hr) he) hn
      rw [k1]
      exact hl _ _ _ _ hr he k2
    · have h0 := ok_back ((expr_le E1 (n + 1)).2.2.2.2 _ _ _ _ h) he
      rw [binLoop] at h ⊢
      cases hm : more E1 σ with
      | true =>
        obtain ⟨h1, _, h3⟩ := sim_more S hm
        rw [hm] at h
        rw [h1, h3]
        simp only [if_true] at h ⊢
        split at h
        · rename_i op ho
          split at h
          · rename_i c
            injection h with h; subst h
            simp only [if_pos c]
            exact ⟨trivial, hn⟩
          · rename_i c
            simp only [if_neg c]
            obtain ⟨x, hx, hr⟩ := Option.bind_eq_some_iff.1 h
            obtain ⟨k1, k2⟩ := hb _ _ _ hx (ok_back ((expr_le E1 n).2.2.2.2 _ _ _ _ hr) he) (by have := ((more_iff E1 σ).1 hm).2; simp only [adv]; omega)
            rw [← hadv, k1]
            exact hl _ _ _ _ hr he k2
        · injection h with h; subst h
          exact ⟨rfl, hn⟩
      | false =>
        rw [hm] at h
        simp only [Bool.false_eq_true, if_false] at h
        injection h with h; subst h
        rcases sim_end S h0 hn hm with h1 | ⟨h1, _, h3⟩
        · rw [h1]; exact ⟨rfl, hn⟩
        · rw [h1, h3, show opOf [41] = none from rfl]
          exact ⟨rfl, hn⟩
end
end Go.Proofs.YtaaaicpjlaeiiaaDoor.PP
