/- Merged from PlainCuts, PlainWay, PlainCut2, PlainCut3, PlainCut4. -/
import Derived.Test.YtaaaicpjlaeiiaaDoorPlainParens
import Derived.Test.YtaaaicpjlaeiiaaDoorPlainLevels
import Derived.Test.YtaaaicpjlaeiiaaDoorPlainLex3
/- The tokens of a correct text up to a point: the parser's plain functions read the same, or come to the end. -/
namespace Go.Proofs.YtaaaicpjlaeiiaaDoor.PP
open PL

structure Cut (E1 E2 : Env) (k : Nat) : Prop where
  ts : E2.ts = E1.ts.take k
  lt : k < E1.ts.length
/-- A state of the shorter text in which it is at its end, with or without the error. -/
def Bad (E2 : Env) (k : Nat) (σ : St) : Prop := (σ.err = 4 ∧ σ.off = E2.L) ∨ (σ.err = 0 ∧ σ.next = k)
def Hit (E2 : Env) (σ : St) : Prop := σ.err = 4 ∧ σ.off = E2.L
theorem Hit.bad {E2 : Env} {k : Nat} {σ : St} (h : Hit E2 σ) : Bad E2 k σ := .inl h
def Res {α : Type} (E2 : Env) (k : Nat) (o : Option (St × α)) (r : St × α) : Prop := (r.1.next ≤ k ∧ o = some r) ∨ (k < r.1.next ∧ ∃ r2, o = some r2 ∧ Bad E2 k r2.1)
section
variable {E1 E2 : Env} {k : Nat} (C : Cut E1 E2 k)
include C
theorem cut_len : E2.ts.length = k := by rw [C.ts, List.length_take]; have := C.lt; omega
theorem cut_more {σ : St} (he : σ.err = 0) (hn : σ.next < k) : more E1 σ = true ∧ more E2 σ = true ∧ cur E2 σ = cur E1 σ := by
  have h1 := C.lt
  have h2 := cut_len C
  refine ⟨(more_iff E1 σ).2 ⟨he, by omega⟩, (more_iff E2 σ).2 ⟨he, by omega⟩, ?_⟩
  unfold cur
  rw [List.getD_eq_getElem?_getD, List.getD_eq_getElem?_getD, C.ts, List.getElem?_take, if_pos hn]
theorem cut_sees {σ : St} (he : σ.err = 0) (hn : σ.next < k) (x : List UInt8) : sees E2 σ x = sees E1 σ x := by
  obtain ⟨h1, h2, h3⟩ := cut_more C he hn
  unfold sees; rw [h1, h2, h3]
theorem end_more {σ : St} (h : Bad E2 k σ) : more E2 σ = false := by
  have h2 := cut_len C
  rcases more_cases E2 σ with ⟨_, h3, h4⟩ | ⟨h3, _⟩ | ⟨h3, _, _⟩
  · rcases h with ⟨h5, _⟩ | ⟨_, h5⟩ <;> omega
  · exact h3
  · exact h3
theorem end_sees {σ : St} (h : Bad E2 k σ) (x : List UInt8) : sees E2 σ x = false := by unfold sees; rw [end_more C h]; rfl
theorem bad_reject {σ : St} (h : Bad E2 k σ) : Hit E2 (reject E2 σ) := by
  have h2 := cut_len C
  unfold reject here
  rcases h with ⟨h1, h3⟩ | ⟨h1, h3⟩
  · have : ∀ o e, fail σ o e = σ := fun o e => by unfold fail; rw [if_neg (by omega)]
    rw [this, this]
    split <;> exact ⟨h1, h3⟩
  · rw [if_neg (by omega)]
    unfold fail
    rw [if_pos h1, if_neg (by omega)]
    exact ⟨rfl, rfl⟩
theorem bad_require {σ : St} (h : Bad E2 k σ) (x : List UInt8) : Hit E2 (require E2 σ x) := by
  unfold require; rw [end_sees C h]
  exact bad_reject C h
theorem bad_name {σ : St} (h : Bad E2 k σ) : Hit E2 (nameP E2 σ).1 := by
  unfold nameP; rw [end_more C h]
  exact bad_reject C h
theorem bad_num {σ : St} (h : Bad E2 k σ) (lo hi : Int) : Hit E2 (numP E2 σ lo hi).1 := by
  unfold numP; rw [end_more C h]
  exact bad_reject C h
theorem cut_require {σ : St} {x : List UInt8} (he : σ.err = 0) (hn : σ.next ≤ k) (h : (require E1 σ x).err = 0) : ((require E1 σ x).next ≤ k ∧ require E2 σ x = require E1 σ x) ∨ (k < (require E1 σ x).next ∧ Hit E2 (require E2 σ x)) := by
  have h1 := require_ok E1 h
  rcases Nat.lt_or_ge σ.next k with h2 | h2
  · have hs := cut_sees C he h2 x
    cases hx : sees E1 σ x with
    | false => unfold require at h; rw [hx] at h; exact absurd h (reject_err E1 σ)
    | true =>
      rw [hx] at hs
      left
      unfold require
      rw [hx, hs]
      refine ⟨?_, rfl⟩
      simp only [if_true, adv]; omega
  · right
    exact ⟨by omega, bad_require C (.inr ⟨he, by omega⟩) x⟩
theorem cut_name {σ : St} (he : σ.err = 0) (hn : σ.next ≤ k) (h : (nameP E1 σ).1.err = 0) : ((nameP E1 σ).1.next ≤ k ∧ nameP E2 σ = nameP E1 σ) ∨ (k < (nameP E1 σ).1.next ∧ Hit E2 (nameP E2 σ).1) := by
  have h1 := nameP_ok E1 h
  rcases Nat.lt_or_ge σ.next k with h2 | h2
  · obtain ⟨m1, m2, hc⟩ := cut_more C he h2
    left
    have e : nameP E2 σ = nameP E1 σ := by
      unfold nameP at h ⊢
      rw [m1] at h
      rw [m1, m2, hc]
      cases hx : isName (cur E1 σ).text with
      | false => rw [hx] at h; exact absurd h (reject_err E1 σ)
      | true => rfl
    refine ⟨?_, e⟩
    unfold nameP
    split
    · simp only [adv]; omega
    · rename_i c
      unfold nameP at h
      rw [if_neg c] at h
      exact absurd h (reject_err E1 σ)
  · right
    exact ⟨by omega, bad_name C (.inr ⟨he, by omega⟩)⟩
theorem cut_num {σ : St} {lo hi : Int} (he : σ.err = 0) (hn : σ.next ≤ k) (h : (numP E1 σ lo hi).1.err = 0) : ((numP E1 σ lo hi).1.next ≤ k ∧ numP E2 σ lo hi = numP E1 σ lo hi) ∨ (k < (numP E1 σ lo hi).1.next ∧ Hit E2 (numP E2 σ lo hi).1) := by
  have h1 := numP_ok E1 h
  rcases Nat.lt_or_ge σ.next k with h2 | h2
  · obtain ⟨m1, m2, hc⟩ := cut_more C he h2
    left
    cases hx : decide ((cur E1 σ).kind = 2) with
    | false => unfold numP at h; rw [m1, hx] at h; exact absurd h (reject_err E1 σ)
    | true =>
      have e1 : numP E1 σ lo hi = (adv σ, digitsVal hi 0 ((cur E1 σ).text.dropWhile (· == 48))) := by
        unfold numP at h ⊢
        rw [m1, hx] at h
        rw [m1, hx]
        simp only [Bool.and_self, if_true] at h ⊢
        split
        · rename_i c; rw [if_pos c] at h; exact absurd h (fail_err (by decide))
        · rfl
      have e2 : numP E2 σ lo hi = numP E1 σ lo hi := by
        rw [e1]
        unfold numP at h ⊢
        rw [m1, hx] at h
        rw [m2, hc, hx]
        simp only [Bool.and_self, if_true] at h ⊢
        split
        · rename_i c; rw [if_pos c] at h; exact absurd h (fail_err (by decide))
        · rfl
      refine ⟨?_, e2⟩
      rw [e1]; simp only [adv]; omega
  · right
    exact ⟨by omega, bad_num C (.inr ⟨he, by omega⟩) lo hi⟩
/-- From the end on, every reader of expressions comes to the error. -/
theorem bad_place {σ : St} (h : Bad E2 k σ) (n : Nat) : ∃ r, place E2 (n + 1) σ = some r ∧ Hit E2 r.1 := by
  have h1 := bad_name C h
  rw [place, end_sees C (Hit.bad h1)]
  exact ⟨_, rfl, h1⟩
theorem bad_unary {σ : St} (h : Bad E2 k σ) (n : Nat) : ∃ r, unary E2 (n + 3) σ = some r ∧ Hit E2 r.1 := by
  rw [unary, end_sees C h, end_sees C h]
  simp only [Bool.false_eq_true, if_false]
  rw [primary, end_sees C h, end_more C h]
  exact bad_place C h n
theorem bad_binary {σ : St} (h : Bad E2 k σ) (n l : Nat) : ∃ r, binary E2 (n + 4) l σ = some r ∧ Hit E2 r.1 := by
  obtain ⟨r, hr, hh⟩ := bad_unary C h n
  rw [binary, hr, Option.bind_some, binLoop, end_more C (Hit.bad hh)]
  exact ⟨_, rfl, hh⟩
theorem bad_binLoop {σ : St} (h : Bad E2 k σ) (n l : Nat) (t : Tree) : binLoop E2 (n + 1) l σ t = some (σ, t) := by
  rw [binLoop, end_more C h]; rfl
omit C in
theorem Res.bind {α β : Type} {o : Option (St × α)} {x : St × α} {f : St × α → Option (St × β)} {r : St × β} (h : Res E2 k o x) (hle : x.1.next ≤ r.1.next) (hl : x.1.next ≤ k → Res E2 k (f x) r) (hb : ∀ y : St × α, Bad E2 k y.1 → ∃ z, f y = some z ∧ Bad E2 k z.1) : Res E2 k (o.bind f) r := by
  rcases h with ⟨h1, h2⟩ | ⟨h1, y, h2, h3⟩
  · rw [h2]; exact hl h1
  · right
    obtain ⟨z, hz, hz2⟩ := hb y h3
    exact ⟨by omega, z, by rw [h2]; exact hz, hz2⟩
omit C in
theorem Res.map1 {α β : Type} {o : Option (St × α)} {x : St × α} {f : α → β} (h : Res E2 k o x) : Res E2 k (o.map fun y => (y.1, f y.2)) (x.1, f x.2) := by
  rcases h with ⟨h1, h2⟩ | ⟨h1, y, h2, h3⟩
  · left; exact ⟨h1, by rw [h2]; rfl⟩
  · right; exact ⟨h1, (y.1, f y.2), by rw [h2]; rfl, h3⟩
theorem Res.req {α β : Type} {o : Option (St × α)} {x : St × α} {f : α → β} {t : List UInt8} (h : Res E2 k o x) (hx : x.1.err = 0) (he : (require E1 x.1 t).err = 0) : Res E2 k (o.map fun y => (require E2 y.1 t, f y.2)) (require E1 x.1 t, f x.2) := by
  rcases h with ⟨h1, h2⟩ | ⟨h1, y, h2, h3⟩
  · rcases cut_require C hx h1 he with ⟨h4, h5⟩ | ⟨h4, h5⟩
    · left; exact ⟨h4, by rw [h2]; simp only [Option.map_some, h5]⟩
    · right; exact ⟨h4, _, by rw [h2]; rfl, h5.bad⟩
  · right
    refine ⟨?_, _, by rw [h2]; rfl, (bad_require C h3 t).bad⟩
    have := (le_require E1 x.1 t).1
    simp only; omega
omit C in
theorem tree_pos (t : Tree) : 1 ≤ t.size := by cases t; simp only [Tree.size]; omega
omit C in
theorem loop_still (E : Env) {n l : Nat} {σ : St} {t : Tree} {r : St × Tree} (h : binLoop E n l σ t = some r) (hn : r.1.next ≤ σ.next) : r = (σ, t) := by
  cases n with
  | zero => simp [binLoop] at h
  | succ n =>
    rw [binLoop] at h
    split at h
    · split at h
      · split at h
        · injection h with h; exact h.symm
        · obtain ⟨x, hx, hr⟩ := Option.bind_eq_some_iff.1 h
          have h1 := ((expr_le E n).2.2.2.2 _ _ _ _ hr).1
          have h2 := ((expr_le E n).2.2.2.1 _ _ _ hx).1
          simp only [adv] at h2
          omega
      · injection h with h; exact h.symm
    · injection h with h; exact h.symm
theorem cut_expr : ∀ (n : Nat), (∀ σ r, unary E1 n σ = some r → r.1.err = 0 → σ.next ≤ k → Res E2 k (unary E2 (n + 4) σ) r) ∧ (∀ σ r, primary E1 n σ = some r → r.1.err = 0 → σ.next ≤ k → Res E2 k (primary E2 (n + 4) σ) r) ∧
    (∀ σ r, place E1 n σ = some r → r.1.err = 0 → σ.next ≤ k → Res E2 k (place E2 (n + 4) σ) r) ∧ (∀ l σ r, binary E1 n l σ = some r → r.1.err = 0 → σ.next ≤ k → Res E2 k (binary E2 (n + 4) l σ) r) ∧
    (∀ l σ t r, binLoop E1 n l σ t = some r → r.1.err = 0 → σ.next ≤ k → Res E2 k (binLoop E2 (n + 4) l σ t) r)
  | 0 => ⟨fun _ _ h => by simp [unary] at h, fun _ _ h => by simp [primary] at h, fun _ _ h => by simp [place] at h, fun _ _ _ h => by simp [binary] at h, fun _ _ _ _ h => by simp [binLoop] at h⟩
  | n + 1 => by
    obtain ⟨hu, hp, hpl, hb, hl⟩ := cut_expr n
    have far : ∀ {α : Type} {σ : St} {o : Option (St × α)} {r : St × α}, σ.next = k → σ.next < r.1.next → (∃ y, o = some y ∧ Bad E2 k y.1) → Res E2 k o r := fun h1 h2 ⟨y, h3, h4⟩ => .inr ⟨by omega, y, h3, h4⟩
    refine ⟨fun σ r h he hn => ?_, fun σ r h he hn => ?_, fun σ r h he hn => ?_, fun l σ r h he hn => ?_, fun l σ t r h he hn => ?_⟩
    · have h0 := ok_back ((expr_le E1 (n + 1)).1 _ _ h) he
      have hpr := (expr_size E1 (n + 1)).1 _ _ h he
      have hs1 := tree_pos r.2
      rcases Nat.lt_or_ge σ.next k with hlt | hge
      · rw [unary] at h
        rw [show n + 1 + 4 = n + 4 + 1 from by omega, unary, cut_sees C h0 hlt, cut_sees C h0 hlt]
        split at h
        · rename_i c; rw [if_pos c]
          obtain ⟨x, hx, rfl⟩ := Option.map_eq_some_iff.1 h
          exact (hu _ _ hx he (by simp only [adv]; omega)).map1 (f := fun t => Tree.node 4 0 [] [t])
        · rename_i c; rw [if_neg c]
          split at h
          · rename_i c; rw [if_pos c]
            obtain ⟨x, hx, rfl⟩ := Option.map_eq_some_iff.1 h
            exact (hu _ _ hx he (by simp only [adv]; omega)).map1 (f := fun t => Tree.node 5 0 [] [t])
          · rename_i c; rw [if_neg c]; exact hp _ _ h he hn
      · obtain ⟨y, h1, h2⟩ := bad_unary C (.inr ⟨h0, by omega⟩) (n + 2)
        exact far (σ := σ) (by omega) (by omega) ⟨y, h1, h2.bad⟩
    · have h0 := ok_back ((expr_le E1 (n + 1)).2.1 _ _ h) he
      have hpr := (expr_size E1 (n + 1)).2.1 _ _ h he
      have hs1 := tree_pos r.2
      rcases Nat.lt_or_ge σ.next k with hlt | hge
      · obtain ⟨m1, m2, hc⟩ := cut_more C h0 hlt
        rw [primary] at h
        rw [show n + 1 + 4 = n + 4 + 1 from by omega, primary, cut_sees C h0 hlt, m2, hc]
        rw [m1] at h
        split at h
        · rename_i c; rw [if_pos c]
          obtain ⟨x, hx, rfl⟩ := Option.map_eq_some_iff.1 h
          have e1 := ok_back (le_require E1 x.1 [41]) he
          exact Res.req C (f := fun t => t) (hb _ _ _ hx e1 (by simp only [adv]; omega)) e1 he
        · rename_i c; rw [if_neg c]
          split at h
          · rename_i c; rw [if_pos c]
            injection h with h; subst h
            rcases cut_num C h0 hn he with ⟨h1, h2⟩ | ⟨h1, h2⟩
            · left; exact ⟨h1, by rw [h2]⟩
            · right; exact ⟨h1, _, rfl, h2.bad⟩
          · rename_i c; rw [if_neg c]; exact hpl _ _ h he hn
      · have hB : Bad E2 k σ := .inr ⟨h0, by omega⟩
        obtain ⟨y, h1, h2⟩ := bad_place C hB (n + 3)
        refine far (σ := σ) (by omega) (by omega) ⟨y, ?_, h2.bad⟩
        rw [show n + 1 + 4 = n + 4 + 1 from by omega, primary, end_sees C hB, end_more C hB]
        exact h1
    · have h0 := ok_back ((expr_le E1 (n + 1)).2.2.1 _ _ h) he
      have hpr := (expr_size E1 (n + 1)).2.2.1 _ _ h he
      have hs1 := tree_pos r.2
      rw [place] at h
      rw [show n + 1 + 4 = n + 4 + 1 from by omega, place]
      split at h
      · rename_i c
        obtain ⟨x, hx, rfl⟩ := Option.map_eq_some_iff.1 h
        have e1 := ok_back (le_require E1 x.1 [93]) he
        have e2 := (sees_err E1 c).1
        have hle1 := ((expr_le E1 n).2.2.2.1 _ _ _ hx).1
        have hle2 := (le_require E1 x.1 [93]).1
        rcases cut_name C h0 hn e2 with ⟨h1, h2⟩ | ⟨h1, h2⟩
        · rw [h2]
          rcases Nat.lt_or_ge (nameP E1 σ).1.next k with h3 | h3
          · rw [cut_sees C e2 h3, if_pos c]
            exact Res.req C (f := fun t => Tree.node 3 0 (nameP E1 σ).2 [t]) (hb _ _ _ hx e1 (by simp only [adv]; omega)) e1 he
          · have hB : Bad E2 k (nameP E1 σ).1 := .inr ⟨e2, by omega⟩
            rw [end_sees C hB]
            right
            refine ⟨?_, _, rfl, hB⟩
            simp only [adv] at hle1 ⊢; omega
        · rw [end_sees C h2.bad]
          right
          refine ⟨?_, _, rfl, h2.bad⟩
          simp only [adv] at hle1 ⊢; omega
      · rename_i c
        injection h with h; subst h
        rcases cut_name C h0 hn he with ⟨h1, h2⟩ | ⟨h1, h2⟩
        · rw [h2]
          left
          refine ⟨h1, ?_⟩
          rcases Nat.lt_or_ge (nameP E1 σ).1.next k with h3 | h3
          · rw [cut_sees C he h3, if_neg c]
          · rw [end_sees C (.inr ⟨he, Nat.le_antisymm h1 h3⟩)]; rfl
        · rw [end_sees C h2.bad]
          right
          exact ⟨h1, _, rfl, h2.bad⟩
    · rw [binary] at h
      rw [show n + 1 + 4 = n + 4 + 1 from by omega, binary]
      obtain ⟨x, hx, hr⟩ := Option.bind_eq_some_iff.1 h
      have e1 := ok_back ((expr_le E1 n).2.2.2.2 _ _ _ _ hr) he
      refine Res.bind (hu _ _ hx e1 hn) ((expr_le E1 n).2.2.2.2 _ _ _ _ hr).1 (fun h1 => hl _ _ _ _ hr he h1) (fun y hy => ⟨_, ?_, hy⟩)
      exact bad_binLoop C hy (n + 3) _ _
    · have h0 := ok_back ((expr_le E1 (n + 1)).2.2.2.2 _ _ _ _ h) he
      rcases Nat.lt_or_ge σ.next k with hlt | hge
      · obtain ⟨m1, m2, hc⟩ := cut_more C h0 hlt
        rw [binLoop] at h
        rw [show n + 1 + 4 = n + 4 + 1 from by omega, binLoop, m2, hc]
        rw [m1] at h
        simp only [if_true] at h ⊢
        split at h
        · split at h
          · rename_i c
            injection h with h; subst h
            simp only [if_pos c]
            exact .inl ⟨hn, rfl⟩
          · rename_i c
            simp only [if_neg c]
            obtain ⟨x, hx, hr⟩ := Option.bind_eq_some_iff.1 h
            have e1 := ok_back ((expr_le E1 n).2.2.2.2 _ _ _ _ hr) he
            refine Res.bind (hb _ _ _ hx e1 (by simp only [adv]; omega)) ((expr_le E1 n).2.2.2.2 _ _ _ _ hr).1 (fun h1 => hl _ _ _ _ hr he h1) (fun y hy => ⟨(y.1, _), bad_binLoop C hy (n + 3) _ _, hy⟩)
        · injection h with h; subst h
          exact .inl ⟨hn, rfl⟩
      · have hB : Bad E2 k σ := .inr ⟨h0, by omega⟩
        have h1 := bad_binLoop C hB (n + 4) l t
        have hle := ((expr_le E1 (n + 1)).2.2.2.2 _ _ _ _ h)
        rcases Nat.lt_or_ge k r.1.next with h2 | h2
        · exact .inr ⟨h2, _, h1, hB⟩
        · left
          refine ⟨h2, ?_⟩
          rw [h1]
          have := loop_still E1 h (by omega)
          rw [this]
end
end Go.Proofs.YtaaaicpjlaeiiaaDoor.PP
/- What a reader passes over without an error holds no keyword that begins a declaration of the program, and the offset stays. -/
namespace Go.Proofs.YtaaaicpjlaeiiaaDoor.PP
open PL
section
variable (E : Env)
def Free (t : List UInt8) : Prop := t ≠ kwTask ∧ t ≠ kwShared
instance (t : List UInt8) : Decidable (Free t) := by unfold Free; infer_instance
def Nums : Prop := ∀ σ : St, σ.next < E.ts.length → (cur E σ).kind = 2 → Free (cur E σ).text
def tokAt (m : Nat) : Tok := E.ts.getD m ⟨0, [], 0⟩
def Way (σ σ' : St) : Prop := σ'.err = 0 → σ.err = 0 ∧ σ.next ≤ σ'.next ∧ σ'.off = σ.off ∧ ∀ m, σ.next ≤ m → m < σ'.next → Free (tokAt E m).text
theorem Way.refl (σ : St) : Way E σ σ := fun h => ⟨h, Nat.le_refl _, rfl, fun m h1 h2 => absurd h1 (by omega)⟩
theorem Way.trans {E : Env} {a b c : St} (h : Way E a b) (k : Way E b c) : Way E a c := fun e => by
  obtain ⟨k1, k2, k3, k4⟩ := k e
  obtain ⟨h1, h2, h3, h4⟩ := h k1
  refine ⟨h1, Nat.le_trans h2 k2, k3.trans h3, fun m m1 m2 => ?_⟩
  rcases Nat.lt_or_ge m b.next with h | h
  · exact h4 m m1 h
  · exact k4 m h m2
theorem way_fail (σ : St) (o : Nat) {e : Nat} (he : e ≠ 0) : Way E σ (fail σ o e) := fun h => absurd h (fail_err he)
theorem way_reject (σ : St) : Way E σ (reject E σ) := fun h => absurd h (reject_err E σ)
theorem way_one {σ : St} (h : Free (cur E σ).text) : Way E σ (adv σ) := fun e => by
  refine ⟨e, by simp [adv], rfl, fun m h1 h2 => ?_⟩
  simp only [adv] at h2
  have : m = σ.next := by omega
  subst this
  exact h
theorem sees_text {σ : St} {t : List UInt8} (h : sees E σ t = true) : (cur E σ).text = t := by
  unfold sees at h
  rw [Bool.and_eq_true] at h
  exact LawfulBEq.eq_of_beq h.2
theorem way_adv {σ : St} {t : List UInt8} (h : sees E σ t = true) (ht : Free t) : Way E σ (adv σ) := way_one E (by rw [sees_text E h]; exact ht)
theorem way_require (σ : St) {t : List UInt8} (ht : Free t) : Way E σ (require E σ t) := by
  unfold require
  split
  · rename_i c; exact way_adv E c ht
  · exact way_reject E σ
theorem way_nameP (σ : St) : Way E σ (nameP E σ).1 := by
  unfold nameP
  split
  · rename_i c
    rw [Bool.and_eq_true] at c
    refine way_one E ⟨fun h => ?_, fun h => ?_⟩
    · rw [h] at c; exact absurd c.2 (by decide)
    · rw [h] at c; exact absurd c.2 (by decide)
  · exact way_reject E σ
variable (N : Nums E)
include N
theorem way_numP (σ : St) (lo hi : Int) : Way E σ (numP E σ lo hi).1 := by
  unfold numP
  split
  · rename_i c
    rw [Bool.and_eq_true, decide_eq_true_eq] at c
    simp only
    split
    · exact way_fail E _ _ (by decide)
    · exact way_one E (N σ (more_err E c.1).2 c.2)
  · exact way_reject E σ
omit N in
theorem op_free {t : List UInt8} {op : Nat} (h : opOf t = some op) : Free t := by
  constructor
  · intro e; rw [e, show opOf kwTask = none from by decide] at h; cases h
  · intro e; rw [e, show opOf kwShared = none from by decide] at h; cases h
omit N in
theorem way_op {σ : St} {op : Nat} (_c : more E σ = true) (h : opOf (cur E σ).text = some op) : Way E σ (adv σ) := way_one E (op_free h)
theorem way_transfer (kind : Nat) (kid : Tree) (σ : St) : Way E σ (transfer E kind kid σ).1 := ((way_require E σ (by decide)).trans (way_numP E N _ _ _)).trans (way_require E _ (by decide))
theorem expr_way : ∀ (n : Nat), (∀ σ r, unary E n σ = some r → Way E σ r.1) ∧ (∀ σ r, primary E n σ = some r → Way E σ r.1) ∧ (∀ σ r, place E n σ = some r → Way E σ r.1) ∧
    (∀ l σ r, binary E n l σ = some r → Way E σ r.1) ∧ (∀ l σ t r, binLoop E n l σ t = some r → Way E σ r.1)
  | 0 => ⟨fun _ _ h => by simp [unary] at h, fun _ _ h => by simp [primary] at h, fun _ _ h => by simp [place] at h, fun _ _ _ h => by simp [binary] at h, fun _ _ _ _ h => by simp [binLoop] at h⟩
  | n + 1 => by
    obtain ⟨hu, hp, hpl, hb, hl⟩ := expr_way n
    refine ⟨fun σ r h => ?_, fun σ r h => ?_, fun σ r h => ?_, fun l σ r h => ?_, fun l σ t r h => ?_⟩
    · rw [unary] at h
      split at h
      · rename_i c
        obtain ⟨x, hx, rfl⟩ := Option.map_eq_some_iff.1 h
        exact (way_adv E c (by decide)).trans (hu _ x hx)
      · split at h
        · rename_i c
          obtain ⟨x, hx, rfl⟩ := Option.map_eq_some_iff.1 h
          exact (way_adv E c (by decide)).trans (hu _ x hx)
        · exact hp _ _ h
    · rw [primary] at h
      split at h
      · rename_i c
        obtain ⟨x, hx, rfl⟩ := Option.map_eq_some_iff.1 h
        exact ((way_adv E c (by decide)).trans (hb _ _ _ hx)).trans (way_require E _ (by decide))
      · split at h
        · injection h with h; subst h; exact way_numP E N _ _ _
        · exact hpl _ _ h
    · rw [place] at h
      split at h
      · rename_i c
        obtain ⟨x, hx, rfl⟩ := Option.map_eq_some_iff.1 h
        exact (((way_nameP E σ).trans (way_adv E c (by decide))).trans (hb _ _ _ hx)).trans (way_require E _ (by decide))
      · injection h with h; subst h; exact way_nameP E _
    · rw [binary] at h
      obtain ⟨x, hx, hr⟩ := Option.bind_eq_some_iff.1 h
      exact (hu _ x hx).trans (hl _ _ _ _ hr)
    · rw [binLoop] at h
      split at h
      · rename_i c
        split at h
        · rename_i ho
          split at h
          · injection h with h; subst h; exact Way.refl E _
          · obtain ⟨x, hx, hr⟩ := Option.bind_eq_some_iff.1 h
            exact ((way_op E c ho).trans (hb _ _ _ hx)).trans (hl _ _ _ _ hr)
        · injection h with h; subst h; exact Way.refl E _
      · injection h with h; subst h; exact Way.refl E _
theorem stmt_way : ∀ (n : Nat), (∀ top σ acc r, stmts E n top σ acc = some r → Way E σ r.1) ∧ (∀ σ r, block E n σ = some r → Way E σ r.1) ∧
    (∀ σ r, choice E n σ = some r → Way E σ r.1) ∧ (∀ σ r, statement E n σ = some r → Way E σ r.1)
  | 0 => ⟨fun _ _ _ _ h => by simp [stmts] at h, fun _ _ h => by simp [block] at h, fun _ _ h => by simp [choice] at h, fun _ _ h => by simp [statement] at h⟩
  | n + 1 => by
    obtain ⟨hs, hb, hc, ht⟩ := stmt_way n
    have he : ∀ l σ r, binary E n l σ = some r → Way E σ r.1 := (expr_way E N n).2.2.2.1
    have hp : ∀ σ r, place E n σ = some r → Way E σ r.1 := (expr_way E N n).2.2.1
    refine ⟨fun top σ acc r h => ?_, fun σ r h => ?_, fun σ r h => ?_, fun σ r h => ?_⟩
    · rw [stmts] at h
      split at h
      · obtain ⟨x, hx, hr⟩ := Option.bind_eq_some_iff.1 h
        exact (ht _ _ hx).trans (hs _ _ _ _ hr)
      · injection h with h; subst h; exact Way.refl E _
    · rw [block] at h
      obtain ⟨x, hx, rfl⟩ := Option.map_eq_some_iff.1 h
      exact ((way_require E σ (by decide)).trans (hs _ _ _ _ hx)).trans (way_require E _ (by decide))
    · rw [choice] at h
      obtain ⟨x, hx, h⟩ := Option.bind_eq_some_iff.1 h
      obtain ⟨y, hy, h⟩ := Option.bind_eq_some_iff.1 h
      obtain ⟨z, hz, rfl⟩ := Option.map_eq_some_iff.1 h
      exact ((((way_require E σ (by decide)).trans (he _ _ x hx)).trans (hb _ y hy)).trans (way_require E _ (by decide))).trans (hb _ z hz)
    · rw [statement] at h
      by_cases c1 : sees E σ [105, 102] = true
      · rw [if_pos c1] at h
        exact hc _ _ h
      rw [if_neg c1] at h
      by_cases c2 : sees E σ [102, 111, 114] = true
      · rw [if_pos c2] at h
        obtain ⟨z, hz, rfl⟩ := Option.map_eq_some_iff.1 h
        exact (way_adv E c2 (by decide)).trans ((((way_nameP E _).trans (way_require E _ (by decide))).trans (way_numP E N _ _ _)).trans (hb _ z hz))
      rw [if_neg c2] at h
      by_cases c3 : sees E σ [119, 104, 105, 108, 101] = true
      · rw [if_pos c3] at h
        obtain ⟨x, hx, h⟩ := Option.bind_eq_some_iff.1 h
        obtain ⟨z, hz, rfl⟩ := Option.map_eq_some_iff.1 h
        exact (way_adv E c3 (by decide)).trans ((((he _ _ x hx).trans (way_require E _ (by decide))).trans (way_numP E N _ _ _)).trans (hb _ z hz))
      rw [if_neg c3] at h
      by_cases c4 : sees E σ [105, 110] = true
      · rw [if_pos c4] at h
        obtain ⟨z, hz, rfl⟩ := Option.map_eq_some_iff.1 h
        exact (way_adv E c4 (by decide)).trans ((hp _ z hz).trans (way_transfer E N _ _ _))
      rw [if_neg c4] at h
      by_cases c5 : sees E σ [111, 117, 116] = true
      · rw [if_pos c5] at h
        obtain ⟨z, hz, rfl⟩ := Option.map_eq_some_iff.1 h
        exact (way_adv E c5 (by decide)).trans ((he _ _ z hz).trans (way_transfer E N _ _ _))
      rw [if_neg c5] at h
      by_cases c6 : sees E σ [108, 111, 99, 107] = true
      · rw [if_pos c6] at h
        obtain ⟨z, hz, rfl⟩ := Option.map_eq_some_iff.1 h
        exact (way_adv E c6 (by decide)).trans ((way_nameP E _).trans (hb _ z hz))
      rw [if_neg c6] at h
      obtain ⟨x, hx, h⟩ := Option.bind_eq_some_iff.1 h
      obtain ⟨z, hz, rfl⟩ := Option.map_eq_some_iff.1 h
      exact (((hp _ x hx).trans (way_require E _ (by decide))).trans (he _ _ z hz)).trans (way_require E _ (by decide))
theorem way_array {σ : St} : Way E (adv σ) (arrayP E σ).1 := ((((way_nameP E _).trans (way_require E _ (by decide))).trans (way_numP E N _ _ _)).trans (way_require E _ (by decide))).trans (way_require E _ (by decide))
omit N in
theorem way_variable {σ : St} : Way E (adv σ) (variableP E σ).1 := (way_nameP E _).trans (way_require E _ (by decide))
theorem decls_way : ∀ (n : Nat) σ vs ar r, decls E n σ vs ar = some r → Way E σ r.1
  | 0, _, _, _, _, h => by simp [decls] at h
  | n + 1, σ, vs, ar, r, h => by
    rw [decls] at h
    split at h
    · split at h
      · rename_i c
        rw [Bool.and_eq_true] at c
        exact ((way_adv E c.1 (by decide)).trans (way_array E N)).trans (decls_way n _ _ _ _ h)
      · split at h
        · rename_i c
          rw [Bool.and_eq_true] at c
          exact ((way_adv E c.1 (by decide)).trans (way_variable E)).trans (decls_way n _ _ _ _ h)
        · exact (way_fail E _ _ (by decide)).trans (decls_way n _ _ _ _ h)
    · injection h with h; subst h; exact Way.refl E _
omit N in
theorem way_limit (t : Tree) (o : Nat) (σ : St) : Way E σ (limitP t o σ) := fun h => by
  obtain ⟨h1, h2, h3⟩ := limitP_ok h
  rw [h3] at h ⊢
  exact Way.refl E σ h
theorem task_way {n : Nat} {σ : St} {r : St × TaskD} (h : taskP E n σ = some r) : Way E (adv σ) r.1 := by
  unfold taskP at h
  obtain ⟨d, hd, h⟩ := Option.bind_eq_some_iff.1 h
  obtain ⟨x, hx, rfl⟩ := Option.map_eq_some_iff.1 h
  exact ((((((way_nameP E _).trans (way_require E _ (by decide))).trans (way_numP E N _ _ _)).trans (way_require E _ (by decide))).trans (decls_way E N _ _ _ _ _ hd)).trans ((stmt_way E N n).1 _ _ _ _ hx)).trans ((way_require E _ (by decide)).trans (way_limit E _ _ _))
end
end Go.Proofs.YtaaaicpjlaeiiaaDoor.PP
/- The tokens of a correct program up to a point: statements, declarations, the program. -/
namespace Go.Proofs.YtaaaicpjlaeiiaaDoor.PP
open PL
section
variable {E1 E2 : Env} {k : Nat}
theorem Res.lift {α : Type} {o o' : Option (St × α)} {r : St × α} (h : Res E2 k o r) (hm : ∀ x, o = some x → o' = some x) : Res E2 k o' r := by
  rcases h with ⟨h1, h2⟩ | ⟨h1, y, h2, h3⟩
  · exact .inl ⟨h1, hm _ h2⟩
  · exact .inr ⟨h1, y, hm _ h2, h3⟩
def ResH {α : Type} (E2 : Env) (k : Nat) (o : Option (St × α)) (r : St × α) : Prop := (r.1.next ≤ k ∧ o = some r) ∨ (k < r.1.next ∧ ∃ r2, o = some r2 ∧ Hit E2 r2.1)
theorem ResH.res {α : Type} {o : Option (St × α)} {r : St × α} (h : ResH E2 k o r) : Res E2 k o r := by
  rcases h with h | ⟨h1, y, h2, h3⟩
  · exact .inl h
  · exact .inr ⟨h1, y, h2, h3.bad⟩
variable (C : Cut E1 E2 k)
include C
theorem Res.reqH {α β : Type} {o : Option (St × α)} {x : St × α} {f : α → β} {t : List UInt8} (h : Res E2 k o x) (hx : x.1.err = 0) (he : (require E1 x.1 t).err = 0) : ResH E2 k (o.map fun y => (require E2 y.1 t, f y.2)) (require E1 x.1 t, f x.2) := by
  rcases h with ⟨h1, h2⟩ | ⟨h1, y, h2, h3⟩
  · rcases cut_require C hx h1 he with ⟨h4, h5⟩ | ⟨h4, h5⟩
    · left; exact ⟨h4, by rw [h2]; simp only [Option.map_some, h5]⟩
    · right; exact ⟨h4, _, by rw [h2]; rfl, h5⟩
  · right
    refine ⟨?_, _, by rw [h2]; rfl, (bad_require C h3 t)⟩
    have := (le_require E1 x.1 t).1
    simp only; omega
theorem Res.name {σ : St} (he : σ.err = 0) (hn : σ.next ≤ k) (h : (nameP E1 σ).1.err = 0) : Res E2 k (some (nameP E2 σ)) (nameP E1 σ) := by
  rcases cut_name C he hn h with ⟨h1, h2⟩ | ⟨h1, h2⟩
  · exact .inl ⟨h1, by rw [h2]⟩
  · exact .inr ⟨h1, _, rfl, h2.bad⟩
theorem Res.num {α β : Type} {o : Option (St × α)} {x : St × α} {f : α → Int → β} {lo hi : Int} (h : Res E2 k o x) (hx : x.1.err = 0) (he : (numP E1 x.1 lo hi).1.err = 0) :
    Res E2 k (o.map fun y => ((numP E2 y.1 lo hi).1, f y.2 (numP E2 y.1 lo hi).2)) ((numP E1 x.1 lo hi).1, f x.2 (numP E1 x.1 lo hi).2) := by
  rcases h with ⟨h1, h2⟩ | ⟨h1, y, h2, h3⟩
  · rcases cut_num C hx h1 he with ⟨h4, h5⟩ | ⟨h4, h5⟩
    · left; exact ⟨h4, by rw [h2]; simp only [Option.map_some, h5]⟩
    · right; exact ⟨h4, _, by rw [h2]; rfl, h5.bad⟩
  · right
    refine ⟨?_, _, by rw [h2]; rfl, (bad_num C h3 lo hi).bad⟩
    have := (le_numP E1 x.1 lo hi).1
    simp only; omega
theorem bad_stmts {σ : St} (h : Bad E2 k σ) (n : Nat) (top : Bool) (acc : List Tree) : stmts E2 (n + 1) top σ acc = some (σ, acc) := by
  rw [stmts]; unfold goes; rw [end_more C h]; rfl
theorem bad_block {σ : St} (h : Bad E2 k σ) (n : Nat) : ∃ r, block E2 (n + 2) σ = some r ∧ Hit E2 r.1 := by
  have h1 := (bad_require C h [123]).bad (k := k)
  rw [block, bad_stmts C h1]
  exact ⟨_, rfl, bad_require C h1 _⟩
theorem bad_choice {σ : St} (h : Bad E2 k σ) (n : Nat) : ∃ r, choice E2 (n + 5) σ = some r ∧ Hit E2 r.1 := by
  have h1 := (bad_require C h [105, 102]).bad (k := k)
  obtain ⟨a, ha, h2⟩ := bad_binary C h1 n 0
  obtain ⟨b, hb, h3⟩ := bad_block C (h2.bad) (n + 2)
  obtain ⟨c, hc, h4⟩ := bad_block C ((bad_require C h3.bad [101, 108, 115, 101]).bad) (n + 2)
  rw [choice, ha, Option.bind_some, hb, Option.bind_some, hc]
  exact ⟨_, rfl, h4⟩
theorem bad_statement {σ : St} (h : Bad E2 k σ) (n : Nat) : ∃ r, statement E2 (n + 5) σ = some r ∧ Hit E2 r.1 := by
  obtain ⟨a, ha, h2⟩ := bad_place C h (n + 3)
  obtain ⟨b, hb, h3⟩ := bad_binary C ((bad_require C h2.bad [61]).bad) n 0
  rw [statement]
  simp only [end_sees C h, Bool.false_eq_true, if_false]
  rw [ha, Option.bind_some, hb]
  exact ⟨_, rfl, bad_require C h3.bad _⟩
theorem bad_transfer {σ : St} (h : Bad E2 k σ) (kind : Nat) (kid : Tree) : Hit E2 (transfer E2 kind kid σ).1 := bad_require C (bad_num C (bad_require C h _).bad _ _).bad _
theorem cut_binary {n l : Nat} {σ : St} {r : St × Tree} (h : binary E1 n l σ = some r) (he : r.1.err = 0) (hn : σ.next ≤ k) {m : Nat} (hm : n + 4 ≤ m) : Res E2 k (binary E2 m l σ) r := ((cut_expr C n).2.2.2.1 _ _ _ h he hn).lift fun _ hx => binary_le E2 hm hx
theorem cut_place {n : Nat} {σ : St} {r : St × Tree} (h : place E1 n σ = some r) (he : r.1.err = 0) (hn : σ.next ≤ k) {m : Nat} (hm : n + 4 ≤ m) : Res E2 k (place E2 m σ) r := ((cut_expr C n).2.2.1 _ _ h he hn).lift fun _ hx => place_le E2 hm hx
theorem Res.transfer {o : Option (St × Tree)} {x : St × Tree} {kind : Nat} (h : Res E2 k o x) (he : (transfer E1 kind x.2 x.1).1.err = 0) : Res E2 k (o.map fun y => PP.transfer E2 kind y.2 y.1) (PP.transfer E1 kind x.2 x.1) := by
  have e3 := ok_back (le_require E1 _ [59]) he
  have e2 := ok_back (le_numP E1 _ 0 7) e3
  have e1 := ok_back (le_require E1 _ [44]) e2
  have h1 := Res.req C (f := fun t : Tree => t) h e1 e2
  have h2 := Res.num C (f := fun (t : Tree) (i : Int) => (t, i)) h1 e2 e3
  have h3 := Res.req C (f := fun p : Tree × Int => Tree.node kind p.2 [] [p.1]) h2 e3 he
  simp only [Option.map_map] at h3
  exact h3
theorem cut_stmt : ∀ (n : Nat), (∀ top σ acc r, stmts E1 n top σ acc = some r → r.1.err = 0 → σ.next ≤ k → Res E2 k (stmts E2 (n + 6) top σ acc) r) ∧ (∀ σ r, block E1 n σ = some r → r.1.err = 0 → σ.next ≤ k → Res E2 k (block E2 (n + 6) σ) r) ∧
    (∀ σ r, choice E1 n σ = some r → r.1.err = 0 → σ.next ≤ k → Res E2 k (choice E2 (n + 6) σ) r) ∧ (∀ σ r, statement E1 n σ = some r → r.1.err = 0 → σ.next ≤ k → Res E2 k (statement E2 (n + 6) σ) r)
  | 0 => ⟨fun _ _ _ _ h => by simp [stmts] at h, fun _ _ h => by simp [block] at h, fun _ _ h => by simp [choice] at h, fun _ _ h => by simp [statement] at h⟩
  | n + 1 => by
    obtain ⟨hs, hb, hc, ht⟩ := cut_stmt n
    have lb : ∀ σ r, block E1 n σ = some r → Le σ r.1 := (stmt_le E1 n).2.1
    have blk : ∀ {α : Type} {o : Option (St × α)} {x : St × α} {r : St × Tree} {f : α → Tree → Tree}, Res E2 k o x → block E1 n x.1 = some r → r.1.err = 0 →
        Res E2 k (o.bind fun y => (block E2 (n + 6) y.1).map fun r => (r.1, f y.2 r.2)) (r.1, f x.2 r.2) := by
      intro α o x r f h hr he
      refine Res.bind h (lb _ _ hr).1 (fun h1 => (hb _ _ hr he h1).map1 (f := fun t => f x.2 t)) (fun y hy => ?_)
      obtain ⟨z, hz, hh⟩ := bad_block C hy (n + 4)
      exact ⟨(z.1, f y.2 z.2), by rw [hz]; rfl, hh.bad⟩
    refine ⟨fun top σ acc r h he hn => ?_, fun σ r h he hn => ?_, fun σ r h he hn => ?_, fun σ r h he hn => ?_⟩
    · have h0 := ok_back ((stmt_le E1 (n + 1)).1 _ _ _ _ h) he
      rw [stmts] at h
      rcases Nat.lt_or_ge σ.next k with hlt | hge
      · obtain ⟨m1, m2, _⟩ := cut_more C h0 hlt
        rw [show n + 1 + 6 = n + 6 + 1 from by omega, stmts]
        have hg : goes E2 top σ = goes E1 top σ := by unfold goes; rw [m1, m2, cut_sees C h0 hlt]
        rw [hg]
        split at h
        · rename_i c; rw [if_pos c]
          obtain ⟨x, hx, hr⟩ := Option.bind_eq_some_iff.1 h
          have l2 := (stmt_le E1 n).1 _ _ _ _ hr
          refine Res.bind (ht _ _ hx (ok_back l2 he) hn) l2.1 (fun h1 => hs _ _ _ _ hr he h1) (fun y hy => ⟨(y.1, _), bad_stmts C hy (n + 5) _ _, hy⟩)
        · rename_i c; rw [if_neg c]
          injection h with h; subst h
          exact .inl ⟨hn, rfl⟩
      · have hB : Bad E2 k σ := .inr ⟨h0, by omega⟩
        have h1 := bad_stmts C hB (n + 6) top acc
        split at h
        · obtain ⟨x, hx, hr⟩ := Option.bind_eq_some_iff.1 h
          have l2 := (stmt_le E1 n).1 _ _ _ _ hr
          have l3 := ((stmt_le E1 n).2.2.2 _ _ hx).2
          have e2 := ok_back l2 he
          have := l2.1
          refine .inr ⟨?_, _, h1, hB⟩
          rcases l3 with l3 | l3
          · exact absurd e2 l3
          · omega
        · injection h with h; subst h
          exact .inl ⟨hn, h1⟩
    · have h0 := ok_back ((stmt_le E1 (n + 1)).2.1 _ _ h) he
      rw [block] at h
      rw [show n + 1 + 6 = n + 6 + 1 from by omega, block]
      obtain ⟨x, hx, rfl⟩ := Option.map_eq_some_iff.1 h
      have e1 := ok_back (le_require E1 x.1 [125]) he
      have l1 := (stmt_le E1 n).1 _ _ _ _ hx
      have e2 := ok_back l1 e1
      have h3 : Res E2 k (stmts E2 (n + 6) false (require E2 σ [123]) []) x := by
        rcases cut_require C h0 hn e2 with ⟨h4, h5⟩ | ⟨h4, h5⟩
        · rw [h5]; exact hs _ _ _ _ hx e1 h4
        · have := l1.1
          exact .inr ⟨by omega, _, bad_stmts C h5.bad (n + 5) _ _, h5.bad⟩
      exact Res.req C (f := fun l => Tree.node 47 0 [] l) h3 e1 he
    · have h0 := ok_back ((stmt_le E1 (n + 1)).2.2.1 _ _ h) he
      rw [choice] at h
      rw [show n + 1 + 6 = n + 6 + 1 from by omega, choice]
      obtain ⟨x, hx, h⟩ := Option.bind_eq_some_iff.1 h
      obtain ⟨y, hy, h⟩ := Option.bind_eq_some_iff.1 h
      obtain ⟨z, hz, rfl⟩ := Option.map_eq_some_iff.1 h
      have l5 := lb _ _ hz
      have e4 := ok_back l5 he
      have l4 := le_require E1 y.1 [101, 108, 115, 101]
      have e3 := ok_back l4 e4
      have l3 := lb _ _ hy
      have e2 := ok_back l3 e3
      have l2 := (expr_le E1 n).2.2.2.1 _ _ _ hx
      have e1 := ok_back l2 e2
      have tail : ∀ y : St × Tree, Bad E2 k y.1 → ∀ c : Tree, ∃ z, ((block E2 (n + 6) (require E2 y.1 [101, 108, 115, 101])).map fun f => (f.1, Tree.node 41 0 [] [c, y.2, f.2])) = some z ∧ Bad E2 k z.1 := by
        intro y hy c
        obtain ⟨z, hz, hh⟩ := bad_block C (bad_require C hy [101, 108, 115, 101]).bad (n + 4)
        exact ⟨(z.1, Tree.node 41 0 [] [c, y.2, z.2]), by rw [hz]; rfl, hh.bad⟩
      have tail2 : ∀ y : St × Tree, Bad E2 k y.1 → ∃ z, ((block E2 (n + 6) y.1).bind fun t => (block E2 (n + 6) (require E2 t.1 [101, 108, 115, 101])).map fun f => (f.1, Tree.node 41 0 [] [y.2, t.2, f.2])) = some z ∧ Bad E2 k z.1 := by
        intro y hy
        obtain ⟨z, hz, hh⟩ := bad_block C hy (n + 4)
        obtain ⟨u, hu, hu2⟩ := tail z hh.bad y.2
        exact ⟨u, by rw [hz]; exact hu, hu2⟩
      have hx2 : Res E2 k (binary E2 (n + 6) 0 (require E2 σ [105, 102])) x := by
        rcases cut_require C h0 hn e1 with ⟨h4, h5⟩ | ⟨h4, h5⟩
        · rw [h5]; exact cut_binary C hx e2 h4 (by omega)
        · obtain ⟨b, hb2, hh⟩ := bad_binary C h5.bad (n + 2) 0
          exact .inr ⟨by have := l2.1; omega, _, hb2, hh.bad⟩
      refine Res.bind hx2 (Nat.le_trans l3.1 (Nat.le_trans l4.1 l5.1)) (fun h1 => ?_) tail2
      refine Res.bind (hb _ _ hy e3 h1) (Nat.le_trans l4.1 l5.1) (fun h2 => ?_) (fun y hy => tail y hy _)
      rcases cut_require C e3 h2 e4 with ⟨h4, h5⟩ | ⟨h4, h5⟩
      · rw [h5]; exact (hb _ _ hz he h4).map1 (f := fun t => Tree.node 41 0 [] [x.2, y.2, t])
      · obtain ⟨b, hb2, hh⟩ := bad_block C h5.bad (n + 4)
        exact .inr ⟨by have := l5.1; simp only; omega, (b.1, Tree.node 41 0 [] [x.2, y.2, b.2]), by rw [hb2]; rfl, hh.bad⟩
    · have l0 := (stmt_le E1 (n + 1)).2.2.2 _ _ h
      have h0 := ok_back l0.1 he
      rcases Nat.lt_or_ge σ.next k with hlt | hge
      · rw [statement] at h
        rw [show n + 1 + 6 = n + 6 + 1 from by omega, statement]
        have ha : (adv σ).next ≤ k := by simp only [adv]; omega
        have hae : (adv σ).err = 0 := h0
        have hse : ∀ x, sees E2 σ x = sees E1 σ x := cut_sees C h0 hlt
        rw [hse, hse, hse, hse, hse, hse]
        by_cases c1 : sees E1 σ [105, 102] = true
        · rw [if_pos c1] at h ⊢
          exact hc _ _ h he hn
        rw [if_neg c1] at h ⊢
        by_cases c2 : sees E1 σ [102, 111, 114] = true
        · rw [if_pos c2] at h ⊢
          obtain ⟨z, hz, rfl⟩ := Option.map_eq_some_iff.1 h
          have e3 := ok_back (lb _ _ hz) he
          have e2 := ok_back (le_numP E1 _ 1 1000) e3
          have e1 := ok_back (le_require E1 _ [60]) e2
          have h1 := Res.req C (f := fun t : List UInt8 => t) (Res.name C hae ha e1) e1 e2
          have h2 := Res.num C (f := fun (t : List UInt8) (i : Int) => (t, i)) h1 e2 e3
          exact blk (f := fun p t => Tree.node 42 p.2 p.1 [t]) h2 hz he
        rw [if_neg c2] at h ⊢
        by_cases c3 : sees E1 σ [119, 104, 105, 108, 101] = true
        · rw [if_pos c3] at h ⊢
          obtain ⟨x, hx, h⟩ := Option.bind_eq_some_iff.1 h
          obtain ⟨z, hz, rfl⟩ := Option.map_eq_some_iff.1 h
          have e3 := ok_back (lb _ _ hz) he
          have e2 := ok_back (le_numP E1 _ 1 1000) e3
          have e1 := ok_back (le_require E1 _ [98, 111, 117, 110, 100]) e2
          have h1 := Res.req C (f := fun t : Tree => t) (cut_binary C hx e1 ha (show n + 4 ≤ n + 6 by omega)) e1 e2
          have h2 := Res.num C (f := fun (t : Tree) (i : Int) => (t, i)) h1 e2 e3
          have h3 := blk (f := fun p t => Tree.node 43 p.2 [] [p.1, t]) h2 hz he
          simp only [Option.map_map, Option.bind_map] at h3
          exact h3
        rw [if_neg c3] at h ⊢
        by_cases c4 : sees E1 σ [105, 110] = true
        · rw [if_pos c4] at h ⊢
          obtain ⟨z, hz, rfl⟩ := Option.map_eq_some_iff.1 h
          exact Res.transfer C (cut_place C hz (ok_back (le_transfer E1 _ _ _) he) ha (by omega)) he
        rw [if_neg c4] at h ⊢
        by_cases c5 : sees E1 σ [111, 117, 116] = true
        · rw [if_pos c5] at h ⊢
          obtain ⟨z, hz, rfl⟩ := Option.map_eq_some_iff.1 h
          exact Res.transfer C (cut_binary C hz (ok_back (le_transfer E1 _ _ _) he) ha (by omega)) he
        rw [if_neg c5] at h ⊢
        by_cases c6 : sees E1 σ [108, 111, 99, 107] = true
        · rw [if_pos c6] at h ⊢
          obtain ⟨z, hz, rfl⟩ := Option.map_eq_some_iff.1 h
          exact blk (f := fun p t => Tree.node 46 0 p [t]) (Res.name C hae ha (ok_back (lb _ _ hz) he)) hz he
        rw [if_neg c6] at h ⊢
        obtain ⟨x, hx, h⟩ := Option.bind_eq_some_iff.1 h
        obtain ⟨z, hz, rfl⟩ := Option.map_eq_some_iff.1 h
        have l3 := le_require E1 z.1 [59]
        have e3 := ok_back l3 he
        have l2 := (expr_le E1 n).2.2.2.1 _ _ _ hz
        have e2 := ok_back l2 e3
        have l1 := le_require E1 x.1 [61]
        have e1 := ok_back l1 e2
        refine Res.bind (cut_place C hx e1 hn (by omega)) (Nat.le_trans l1.1 (Nat.le_trans l2.1 l3.1)) (fun h1 => ?_) (fun y hy => ?_)
        · have h4 : Res E2 k (binary E2 (n + 6) 0 (require E2 x.1 [61])) z := by
            rcases cut_require C e1 h1 e2 with ⟨h4, h5⟩ | ⟨h4, h5⟩
            · rw [h5]; exact cut_binary C hz e3 h4 (by omega)
            · obtain ⟨b, hb2, hh⟩ := bad_binary C h5.bad (n + 2) 0
              exact .inr ⟨by have := l2.1; omega, _, hb2, hh.bad⟩
          exact Res.req C (f := fun t => Tree.node 40 0 [] [x.2, t]) h4 e3 he
        · obtain ⟨b, hb2, hh⟩ := bad_binary C (bad_require C hy [61]).bad (n + 2) 0
          exact ⟨_, by rw [hb2]; rfl, (bad_require C hh.bad _).bad⟩
      · obtain ⟨y, h1, h2⟩ := bad_statement C (.inr ⟨h0, by omega⟩) (n + 2)
        refine .inr ⟨?_, y, h1, h2.bad⟩
        rcases l0.2 with l | l
        · exact absurd he l
        · omega
end
end Go.Proofs.YtaaaicpjlaeiiaaDoor.PP
/- The tokens of a correct program up to a point: declarations, tasks, the program. -/
namespace Go.Proofs.YtaaaicpjlaeiiaaDoor.PP
open PL
section
variable {E1 E2 : Env} {k : Nat} (C : Cut E1 E2 k)
include C
theorem cut_array {σ : St} (h0 : σ.err = 0) (hn : σ.next < k) (he : (arrayP E1 σ).1.err = 0) : ResH E2 k (some (arrayP E2 σ)) (arrayP E1 σ) := by
  have ha : (adv σ).next ≤ k := by simp only [adv]; omega
  have hae : (adv σ).err = 0 := h0
  unfold arrayP at he ⊢
  simp only at he ⊢
  have e4 := ok_back (le_require E1 _ [59]) he
  have e3 := ok_back (le_require E1 _ [93]) e4
  have e2 := ok_back (le_numP E1 _ 1 32) e3
  have e1 := ok_back (le_require E1 _ [91]) e2
  have h1 := Res.req C (f := fun t : List UInt8 => t) (Res.name C hae ha e1) e1 e2
  have h2 := Res.num C (f := fun (t : List UInt8) (i : Int) => (⟨t, i⟩ : ArrD)) h1 e2 e3
  rw [Option.map_some, Option.map_some] at h2
  have h3 := Res.req C (f := fun t : ArrD => t) h2 e3 e4
  rw [Option.map_some] at h3
  have h4 := Res.reqH C (f := fun t : ArrD => t) h3 e4 he
  rw [Option.map_some] at h4
  exact h4
theorem cut_variable {σ : St} (h0 : σ.err = 0) (hn : σ.next < k) (he : (variableP E1 σ).1.err = 0) : ResH E2 k (some (variableP E2 σ)) (variableP E1 σ) := by
  have ha : (adv σ).next ≤ k := by simp only [adv]; omega
  have hae : (adv σ).err = 0 := h0
  have e1 := ok_back (le_require E1 _ [59]) he
  exact Res.reqH C (f := fun t : List UInt8 => t) (Res.name C hae ha e1) e1 he
theorem bad_decls {σ : St} (h : Bad E2 k σ) (n : Nat) (vs : List (List UInt8)) (ar : List ArrD) : decls E2 (n + 1) σ vs ar = some (σ, vs, ar) := by
  rw [decls, end_sees C h, end_sees C h]; rfl
theorem cut_decls (N : Nums E1) : ∀ (n : Nat) σ vs ar r, decls E1 n σ vs ar = some r → r.1.err = 0 → σ.next ≤ k → Res E2 k (decls E2 (n + 1) σ vs ar) r
  | 0, _, _, _, _, h, _, _ => by simp [decls] at h
  | n + 1, σ, vs, ar, r, h, he, hn => by
    obtain ⟨h0, hle, _, _⟩ := decls_way E1 N _ _ _ _ _ h he
    rw [decls] at h
    rcases Nat.lt_or_ge σ.next k with hlt | hge
    · have hse : ∀ x, sees E2 σ x = sees E1 σ x := cut_sees C h0 hlt
      rw [decls, hse, hse]
      split at h
      · rename_i c; rw [if_pos c]
        split at h
        · rename_i c; rw [if_pos c]
          obtain ⟨e1, hl, _, _⟩ := decls_way E1 N _ _ _ _ _ h he
          rcases cut_array C h0 hlt e1 with ⟨h1, h2⟩ | ⟨h1, y, h2, h3⟩
          · injection h2 with h2; rw [h2]; exact cut_decls N n _ _ _ _ h he h1
          · injection h2 with h2; subst h2
            exact .inr ⟨by omega, _, bad_decls C h3.bad n _ _, h3.bad⟩
        · rename_i c; rw [if_neg c]
          split at h
          · rename_i c; rw [if_pos c]
            obtain ⟨e1, hl, _, _⟩ := decls_way E1 N _ _ _ _ _ h he
            rcases cut_variable C h0 hlt e1 with ⟨h1, h2⟩ | ⟨h1, y, h2, h3⟩
            · injection h2 with h2; rw [h2]; exact cut_decls N n _ _ _ _ h he h1
            · injection h2 with h2; subst h2
              exact .inr ⟨by omega, _, bad_decls C h3.bad n _ _, h3.bad⟩
          · obtain ⟨e1, _⟩ := decls_way E1 N _ _ _ _ _ h he
            exact absurd e1 (fail_err (by decide))
      · rename_i c; rw [if_neg c]
        injection h with h; subst h
        exact .inl ⟨hn, rfl⟩
    · have hB : Bad E2 k σ := .inr ⟨h0, by omega⟩
      have h1 := bad_decls C hB (n + 1) vs ar
      split at h
      · refine .inr ⟨?_, _, h1, hB⟩
        split at h
        · obtain ⟨e1, hl, _, _⟩ := decls_way E1 N _ _ _ _ _ h he
          have := arrayP_next E1 σ; omega
        · split at h
          · obtain ⟨e1, hl, _, _⟩ := decls_way E1 N _ _ _ _ _ h he
            have := variableP_next E1 σ; omega
          · obtain ⟨e1, _⟩ := decls_way E1 N _ _ _ _ _ h he
            exact absurd e1 (fail_err (by decide))
      · injection h with h; subst h
        exact .inl ⟨hn, h1⟩
theorem cut_task (N : Nums E1) {n : Nat} {σ : St} {r : St × TaskD} (h0 : σ.err = 0) (hn : σ.next < k) (h : taskP E1 n σ = some r) (he : r.1.err = 0) : ResH E2 k (taskP E2 (n + 6) σ) r := by
  have ha : (adv σ).next ≤ k := by simp only [adv]; omega
  have hae : (adv σ).err = 0 := h0
  unfold taskP at h
  obtain ⟨d, hd, h⟩ := Option.bind_eq_some_iff.1 h
  obtain ⟨x, hx, rfl⟩ := Option.map_eq_some_iff.1 h
  obtain ⟨e7, hlg, hid⟩ := limitP_ok he
  have l6 := le_require E1 x.1 [125]
  have e6 := ok_back l6 e7
  have l5 := (stmt_le E1 n).1 _ _ _ _ hx
  have e5 := ok_back l5 e6
  obtain ⟨e4, l4, _, _⟩ := decls_way E1 N _ _ _ _ _ hd e5
  have e3 := ok_back (le_require E1 _ [123]) e4
  have e2 := ok_back (le_numP E1 _ 1 1000) e3
  have e1 := ok_back (le_require E1 _ kwPeriod) e2
  have h1 := Res.req C (f := fun t : List UInt8 => t) (Res.name C hae ha e1) e1 e2
  have h2 := Res.num C (f := fun (t : List UInt8) (i : Int) => (t, i)) h1 e2 e3
  have lim : ∀ (t : Tree) (o : Nat) (s : St), Hit E2 s → limitP t o s = s := fun t o s hs => by unfold limitP; rw [if_neg (by rw [hs.1]; decide)]
  have tail : ∀ (o : Nat) (d : St × List (List UInt8) × List ArrD) (pn : List UInt8) (pp : Int), Bad E2 k d.1 → ∃ z, ((stmts E2 (n + 6) false d.1 []).map fun r => (limitP (.node 47 0 [] r.2) o (require E2 r.1 [125]), (⟨pn, pp, d.2.1, d.2.2, .node 47 0 [] r.2⟩ : TaskD))) = some z ∧ Hit E2 z.1 := by
    intro o d pn pp hd
    rw [bad_stmts C hd (n + 5)]
    refine ⟨_, rfl, ?_⟩
    have hh := bad_require C hd [125]
    simp only
    rw [lim _ _ _ hh]; exact hh
  have tail2 : ∀ (o : Nat) (s : St) (pn : List UInt8) (pp : Int), Bad E2 k s → ∃ z, ((decls E2 (n + 6) (require E2 s [123]) [] []).bind fun d => (stmts E2 (n + 6) false d.1 []).map fun r =>
      (limitP (.node 47 0 [] r.2) o (require E2 r.1 [125]), (⟨pn, pp, d.2.1, d.2.2, .node 47 0 [] r.2⟩ : TaskD))) = some z ∧ Hit E2 z.1 := by
    intro o s pn pp hs
    have hh := (bad_require C hs [123]).bad (k := k)
    rw [bad_decls C hh (n + 5), Option.bind_some]
    exact tail o (_, [], []) pn pp hh
  have lr := (le_require E1 (numP E1 (require E1 (nameP E1 (adv σ)).1 kwPeriod) 1 1000).1 [123]).1
  have l51 := l5.1
  have l61 := l6.1
  have hnx : (limitP (.node 47 0 [] x.2) (here E1 (numP E1 (require E1 (nameP E1 (adv σ)).1 kwPeriod) 1 1000).1) (require E1 x.1 [125])).next = (require E1 x.1 [125]).next := limitP_next _ _ _
  rcases h2 with ⟨h3, h4⟩ | ⟨h3, y, h4, h5⟩
  · simp only [Option.map_some, Option.some.injEq] at h4
    rw [Prod.mk.injEq, Prod.mk.injEq] at h4
    obtain ⟨h41, h42, h43⟩ := h4
    unfold taskP
    simp only
    rw [h41, h42, h43]
    generalize here E2 _ = o2
    rcases cut_require C e3 h3 e4 with ⟨h5, h6⟩ | ⟨h5, h6⟩
    · rw [h6]
      have h7 := (cut_decls C N n _ _ _ _ hd e5 h5).lift fun z hz => decls_le E2 (show n + 1 ≤ n + 6 by omega) hz
      rcases h7 with ⟨h7, h8⟩ | ⟨h7, z, h8, h9⟩
      · rw [h8, Option.bind_some]
        rcases (cut_stmt C n).1 _ _ _ _ hx e6 h7 with ⟨h9, h10⟩ | ⟨h9, z, h10, h11⟩
        · rw [h10, Option.map_some]
          rcases cut_require C e6 h9 e7 with ⟨h11, h12⟩ | ⟨h11, h12⟩
          · left
            refine ⟨by rw [hnx]; exact h11, ?_⟩
            rw [h12, hid]
            have : limitP (.node 47 0 [] x.2) o2 (require E1 x.1 [125]) = require E1 x.1 [125] := by unfold limitP; rw [if_pos e7, hlg]; rfl
            rw [this]
          · right
            refine ⟨by rw [hnx]; exact h11, _, rfl, ?_⟩
            simp only
            rw [lim _ _ _ h12]; exact h12
        · right
          refine ⟨by rw [hnx]; omega, _, by rw [h10]; rfl, ?_⟩
          have hh := bad_require C h11 [125]
          simp only
          rw [lim _ _ _ hh]; exact hh
      · right
        rw [h8, Option.bind_some]
        refine ⟨by rw [hnx]; omega, ?_⟩
        exact tail o2 z _ _ h9
    · right
      rw [bad_decls C h6.bad (n + 5), Option.bind_some]
      refine ⟨by rw [hnx]; omega, ?_⟩
      exact tail o2 (require E2 _ [123], [], []) _ _ h6.bad
  · right
    injection h4 with h4
    subst h4
    simp only at h3 h5
    refine ⟨by rw [hnx]; omega, ?_⟩
    exact tail2 _ _ _ _ h5
/-- How the shorter text's program ends. -/
def End (E1 E2 : Env) (k : Nat) (σ : St) : Prop := (Hit E2 σ ∧ Free (tokAt E1 k).text) ∨ (σ.err = 0 ∧ σ.off = 0 ∧ σ.next = k ∧ ¬ Free (tokAt E1 k).text)
omit C in
theorem End.bad {σ : St} (h : End E1 E2 k σ) : Bad E2 k σ := by
  rcases h with ⟨h, _⟩ | ⟨h1, _, h2, _⟩
  · exact h.bad
  · exact .inr ⟨h1, h2⟩
theorem bad_list {α : Type} {kw : List UInt8} {lim : Nat} {one : Nat → St → Option (St × α)} {σ : St} (h : Bad E2 k σ) (n : Nat) (acc : List α) : listP E2 kw lim one (n + 1) σ acc = some (σ, acc) := by
  rw [listP, end_sees C h]; rfl
omit C in
theorem list_back {α : Type} {E : Env} {kw : List UInt8} {lim : Nat} {one : Nat → St → Option (St × α)} {n : Nat} {σ : St} {acc : List α} {r : St × List α} (h : listP E kw lim one n σ acc = some r) (he : r.1.err = 0) : σ.err = 0 := by
  cases n with
  | zero => simp [listP] at h
  | succ n =>
    rw [listP] at h
    split at h
    · rename_i c; exact (sees_err E c).1
    · injection h with h; subst h; exact he
omit C in
theorem list_le {α : Type} {E : Env} {kw : List UInt8} {lim : Nat} {one : Nat → St → Option (St × α)} (hw : ∀ n σ x, one n σ = some x → x.1.err = 0 → Way E (adv σ) x.1) :
    ∀ {n : Nat} {σ : St} {acc : List α} {r : St × List α}, listP E kw lim one n σ acc = some r → r.1.err = 0 → σ.off = 0 → σ.next ≤ r.1.next ∧ r.1.off = 0
  | 0, _, _, _, h, _, _ => by simp [listP] at h
  | n + 1, σ, acc, r, h, he, hoff => by
    rw [listP] at h
    split at h
    · rename_i c
      obtain ⟨x, hx, hr⟩ := Option.bind_eq_some_iff.1 h
      have ex := list_back hr he
      have hw1 := hw _ _ _ hx ex
      split at hw1
      · exact absurd (hw1 ex).1 (fail_err (σ := σ) (by decide))
      · obtain ⟨w1, w2, w3, w4⟩ := hw1 ex
        simp only [adv] at w2 w3
        have := list_le hw hr he (w3.trans hoff)
        exact ⟨by omega, this.2⟩
    · injection h with h; subst h; exact ⟨Nat.le_refl _, hoff⟩
theorem cut_list {α : Type} {kw : List UInt8} {lim : Nat} {one1 one2 : Nat → St → Option (St × α)} (hk : ¬ Free kw)
    (hm : ∀ n σ x, one2 n σ = some x → one2 (n + 1) σ = some x)
    (hw : ∀ n σ x, one1 n σ = some x → x.1.err = 0 → Way E1 (adv σ) x.1)
    (ho : ∀ n σ x, σ.err = 0 → σ.next < k → one1 n σ = some x → x.1.err = 0 → ResH E2 k (one2 (n + 6) σ) x) :
    ∀ (n : Nat) σ acc r, listP E1 kw lim one1 n σ acc = some r → r.1.err = 0 → σ.next ≤ k → σ.off = 0 →
      (r.1.err = 0 ∧ σ.err = 0 ∧ σ.next ≤ r.1.next ∧ r.1.off = 0) ∧ ((r.1.next ≤ k ∧ listP E2 kw lim one2 (n + 7) σ acc = some r) ∨ (k < r.1.next ∧ ∃ r2, listP E2 kw lim one2 (n + 7) σ acc = some r2 ∧ End E1 E2 k r2.1))
  | 0, _, _, _, h, _, _, _ => by simp [listP] at h
  | n + 1, σ, acc, r, h, he, hn, hoff => by
    rw [listP] at h
    split at h
    · rename_i c
      have hse := sees_err E1 c
      obtain ⟨x, hx, hr⟩ := Option.bind_eq_some_iff.1 h
      have key : ∀ (hk2 : x.1.err = 0), (if lim < acc.length + 1 then fail σ (here E1 σ) 5 else σ) = σ ∧ Way E1 (adv σ) x.1 := by
        intro hk2
        have hw1 := hw _ _ _ hx hk2
        split at hw1
        · have := (hw1 hk2).1
          exact absurd this (fail_err (σ := σ) (by decide))
        · rename_i c; rw [if_neg c]; exact ⟨rfl, hw1⟩
      have ex := list_back hr he
      obtain ⟨k1, k2⟩ := key ex
      rw [k1] at hx
      obtain ⟨w1, w2, w3, w4⟩ := k2 ex
      simp only [adv] at w2 w3 w4
      have hox : x.1.off = 0 := w3.trans hoff
      have hkw := sees_text E1 c
      have hlim : ¬ lim < acc.length + 1 := by
        intro hc
        rw [if_pos hc] at k1
        have : (fail σ (here E1 σ) 5).err = 0 := by rw [k1]; exact hse.1
        exact absurd this (fail_err (by decide))
      rcases Nat.lt_or_ge σ.next k with hlt | hge
      · have hs2 := cut_sees C hse.1 hlt kw
        rw [c] at hs2
        have e2 : listP E2 kw lim one2 (n + 7 + 1) σ acc = (one2 (n + 7) σ).bind fun r => listP E2 kw lim one2 (n + 7) r.1 (acc ++ [r.2]) := by rw [listP, if_pos hs2, if_neg hlim]
        rw [show n + 1 + 7 = n + 7 + 1 from by omega, e2]
        have hone : ResH E2 k (one2 (n + 7) σ) x := by
          rcases ho _ _ _ hse.1 hlt hx ex with ⟨h1, h2⟩ | ⟨h1, y, h2, h3⟩
          · exact .inl ⟨h1, hm _ _ _ h2⟩
          · exact .inr ⟨h1, y, hm _ _ _ h2, h3⟩
        rcases hone with ⟨h1, h2⟩ | ⟨h1, y, h2, h3⟩
        · rw [h2, Option.bind_some]
          obtain ⟨⟨a1, a2, a3, a4⟩, a5⟩ := cut_list hk hm hw ho n _ _ _ hr he h1 hox
          exact ⟨⟨a1, hse.1, by omega, a4⟩, a5⟩
        · have hr2 := list_le hw hr he hox
          refine ⟨⟨he, hse.1, by omega, hr2.2⟩, .inr ⟨by omega, ?_⟩⟩
          rw [h2, Option.bind_some, bad_list C h3.bad (n + 6)]
          exact ⟨_, rfl, .inl ⟨h3, w4 k (by omega) h1⟩⟩
      · have hr2 := list_le hw hr he hox
        refine ⟨⟨he, hse.1, by omega, hr2.2⟩, .inr ⟨by omega, ?_⟩⟩
        rw [show n + 1 + 7 = n + 7 + 1 from by omega, bad_list C (.inr ⟨hse.1, by omega⟩) (n + 7)]
        refine ⟨_, rfl, .inr ⟨hse.1, hoff, by simp only; omega, ?_⟩⟩
        have : (tokAt E1 k) = cur E1 σ := by unfold tokAt cur; rw [show σ.next = k by omega]
        rw [this, hkw]; exact hk
    · rename_i c
      injection h with h; subst h
      refine ⟨⟨he, he, Nat.le_refl _, hoff⟩, .inl ⟨hn, ?_⟩⟩
      rw [show n + 1 + 7 = n + 7 + 1 from by omega, listP]
      rcases Nat.lt_or_ge σ.next k with hlt | hge
      · rw [cut_sees C he hlt, if_neg c]
      · rw [end_sees C (.inr ⟨he, Nat.le_antisymm hn hge⟩)]; rfl
theorem cut_program (N : Nums E1) {n : Nat} {r : St × ProgD} (h : programP E1 n ⟨0, 0, 0⟩ = some r) (he : r.1.err = 0) : ∃ r2, programP E2 (n + 7) ⟨0, 0, 0⟩ = some r2 ∧ End E1 E2 k r2.1 := by
  unfold programP at h
  obtain ⟨a, ha, h⟩ := Option.bind_eq_some_iff.1 h
  obtain ⟨t, ht, rfl⟩ := Option.map_eq_some_iff.1 h
  have hm : more E1 t.1 = false := by
    cases hx : more E1 t.1 with
    | false => rfl
    | true => rw [hx] at he; exact absurd he (reject_err E1 t.1)
  rw [hm] at he
  simp only [Bool.false_eq_true, if_false] at he
  have ea := list_back ht he
  have fin : ∀ {s : St}, End E1 E2 k s → (if more E2 s then reject E2 s else s) = s := fun hs => by rw [end_more C hs.bad]; rfl
  have S := cut_list C (kw := kwShared) (lim := 4) (one1 := fun _ σ => some (arrayP E1 σ)) (one2 := fun _ σ => some (arrayP E2 σ)) (by decide) (fun n σ x h => h)
    (fun n σ x h hx => by injection h with h; subst h; exact way_array E1 N) (fun n σ x h0 hn h hx => by injection h with h; subst h; exact cut_array C h0 hn hx) n _ _ _ ha ea (Nat.zero_le _) rfl
  obtain ⟨⟨_, _, _, s4⟩, S⟩ := S
  unfold programP
  rcases S with ⟨h1, h2⟩ | ⟨h1, y, h2, h3⟩
  · rw [h2, Option.bind_some]
    have T := cut_list C (kw := kwTask) (lim := 8) (one1 := taskP E1) (one2 := taskP E2) (by decide) (fun n σ x h => taskP_le E2 (Nat.le_succ n) h)
      (fun n σ x h hx => task_way E1 N h) (fun n σ x h0 hn h hx => cut_task C N h0 hn h hx) n _ _ _ ht he h1 s4
    obtain ⟨_, T⟩ := T
    rcases T with ⟨h3, _⟩ | ⟨h3, z, h4, h5⟩
    · have := C.lt
      rcases more_cases E1 t.1 with ⟨h6, _⟩ | ⟨_, h6⟩ | ⟨_, _, h6⟩
      · rw [hm] at h6; exact absurd h6 (by decide)
      · exact absurd he h6
      · omega
    · rw [h4]
      refine ⟨_, rfl, ?_⟩
      simp only
      rw [fin h5]; exact h5
  · rw [h2, Option.bind_some, bad_list C h3.bad (n + 6)]
    refine ⟨_, rfl, ?_⟩
    simp only
    rw [fin h3]; exact h3
end
end Go.Proofs.YtaaaicpjlaeiiaaDoor.PP
/- The tokens of a correct program up to a point: the text before a token, and what the parser says to it. -/
namespace Go.Proofs.YtaaaicpjlaeiiaaDoor.PP
open PL
theorem filter_at {α : Type} (p : α → Bool) : ∀ (ts : List α) (k : Nat) (x : α), (ts.filter p)[k]? = some x → ∃ i, ts[i]? = some x ∧ (ts.take i).filter p = (ts.filter p).take k
  | [], k, x, h => by simp at h
  | t :: ts, k, x, h => by
    cases ht : p t with
    | true =>
      rw [List.filter_cons_of_pos ht] at h
      cases k with
      | zero => exact ⟨0, by simpa using h, by simp⟩
      | succ k =>
        obtain ⟨i, h1, h2⟩ := filter_at p ts k x (by simpa using h)
        refine ⟨i + 1, by simpa using h1, ?_⟩
        rw [List.take_succ_cons, List.filter_cons_of_pos ht, List.filter_cons_of_pos ht, List.take_succ_cons, h2]
    | false =>
      rw [List.filter_cons_of_neg (by rw [ht]; decide)] at h
      obtain ⟨i, h1, h2⟩ := filter_at p ts k x h
      refine ⟨i + 1, by simpa using h1, ?_⟩
      rw [List.take_succ_cons, List.filter_cons_of_neg (by rw [ht]; decide), List.filter_cons_of_neg (by rw [ht]; decide), h2]
theorem Run.front {pos : Nat} {l : List UInt8} {ts : List Tok} {p : Nat} {r : List UInt8} (h : Run pos l ts p r) (i : Nat) (t : Tok) (hi : ts[i]? = some t) :
    pos ≤ t.pos ∧ Run pos l (ts.take i) t.pos (l.drop (t.pos - pos)) := by
  induction h generalizing i with
  | stop => simp at hi
  | step h0 h ih =>
    rename_i pos l ts p r
    cases i with
    | zero =>
      simp only [List.getElem?_cons_zero, Option.some.injEq] at hi
      subst hi
      refine ⟨Nat.le_refl _, ?_⟩
      simp only [Nat.sub_self, List.drop_zero, List.take_zero]
      exact .stop _ _
    | succ i =>
      obtain ⟨h1, h2⟩ := ih i (by simpa using hi)
      refine ⟨by omega, ?_⟩
      rw [List.take_succ_cons]
      have h3 := Run.step h0 h2
      rw [List.drop_drop] at h3
      rw [show (first l).2 + (t.pos - (pos + (first l).2)) = t.pos - pos from by omega] at h3
      exact h3
theorem cut_lex {l : List UInt8} {ts : List Tok} (h : lex l = (ts, 0, 0)) {k : Nat} {x : Tok} (hx : (ts.filter solidT)[k]? = some x) :
    x.pos ≤ l.length ∧ ∃ us, lex (l.take x.pos) = (us, 0, 0) ∧ us.filter solidT = (ts.filter solidT).take k := by
  obtain ⟨hl, h1, _⟩ := lex_ok h rfl
  obtain ⟨p, hr⟩ := run_of_ok h1
  obtain ⟨i, hi, hf⟩ := filter_at solidT ts k x hx
  obtain ⟨_, h2⟩ := Run.front hr i x hi
  have hp : x.pos ≤ l.length := tok_pos h i x hi
  obtain ⟨h3, h4⟩ := h2.text
  rw [Nat.sub_zero] at h2 h3
  have e : (ts.take i).flatMap Tok.text = l.take x.pos := by
    have h5 := List.take_append_drop x.pos l
    have h6 : (ts.take i).flatMap Tok.text ++ l.drop x.pos = l.take x.pos ++ l.drop x.pos := by rw [h5]; exact h3.symm
    exact List.append_cancel_right h6
  have h7 := h2.cut
  rw [e] at h7
  refine ⟨hp, _, lex_of_ok (by rw [List.length_take]; omega) h7.ok, hf⟩
theorem lex_nums {l : List UInt8} {ts : List Tok} (h : lex l = (ts, 0, 0)) : Nums (envL l) := by
  intro σ hσ hk
  have hm : cur (envL l) σ ∈ ts := by
    have h1 := List.mem_of_getElem? (cur_at (envL l) hσ)
    have h2 : (envL l).ts = ts.filter solidT := by unfold envL; rw [h]
    rw [h2] at h1
    exact (List.mem_filter.1 h1).1
  have ha := alone h _ hm
  constructor
  · intro e
    rw [e, hk, show lex kwTask = ([⟨1, kwTask, 0⟩], 0, 0) from by decide +kernel] at ha
    exact absurd (congrArg (fun x => (x.1.head?.map Tok.kind)) ha) (by decide)
  · intro e
    rw [e, hk, show lex kwShared = ([⟨1, kwShared, 0⟩], 0, 0) from by decide +kernel] at ha
    exact absurd (congrArg (fun x => (x.1.head?.map Tok.kind)) ha) (by decide)
theorem cuts_law {l : List UInt8} {ts : List Tok} (hL : lex l = (ts, 0, 0)) {n : Nat} {q : St × ProgD} (hq : programP (envL l) n (sigT l) = some q) (he : q.1.err = 0) {k : Nat} {x : Tok} (hx : (ts.filter solidT)[k]? = some x) :
    x.pos ≤ l.length ∧ ∃ m r, programP (envL (l.take x.pos)) m (sigT (l.take x.pos)) = some r ∧ (Free x.text → r.1.err = 4 ∧ r.1.off = x.pos) ∧ (¬ Free x.text → r.1.err = 0 ∧ r.1.off = 0) := by
  obtain ⟨hp, us, h1, h2⟩ := cut_lex hL hx
  refine ⟨hp, ?_⟩
  have e1 : (envL l).ts = ts.filter solidT := by unfold envL; rw [hL]
  have e2 : (envL (l.take x.pos)).ts = us.filter solidT := by unfold envL; rw [h1]
  have e3 : (envL (l.take x.pos)).L = x.pos := by unfold envL; simp only [List.length_take]; omega
  have hk : k < (ts.filter solidT).length := (List.getElem?_eq_some_iff.1 hx).1
  have C : Cut (envL l) (envL (l.take x.pos)) k := ⟨by rw [e2, e1, h2], by rw [e1]; exact hk⟩
  have s1 : sigT l = ⟨0, 0, 0⟩ := by unfold sigT; rw [hL]
  have s2 : sigT (l.take x.pos) = ⟨0, 0, 0⟩ := by unfold sigT; rw [h1]
  rw [s1] at hq
  obtain ⟨r, hr, hE⟩ := cut_program C (lex_nums hL) hq he
  have ht : tokAt (envL l) k = x := by unfold tokAt; rw [e1, List.getD_eq_getElem?_getD, hx]; rfl
  refine ⟨_, r, by rw [s2]; exact hr, ?_⟩
  unfold End Hit at hE
  rw [ht, e3] at hE
  rcases hE with ⟨h3, h4⟩ | ⟨h3, h4, _, h5⟩
  · exact ⟨fun _ => h3, fun h => absurd h4 h⟩
  · exact ⟨fun h => absurd h h5, fun _ => ⟨h3, h4⟩⟩
end Go.Proofs.YtaaaicpjlaeiiaaDoor.PP
