/- The parser's plain functions consume a token for every part that they read; so the canonical text of a short text is short. -/
import Derived.Test.YtfakdbnfpdalhaaGreatDoorPlainRd2
namespace Go.Proofs.YtfakdbnfpdalhaaGreatDoor.PP
open PL
section
variable (E : Env)
/-- From σ on at least k tokens were consumed, without an error. -/
def Con (σ : St) (k : Nat) (σ' : St) : Prop := σ'.err = 0 → σ.err = 0 ∧ σ.next + k ≤ σ'.next ∧ (σ.next ≤ E.ts.length → σ'.next ≤ E.ts.length)
variable {E}
theorem Con.refl (σ : St) : Con E σ 0 σ := fun h => ⟨h, Nat.le_refl _, fun h => h⟩
theorem Con.trans {a b c : St} {k l : Nat} (h : Con E a k b) (h' : Con E b l c) : Con E a (k + l) c := fun e => by
  obtain ⟨e1, n1, l1⟩ := h' e
  obtain ⟨e2, n2, l2⟩ := h e1
  exact ⟨e2, by omega, fun x => l1 (l2 x)⟩
theorem Con.mono {a b : St} {k l : Nat} (h : Con E a k b) (hl : l ≤ k) : Con E a l b := fun e => by
  obtain ⟨e2, n2, l2⟩ := h e
  exact ⟨e2, by omega, l2⟩
theorem Con.bad {a b : St} {k : Nat} (h : b.err ≠ 0) : Con E a k b := fun e => absurd e h
theorem con_adv {σ : St} {t : List UInt8} (h : sees E σ t = true) : Con E σ 1 (adv σ) := fun _ => by
  obtain ⟨h1, h2⟩ := sees_err E h
  exact ⟨h1, Nat.le_refl _, fun _ => by simp only [adv]; omega⟩
theorem con_more {σ : St} (h : more E σ = true) : Con E σ 1 (adv σ) := fun _ => by
  obtain ⟨h1, h2⟩ := more_err E h
  exact ⟨h1, Nat.le_refl _, fun _ => by simp only [adv]; omega⟩
theorem con_require (σ : St) (t : List UInt8) : Con E σ 1 (require E σ t) := by
  unfold require; split
  · rename_i h; exact con_adv h
  · exact .bad (reject_err E σ)
theorem con_name (σ : St) : Con E σ 1 (nameP E σ).1 := by
  unfold nameP; split
  · rename_i h; exact con_more (by simp at h; exact h.1)
  · exact .bad (reject_err E σ)
theorem con_num (σ : St) (l h : Int) : Con E σ 1 (numP E σ l h).1 := by
  unfold numP; split
  · rename_i c
    dsimp only
    split
    · exact .bad (fail_err (by decide))
    · exact con_more (by simp at c; exact c.1)
  · exact .bad (reject_err E σ)
theorem con_expr : ∀ (n : Nat), (∀ σ r, unary E n σ = some r → Con E σ r.2.size r.1) ∧ (∀ σ r, primary E n σ = some r → Con E σ r.2.size r.1) ∧ (∀ σ r, place E n σ = some r → Con E σ r.2.size r.1) ∧
    (∀ l σ r, binary E n l σ = some r → Con E σ r.2.size r.1) ∧ (∀ l σ t r, binLoop E n l σ t = some r → ∃ k, r.2.size = t.size + k ∧ Con E σ k r.1)
  | 0 => ⟨fun _ _ h => by simp [unary] at h, fun _ _ h => by simp [primary] at h, fun _ _ h => by simp [place] at h, fun _ _ _ h => by simp [binary] at h, fun _ _ _ _ h => by simp [binLoop] at h⟩
  | n + 1 => by
    obtain ⟨hu, hp, hpl, hb, hl⟩ := con_expr n
    refine ⟨fun σ r h => ?_, fun σ r h => ?_, fun σ r h => ?_, fun l σ r h => ?_, fun l σ t r h => ?_⟩
    · rw [unary] at h
      split at h
      · rename_i c
        obtain ⟨x, hx, rfl⟩ := Option.map_eq_some_iff.1 h
        exact ((con_adv c).trans (hu _ x hx)).mono (by simp only [Tree.size, sizeL]; omega)
      · split at h
        · rename_i c
          obtain ⟨x, hx, rfl⟩ := Option.map_eq_some_iff.1 h
          exact ((con_adv c).trans (hu _ x hx)).mono (by simp only [Tree.size, sizeL]; omega)
        · exact hp _ _ h
    · rw [primary] at h
      split at h
      · rename_i c
        obtain ⟨x, hx, rfl⟩ := Option.map_eq_some_iff.1 h
        exact (((con_adv c).trans (hb _ _ _ hx)).trans (con_require _ _)).mono (by simp; omega)
      · split at h
        · injection h with h; subst h; exact (con_num _ _ _).mono (by simp [Tree.size, sizeL])
        · exact hpl _ _ h
    · rw [place] at h
      split at h
      · rename_i c
        obtain ⟨x, hx, rfl⟩ := Option.map_eq_some_iff.1 h
        exact ((((con_name σ).trans (con_adv c)).trans (hb _ _ _ hx)).trans (con_require _ _)).mono (by simp [Tree.size, sizeL]; omega)
      · injection h with h; subst h; exact (con_name _).mono (by simp [Tree.size, sizeL])
    · rw [binary] at h
      obtain ⟨x, hx, hr⟩ := Option.bind_eq_some_iff.1 h
      obtain ⟨k, hk, hc⟩ := hl _ _ _ _ hr
      exact ((hu _ x hx).trans hc).mono (by omega)
    · rw [binLoop] at h
      split at h
      · rename_i c
        split at h
        · split at h
          · injection h with h; subst h; exact ⟨0, rfl, .refl _⟩
          · obtain ⟨x, hx, hr⟩ := Option.bind_eq_some_iff.1 h
            obtain ⟨k, hk, hc⟩ := hl _ _ _ _ hr
            simp only [Tree.size, sizeL] at hk
            exact ⟨1 + x.2.size + k, by omega, ((con_more c).trans (hb _ _ _ hx)).trans hc⟩
        · injection h with h; subst h; exact ⟨0, rfl, .refl _⟩
      · injection h with h; subst h; exact ⟨0, rfl, .refl _⟩
mutual
def wS : Tree → Nat
  | .node k _ _ [a] => if k = 42 then 6 + wB a else if k = 44 then 4 + a.size else if k = 45 then 4 + a.size else 4 + wB a
  | .node k _ _ [a, b] => if k = 40 then 2 + a.size + b.size else 5 + a.size + wB b
  | .node _ _ _ [a, b, c] => 6 + a.size + wB b + wB c
  | _ => 0
def wB : Tree → Nat
  | .node _ _ _ l => wL l
def wL : List Tree → Nat
  | [] => 0
  | t :: ts => wS t + wL ts
end
theorem wL_app (l m : List Tree) : wL (l ++ m) = wL l + wL m := by
  induction l with
  | nil => simp [wL]
  | cons t l ih => simp only [List.cons_append, wL, ih]; omega
theorem con_transfer (kind : Nat) (kid : Tree) (σ : St) : Con E σ 3 (transfer E kind kid σ).1 := ((con_require σ _).trans (con_num _ _ _)).trans (con_require _ _)
theorem transfer_tree (kind : Nat) (kid : Tree) (σ : St) : ∃ v, (transfer E kind kid σ).2 = .node kind v [] [kid] := ⟨_, rfl⟩
theorem con_stmt : ∀ (n : Nat), (∀ top σ acc r, stmts E n top σ acc = some r → ∃ k, wL r.2 = wL acc + k ∧ Con E σ k r.1) ∧ (∀ σ r, block E n σ = some r → Con E σ (2 + wB r.2) r.1) ∧
    (∀ σ r, choice E n σ = some r → Con E σ (wS r.2) r.1) ∧ (∀ σ r, statement E n σ = some r → Con E σ (wS r.2) r.1)
  | 0 => ⟨fun _ _ _ _ h => by simp [stmts] at h, fun _ _ h => by simp [block] at h, fun _ _ h => by simp [choice] at h, fun _ _ h => by simp [statement] at h⟩
  | n + 1 => by
    obtain ⟨hs, hb, hc, ht⟩ := con_stmt n
    have he : ∀ l σ r, binary E n l σ = some r → Con E σ r.2.size r.1 := (con_expr n).2.2.2.1
    have hp : ∀ σ r, place E n σ = some r → Con E σ r.2.size r.1 := (con_expr n).2.2.1
    refine ⟨fun top σ acc r h => ?_, fun σ r h => ?_, fun σ r h => ?_, fun σ r h => ?_⟩
    · rw [stmts] at h
      split at h
      · obtain ⟨x, hx, hr⟩ := Option.bind_eq_some_iff.1 h
        obtain ⟨k, hk, hc⟩ := hs _ _ _ _ hr
        rw [wL_app] at hk
        simp only [wL] at hk
        exact ⟨wS x.2 + k, by omega, (ht _ _ hx).trans hc⟩
      · injection h with h; subst h; exact ⟨0, rfl, .refl _⟩
    · rw [block] at h
      obtain ⟨x, hx, rfl⟩ := Option.map_eq_some_iff.1 h
      obtain ⟨k, hk, hc⟩ := hs _ _ _ _ hx
      simp only [wL] at hk
      exact (((con_require σ _).trans hc).trans (con_require _ _)).mono (by simp only [wB]; omega)
    · rw [choice] at h
      obtain ⟨x, hx, h⟩ := Option.bind_eq_some_iff.1 h
      obtain ⟨y, hy, h⟩ := Option.bind_eq_some_iff.1 h
      obtain ⟨z, hz, rfl⟩ := Option.map_eq_some_iff.1 h
      exact (((((con_require σ _).trans (he _ _ x hx)).trans (hb _ y hy)).trans (con_require _ _)).trans (hb _ z hz)).mono (by simp only [wS]; omega)
    · rw [statement] at h
      by_cases c1 : sees E σ [105, 102] = true
      · rw [if_pos c1] at h
        exact hc _ _ h
      rw [if_neg c1] at h
      by_cases c2 : sees E σ [102, 111, 114] = true
      · rw [if_pos c2] at h
        obtain ⟨z, hz, rfl⟩ := Option.map_eq_some_iff.1 h
        exact (((((con_adv c2).trans (con_name _)).trans (con_require _ _)).trans (con_num _ _ _)).trans (hb _ z hz)).mono (by simp only [wS, if_true]; omega)
      rw [if_neg c2] at h
      by_cases c3 : sees E σ [119, 104, 105, 108, 101] = true
      · rw [if_pos c3] at h
        obtain ⟨x, hx, h⟩ := Option.bind_eq_some_iff.1 h
        obtain ⟨z, hz, rfl⟩ := Option.map_eq_some_iff.1 h
        exact (((((con_adv c3).trans (he _ _ x hx)).trans (con_require _ _)).trans (con_num _ _ _)).trans (hb _ z hz)).mono (by simp only [wS]; rw [if_neg (by decide)]; omega)
      rw [if_neg c3] at h
      by_cases c4 : sees E σ [105, 110] = true
      · rw [if_pos c4] at h
        obtain ⟨z, hz, rfl⟩ := Option.map_eq_some_iff.1 h
        obtain ⟨v, hv⟩ := transfer_tree (E := E) 44 z.2 z.1
        rw [hv]
        exact (((con_adv c4).trans (hp _ z hz)).trans (con_transfer 44 z.2 z.1)).mono (by simp only [wS]; rw [if_neg (by decide), if_pos trivial]; omega)
      rw [if_neg c4] at h
      by_cases c5 : sees E σ [111, 117, 116] = true
      · rw [if_pos c5] at h
        obtain ⟨z, hz, rfl⟩ := Option.map_eq_some_iff.1 h
        obtain ⟨v, hv⟩ := transfer_tree (E := E) 45 z.2 z.1
        rw [hv]
        exact (((con_adv c5).trans (he _ _ z hz)).trans (con_transfer 45 z.2 z.1)).mono (by simp only [wS]; rw [if_neg (by decide), if_neg (by decide), if_pos trivial]; omega)
      rw [if_neg c5] at h
      by_cases c6 : sees E σ [108, 111, 99, 107] = true
      · rw [if_pos c6] at h
        obtain ⟨z, hz, rfl⟩ := Option.map_eq_some_iff.1 h
        exact (((con_adv c6).trans (con_name _)).trans (hb _ z hz)).mono (by simp only [wS]; rw [if_neg (by decide), if_neg (by decide), if_neg (by decide)]; omega)
      rw [if_neg c6] at h
      obtain ⟨x, hx, h⟩ := Option.bind_eq_some_iff.1 h
      obtain ⟨z, hz, rfl⟩ := Option.map_eq_some_iff.1 h
      exact ((((hp _ x hx).trans (con_require _ _)).trans (he _ _ z hz)).trans (con_require _ _)).mono (by simp only [wS, if_true]; omega)
theorem con_array {σ : St} {t : List UInt8} (h : sees E σ t = true) : Con E σ 6 (arrayP E σ).1 := (((((con_adv h).trans (con_name _)).trans (con_require _ _)).trans (con_num _ _ _)).trans (con_require _ _)).trans (con_require _ _)
theorem con_var {σ : St} {t : List UInt8} (h : sees E σ t = true) : Con E σ 3 (variableP E σ).1 := ((con_adv h).trans (con_name _)).trans (con_require _ _)
theorem con_decls : ∀ (n : Nat) σ vs as r, decls E n σ vs as = some r → ∃ k, 3 * r.2.1.length + 6 * r.2.2.length = 3 * vs.length + 6 * as.length + k ∧ Con E σ k r.1
  | 0, _, _, _, _, h => by simp [decls] at h
  | n + 1, σ, vs, as, r, h => by
    rw [decls] at h
    split at h
    · rename_i c
      split at h
      · rename_i c2
        obtain ⟨k, hk, hc⟩ := con_decls n _ _ _ _ h
        simp only [List.length_append, List.length_cons, List.length_nil] at hk
        exact ⟨6 + k, by omega, (con_array (by simp at c2; exact c2.1)).trans hc⟩
      · split at h
        · rename_i c3
          obtain ⟨k, hk, hc⟩ := con_decls n _ _ _ _ h
          simp only [List.length_append, List.length_cons, List.length_nil] at hk
          exact ⟨3 + k, by omega, (con_var (by simp at c3; exact c3.1)).trans hc⟩
        · obtain ⟨k, hk, hc⟩ := con_decls n _ _ _ _ h
          exact ⟨k, hk, fun e => absurd ((hc e).1) (fail_err (by decide))⟩
    · injection h with h; subst h; exact ⟨0, rfl, .refl _⟩
def wT (t : TaskD) : Nat := 6 + 3 * t.vars.length + 6 * t.arrays.length + wB t.body
theorem limit_err {t : Tree} {o : Nat} {σ : St} (h : (limitP t o σ).err = 0) : limitP t o σ = σ := by
  unfold limitP at h ⊢
  split
  · rename_i c
    rw [if_pos c] at h
    split
    · rename_i c2
      rw [if_pos c2] at h
      exact absurd h (fail_err (by decide))
    · rfl
  · rfl
theorem con_limit {t : Tree} {o k : Nat} {σ σ' : St} (h : Con E σ k σ') : Con E σ k (limitP t o σ') := fun e => by
  have hq := limit_err e
  rw [hq] at e
  rw [hq]
  exact h e
theorem con_task {n : Nat} {σ : St} {t : List UInt8} {r : St × TaskD} (hs : sees E σ t = true) (h : taskP E n σ = some r) : Con E σ (wT r.2) r.1 := by
  unfold taskP at h
  obtain ⟨d, hd, h⟩ := Option.bind_eq_some_iff.1 h
  obtain ⟨x, hx, rfl⟩ := Option.map_eq_some_iff.1 h
  obtain ⟨k, hk, hc⟩ := con_decls _ _ _ _ _ hd
  obtain ⟨k2, hk2, hc2⟩ := (con_stmt n).1 _ _ _ _ hx
  simp only [wL, List.length_nil] at hk hk2
  refine con_limit ((((((((con_adv hs).trans (con_name _)).trans (con_require _ _)).trans (con_num _ _ _)).trans (con_require _ _)).trans hc).trans hc2).trans (con_require _ _) |>.mono ?_)
  simp only [wT, wB]
  omega
theorem con_list {α : Type} {kw : List UInt8} {limit : Nat} {one : Nat → St → Option (St × α)} {w : α → Nat} (ho : ∀ n σ r, sees E σ kw = true → one n σ = some r → Con E σ (w r.2) r.1) (hbad : ∀ n σ r, σ.err ≠ 0 → one n σ = some r → r.1.err ≠ 0) : ∀ (n : Nat) σ acc r, listP E kw limit one n σ acc = some r → ∃ k, (r.2.map w).sum = (acc.map w).sum + k ∧ Con E σ k r.1
  | 0, _, _, _, h => by simp [listP] at h
  | n + 1, σ, acc, r, h => by
    rw [listP] at h
    split at h
    · rename_i c
      obtain ⟨x, hx, hr⟩ := Option.bind_eq_some_iff.1 h
      obtain ⟨k, hk, hc⟩ := con_list ho hbad n _ _ _ hr
      rw [List.map_append, List.sum_append] at hk
      simp only [List.map_cons, List.map_nil, List.sum_cons, List.sum_nil] at hk
      split at hx
      · exact ⟨w x.2 + k, by omega, fun e => absurd (hc e).1 (hbad _ _ _ (fail_err (by decide)) hx)⟩
      · exact ⟨w x.2 + k, by omega, (ho _ _ _ c hx).trans hc⟩
    · injection h with h; subst h; exact ⟨0, rfl, .refl _⟩
def wP (p : ProgD) : Nat := (p.shared.map fun _ => 6).sum + (p.tasks.map wT).sum
theorem le_stays {a b : St} (h : Le a b) (ha : a.err ≠ 0) : b.err ≠ 0 := by rw [h.2 ha]; exact ha
theorem con_program {n : Nat} {r : St × ProgD} {σ : St} (h : programP E n σ = some r) (he : r.1.err = 0) (h0 : σ.next ≤ E.ts.length) : σ.next + wP r.2 ≤ E.ts.length := by
  unfold programP at h
  obtain ⟨a, ha, h⟩ := Option.bind_eq_some_iff.1 h
  obtain ⟨t, ht, rfl⟩ := Option.map_eq_some_iff.1 h
  obtain ⟨k, hk, hc⟩ := con_list (w := fun _ : ArrD => 6) (one := fun _ σ => some (arrayP E σ)) (fun n σ r hs h => by injection h with h; subst h; exact con_array hs) (fun n σ r hb h => by
    injection h with h; subst h
    intro e
    have c1 : Con E (adv σ) 5 (arrayP E σ).1 := ((((con_name (E := E) (adv σ)).trans (con_require _ _)).trans (con_num _ _ _)).trans (con_require _ _)).trans (con_require _ _)
    exact hb (c1 e).1) n _ _ _ ha
  obtain ⟨k2, hk2, hc2⟩ := con_list (w := wT) (fun n σ r hs h => con_task hs h) (fun n σ r hb h => by
    intro e
    unfold taskP at h
    obtain ⟨d, hd, h⟩ := Option.bind_eq_some_iff.1 h
    obtain ⟨x, hx, rfl⟩ := Option.map_eq_some_iff.1 h
    obtain ⟨k, hk, hc⟩ := con_decls _ _ _ _ _ hd
    obtain ⟨k2, hk2, hc2⟩ := (con_stmt n).1 _ _ _ _ hx
    have c1 := con_limit (t := .node 47 0 [] x.2) (o := here E (numP E (require E (nameP E (adv σ)).1 kwPeriod) 1 1000).1) (((((((con_name (E := E) (adv σ)).trans (con_require _ _)).trans (con_num _ _ _)).trans (con_require _ _)).trans hc).trans hc2).trans (con_require _ [125]))
    exact hb (c1 e).1) n _ _ _ ht
  simp only at he
  split at he
  · exact absurd he (reject_err E _)
  · obtain ⟨e2, n2, l2⟩ := hc2 he
    obtain ⟨e1, n1, l1⟩ := hc e2
    have := l2 (l1 h0)
    simp only [List.map_nil, List.sum_nil] at hk hk2
    simp only [wP]
    omega
/-! ### The length of a text by its weight -/
theorem prS_wt : ∀ (n : Nat), (∀ t i, t.size ≤ n → okT t 115 = true → i + t.depth ≤ 17 → (prS t i).length ≤ 20 * wS t) ∧ (∀ l i, sizeL l ≤ n → okS l = true → i + depthL l ≤ 17 → (prL l i).length ≤ 20 * wL l)
  | 0 => ⟨fun t i hs _ _ => by have := t.size_pos; omega, fun l i hs _ _ => by
      cases l with
      | nil => simp [prL, wL]
      | cons t l => have := t.size_pos; simp [sizeL] at hs; omega⟩
  | n + 1 => by
    obtain ⟨ihS, ihL⟩ := prS_wt n
    have hS : ∀ t i, t.size ≤ n + 1 → okT t 115 = true → i + t.depth ≤ 17 → (prS t i).length ≤ 20 * wS t := by
      intro t i hs h hd
      cases t with
      | node k num nm kids =>
        have blk : ∀ (x : Tree) (j : Nat), x.size ≤ n → okT x 98 = true → j + x.depth ≤ 18 → (prB x j).length ≤ 20 * wB x := by
          intro x j hx hx2 hd
          cases x with
          | node k' num' nm' l =>
            obtain ⟨_, _, _, hl⟩ := okB_inv hx2
            simp only [Tree.size, Tree.depth, prB, wB] at hx hd ⊢
            exact ihL l j (by omega) hl (by omega)
        rcases okS_inv h with ⟨rfl, _, _, a, b, rfl, ha, hb⟩ | ⟨rfl, _, _, a, b, c, rfl, ha, hb, hc⟩ | ⟨rfl, _, _, hn, a, rfl, ha⟩ | ⟨rfl, _, _, _, a, b, rfl, ha, hb⟩ | ⟨rfl, _, _, _, a, rfl, ha⟩ | ⟨rfl, _, _, _, a, rfl, ha⟩ | ⟨rfl, _, hn, a, rfl, ha⟩
        · have h1 := okPE ha
          have h2 := okEE hb
          simp only [Tree.size, sizeL, Tree.depth, depthL] at hs hd
          simp [prS, wS, lineP_len, sEq, sSemi]; omega
        · have h1 := okEE ha
          simp only [Tree.size, sizeL, Tree.depth, depthL] at hs hd
          have h2 := blk b (i + 1) (by omega) hb (by omega)
          have h3 := blk c (i + 1) (by omega) hc (by omega)
          simp [prS, wS, lineP_len, sIf, sOb, sElse, sCb]; omega
        · have h1 := isName_len hn
          have h3 := dec_len num.toNat
          simp only [Tree.size, sizeL, Tree.depth, depthL] at hs hd
          have h2 := blk a (i + 1) (by omega) ha (by omega)
          simp [prS, wS, lineP_len, sFor, sLt, sOb, sCb]; omega
        · have h1 := okEE ha
          have h3 := dec_len num.toNat
          simp only [Tree.size, sizeL, Tree.depth, depthL] at hs hd
          have h2 := blk b (i + 1) (by omega) hb (by omega)
          simp [prS, wS, lineP_len, sWhile, sBound, sOb, sCb]; omega
        · have h1 := okPE ha
          have h3 := dec_len num.toNat
          simp only [Tree.size, sizeL, Tree.depth, depthL] at hs hd
          simp [prS, wS, lineP_len, sIn, sComma, sSemi]; omega
        · have h1 := okEE ha
          have h3 := dec_len num.toNat
          simp only [Tree.size, sizeL, Tree.depth, depthL] at hs hd
          simp [prS, wS, lineP_len, sOut, sComma, sSemi]; omega
        · have h1 := isName_len hn
          simp only [Tree.size, sizeL, Tree.depth, depthL] at hs hd
          have h2 := blk a (i + 1) (by omega) ha (by omega)
          simp [prS, wS, lineP_len, sLock, sOb, sCb]; omega
    refine ⟨hS, fun l => ?_⟩
    · induction l with
      | nil => intro i _ _ _; simp [prL]
      | cons t l ih =>
        intro i hs hl hd
        simp only [okS, Bool.and_eq_true] at hl
        simp only [sizeL, depthL, prL, List.length_append, wL] at hs hd ⊢
        have ht := t.size_pos
        have h2 := ih i (by omega) hl.2 (by omega)
        have h1 := hS t i (by omega) hl.1 (by omega)
        omega
theorem fm_sum {α : Type} (l : List α) (f : α → List UInt8) (w : α → Nat) (K : Nat) (h : ∀ x ∈ l, (f x).length ≤ K * w x) : (l.flatMap f).length ≤ K * (l.map w).sum := by
  induction l with
  | nil => simp
  | cons a l ih =>
    have h1 := h a (by simp)
    have h2 := ih (fun x hx => h x (by simp [hx]))
    simp only [List.flatMap_cons, List.length_append, List.map_cons, List.sum_cons, Nat.mul_add]
    omega
theorem sum_const {α : Type} (l : List α) (k : Nat) : (l.map fun _ => k).sum = l.length * k := by
  induction l with
  | nil => simp
  | cons a l ih => simp only [List.map_cons, List.sum_cons, List.length_cons, Nat.succ_mul, ih]; omega
theorem prArr_wt {a : ArrD} (i : Nat) (kw : List UInt8) (h : okArr a = true) (hi : i ≤ 1) (hk : kw.length ≤ 10) : (prArr i kw a).length ≤ 20 * 6 := by
  have h1 := isName_len (okArr_name h)
  have h2 := dec_len a.len.toNat
  simp [prArr, lineP_len, sOpen, sClose]; omega
theorem prP_wt {p : ProgD} (h : okProg p = true) : (prP p).length ≤ 20 * wP p := by
  simp only [okProg, Bool.and_eq_true, List.all_eq_true] at h
  have h1 := fm_sum p.shared (prArr 0 sShared) (fun _ => 6) 20 (fun a ha => prArr_wt 0 _ (h.1.2 a ha) (by omega) (by simp [sShared]))
  have h2 := fm_sum p.tasks prTask wT 20 (fun t ht => by
    have hk := h.2 t ht
    simp only [okTask, Bool.and_eq_true, Bool.not_eq_true', List.all_eq_true, large, Bool.or_eq_false_iff, decide_eq_false_iff_not] at hk
    obtain ⟨⟨⟨⟨⟨⟨⟨⟨k1, _⟩, _⟩, _⟩, _⟩, k6⟩, k7⟩, k8⟩, k9⟩ := hk
    have l1 := isName_len k1
    have l2 := dec_len t.period.toNat
    have l3 := fm_sum t.vars prVar (fun _ => 3) 20 (fun v hv => by have := isName_len (k7 v hv); simp [prVar, lineP_len, sVar, sSemi]; omega)
    have l4 := fm_sum t.arrays (prArr 1 sArray) (fun _ => 6) 20 (fun a ha => prArr_wt 1 _ (k6 a ha) (by omega) (by simp [sArray]))
    rw [sum_const] at l3 l4
    have l5 : (prB t.body 1).length ≤ 20 * wB t.body := by
      cases hb : t.body with
      | node k num nm l =>
        rw [hb] at k9 k8
        obtain ⟨_, _, _, hl⟩ := okB_inv k9
        obtain ⟨⟨q1, _⟩, _⟩ := k8
        rw [Tree.depth] at q1
        exact (prS_wt (sizeL l)).2 l 1 (Nat.le_refl _) hl (by omega)
    simp only [prTask, wT, lineP_len, sTask, sPeriod, sOb, sCb, List.flatten_cons, List.flatten_nil, List.length_append, List.length_cons, List.length_nil]
    omega)
  simp only [prP, wP, List.length_append]
  omega
end
/-- The canonical text of what is read of a short text fits. -/
theorem fixed_fits {l : List UInt8} (hl : l.length ≤ 2000) {n : Nat} {q : St × ProgD} (h : programP (envL l) n (sigT l) = some q) (he : q.1.err = 0) : (prP q.2).length ≤ 65536 := by
  have h1 := prP_wt (program_valid _ h he)
  have h2 := con_program h he (Nat.zero_le _)
  have h3 : (envL l).ts.length ≤ 2000 := by
    unfold envL
    have h4 : ((lex l).1.filter solidT).length ≤ (lex l).1.length := List.length_filter_le _ _
    cases hx : lex l with
    | mk ts y =>
      obtain ⟨a, e⟩ := y
      rw [hx] at h4
      simp only at h4 ⊢
      by_cases h0 : e = 0
      · subst h0
        have := lex_count hx
        omega
      · have := (lex_error hx h0 (by omega)).1
        rw [this]; simp
  simp only [sigT] at h2
  omega
end Go.Proofs.YtfakdbnfpdalhaaGreatDoor.PP
