/- The parser's plain functions do not look at the tokens' offsets, but for the offset of an error. -/
import Derived.Test.YtaaaicpjlaeiiaaDoorKA
namespace Go.Proofs.YtaaaicpjlaeiiaaDoor.PP
open PL
/-- The same tokens, at other places. -/
structure Like (E1 E2 : Env) : Prop where
  len : E1.ts.length = E2.ts.length
  at_ : ∀ (i : Nat), i < E1.ts.length → (E1.ts.getD i ⟨0, [], 0⟩).kind = (E2.ts.getD i ⟨0, [], 0⟩).kind ∧ (E1.ts.getD i ⟨0, [], 0⟩).text = (E2.ts.getD i ⟨0, [], 0⟩).text
structure Er (σ τ : St) : Prop where
  next : σ.next = τ.next
  err : σ.err = τ.err
def Alk {α : Type} (o1 o2 : Option (St × α)) : Prop := ∀ r, o1 = some r → ∃ s, o2 = some s ∧ Er r.1 s.1 ∧ r.2 = s.2
theorem Alk.map {α β : Type} {o1 o2 : Option (St × α)} (h : Alk o1 o2) {f g : St × α → St × β} (hf : ∀ x y, Er x.1 y.1 → x.2 = y.2 → Er (f x).1 (g y).1 ∧ (f x).2 = (g y).2) : Alk (o1.map f) (o2.map g) := by
  intro r hr
  obtain ⟨x, hx, rfl⟩ := Option.map_eq_some_iff.1 hr
  obtain ⟨y, hy, h1, h2⟩ := h x hx
  exact ⟨g y, by rw [hy]; rfl, hf x y h1 h2⟩
theorem Alk.bind {α β : Type} {o1 o2 : Option (St × α)} (h : Alk o1 o2) {f g : St × α → Option (St × β)} (hf : ∀ x y, Er x.1 y.1 → x.2 = y.2 → Alk (f x) (g y)) : Alk (o1.bind f) (o2.bind g) := by
  intro r hr
  obtain ⟨x, hx, hr⟩ := Option.bind_eq_some_iff.1 hr
  obtain ⟨y, hy, h1, h2⟩ := h x hx
  rw [hy]
  exact hf x y h1 h2 r hr
theorem Alk.one {α : Type} {x y : St × α} (h1 : Er x.1 y.1) (h2 : x.2 = y.2) : Alk (some x) (some y) := by
  intro r hr; injection hr with hr; subst hr; exact ⟨y, rfl, h1, h2⟩
theorem Alk.ite {α : Type} {c d : Bool} (hc : c = d) {a1 a2 b1 b2 : Option (St × α)} (h1 : c = true → Alk a1 a2) (h2 : c = false → Alk b1 b2) : Alk (if c then a1 else b1) (if d then a2 else b2) := by
  subst hc
  cases hc : c with
  | true => exact h1 hc
  | false => exact h2 hc
section
variable {E1 E2 : Env} (C : Like E1 E2)
include C
theorem lk_more {σ τ : St} (h : Er σ τ) : more E1 σ = more E2 τ := by unfold more; rw [h.next, h.err, C.len]
theorem lk_cur {σ τ : St} (h : Er σ τ) (hm : more E1 σ = true) : (cur E1 σ).kind = (cur E2 τ).kind ∧ (cur E1 σ).text = (cur E2 τ).text := by
  have := (more_err E1 hm).2
  unfold cur
  rw [← h.next]
  exact C.at_ _ this
theorem lk_sees {σ τ : St} (h : Er σ τ) (t : List UInt8) : sees E1 σ t = sees E2 τ t := by
  unfold sees
  rw [← lk_more C h]
  cases hm : more E1 σ with
  | false => rfl
  | true => rw [(lk_cur C h hm).2]
omit C in
theorem er_fail {σ τ : St} (h : Er σ τ) (o o' e : Nat) : Er (fail σ o e) (fail τ o' e) := by
  unfold fail
  rw [← h.err]
  split
  · exact ⟨h.next, rfl⟩
  · exact h
theorem er_reject {σ τ : St} (h : Er σ τ) : Er (reject E1 σ) (reject E2 τ) := by
  unfold reject
  rw [← h.next, ← C.len]
  split <;> exact er_fail h _ _ _
omit C in
theorem er_adv {σ τ : St} (h : Er σ τ) : Er (adv σ) (adv τ) := ⟨by simp [adv, h.next], h.err⟩
theorem er_require {σ τ : St} (h : Er σ τ) (t : List UInt8) : Er (require E1 σ t) (require E2 τ t) := by
  unfold require
  rw [← lk_sees C h]
  split
  · exact er_adv h
  · exact er_reject C h
theorem er_name {σ τ : St} (h : Er σ τ) : Er (nameP E1 σ).1 (nameP E2 τ).1 ∧ (nameP E1 σ).2 = (nameP E2 τ).2 := by
  unfold nameP
  rw [← lk_more C h]
  cases hm : more E1 σ with
  | false => exact ⟨er_reject C h, rfl⟩
  | true =>
    rw [← (lk_cur C h hm).2]
    split
    · exact ⟨er_adv h, rfl⟩
    · exact ⟨er_reject C h, rfl⟩
theorem er_num {σ τ : St} (h : Er σ τ) (lo hi : Int) : Er (numP E1 σ lo hi).1 (numP E2 τ lo hi).1 ∧ (numP E1 σ lo hi).2 = (numP E2 τ lo hi).2 := by
  unfold numP
  rw [← lk_more C h]
  cases hm : more E1 σ with
  | false => exact ⟨er_reject C h, rfl⟩
  | true =>
    rw [← (lk_cur C h hm).2, ← (lk_cur C h hm).1]
    split
    · simp only
      split
      · exact ⟨er_fail h _ _ _, rfl⟩
      · exact ⟨er_adv h, rfl⟩
    · exact ⟨er_reject C h, rfl⟩
theorem lk_expr : ∀ (n : Nat), (∀ σ τ, Er σ τ → Alk (unary E1 n σ) (unary E2 n τ)) ∧ (∀ σ τ, Er σ τ → Alk (primary E1 n σ) (primary E2 n τ)) ∧ (∀ σ τ, Er σ τ → Alk (place E1 n σ) (place E2 n τ)) ∧
    (∀ l σ τ, Er σ τ → Alk (binary E1 n l σ) (binary E2 n l τ)) ∧ (∀ l σ τ t, Er σ τ → Alk (binLoop E1 n l σ t) (binLoop E2 n l τ t))
  | 0 => ⟨fun _ _ _ _ h => by simp [unary] at h, fun _ _ _ _ h => by simp [primary] at h, fun _ _ _ _ h => by simp [place] at h, fun _ _ _ _ _ h => by simp [binary] at h, fun _ _ _ _ _ _ h => by simp [binLoop] at h⟩
  | n + 1 => by
    obtain ⟨hu, hp, hpl, hb, hl⟩ := lk_expr n
    refine ⟨fun σ τ h => ?_, fun σ τ h => ?_, fun σ τ h => ?_, fun l σ τ h => ?_, fun l σ τ t h => ?_⟩
    · rw [unary, unary]
      refine Alk.ite (lk_sees C h _) (fun _ => (hu _ _ (er_adv h)).map fun x y h1 h2 => ⟨h1, by simp only [h2]⟩) fun _ => ?_
      exact Alk.ite (lk_sees C h _) (fun _ => (hu _ _ (er_adv h)).map fun x y h1 h2 => ⟨h1, by simp only [h2]⟩) fun _ => hp _ _ h
    · rw [primary, primary]
      refine Alk.ite (lk_sees C h _) (fun _ => (hb _ _ _ (er_adv h)).map fun x y h1 h2 => ⟨er_require C h1 _, h2⟩) fun _ => ?_
      refine Alk.ite ?_ (fun _ => Alk.one (er_num C h _ _).1 (by simp only [(er_num C h _ _).2])) fun _ => hpl _ _ h
      rw [← lk_more C h]
      cases hm : more E1 σ with
      | false => rfl
      | true => rw [(lk_cur C h hm).1]
    · rw [place, place]
      obtain ⟨h1, h2⟩ := er_name C h
      refine Alk.ite (lk_sees C h1 _) (fun _ => (hb _ _ _ (er_adv h1)).map fun x y h3 h4 => ⟨er_require C h3 _, by simp only [h4, h2]⟩) fun _ => Alk.one h1 (by simp only [h2])
    · rw [binary, binary]
      exact (hu _ _ h).bind fun x y h1 h2 => by rw [h2]; exact hl _ _ _ _ h1
    · rw [binLoop, binLoop]
      refine Alk.ite (lk_more C h) (fun hm => ?_) fun _ => Alk.one h rfl
      rw [← (lk_cur C h hm).2]
      split
      · split
        · exact Alk.one h rfl
        · exact (hb _ _ _ (er_adv h)).bind fun x y h1 h2 => by rw [h2]; exact hl _ _ _ _ h1
      · exact Alk.one h rfl
theorem er_transfer (kind : Nat) {t u : Tree} {σ τ : St} (h : Er σ τ) (ht : t = u) : Er (transfer E1 kind t σ).1 (transfer E2 kind u τ).1 ∧ (transfer E1 kind t σ).2 = (transfer E2 kind u τ).2 := by
  unfold transfer
  obtain ⟨h1, h2⟩ := er_num C (er_require C h [44]) 0 7
  exact ⟨er_require C h1 _, by simp only [h2, ht]⟩
theorem lk_stmt : ∀ (n : Nat), (∀ top σ τ acc, Er σ τ → Alk (stmts E1 n top σ acc) (stmts E2 n top τ acc)) ∧ (∀ σ τ, Er σ τ → Alk (block E1 n σ) (block E2 n τ)) ∧
    (∀ σ τ, Er σ τ → Alk (choice E1 n σ) (choice E2 n τ)) ∧ (∀ σ τ, Er σ τ → Alk (statement E1 n σ) (statement E2 n τ))
  | 0 => ⟨fun _ _ _ _ _ _ h => by simp [stmts] at h, fun _ _ _ _ h => by simp [block] at h, fun _ _ _ _ h => by simp [choice] at h, fun _ _ _ _ h => by simp [statement] at h⟩
  | n + 1 => by
    obtain ⟨hs, hb, hc, ht⟩ := lk_stmt n
    have he : ∀ l σ τ, Er σ τ → Alk (binary E1 n l σ) (binary E2 n l τ) := (lk_expr C n).2.2.2.1
    have hp : ∀ σ τ, Er σ τ → Alk (place E1 n σ) (place E2 n τ) := (lk_expr C n).2.2.1
    refine ⟨fun top σ τ acc h => ?_, fun σ τ h => ?_, fun σ τ h => ?_, fun σ τ h => ?_⟩
    · rw [stmts, stmts]
      refine Alk.ite (by unfold goes; rw [lk_more C h, lk_sees C h]) (fun _ => (ht _ _ h).bind fun x y h1 h2 => by rw [h2]; exact hs _ _ _ _ h1) fun _ => Alk.one h rfl
    · rw [block, block]
      exact (hs _ _ _ _ (er_require C h _)).map fun x y h1 h2 => ⟨er_require C h1 _, by simp only [h2]⟩
    · rw [choice, choice]
      exact (he _ _ _ (er_require C h _)).bind fun x y h1 h2 => (hb _ _ h1).bind fun x' y' h3 h4 => (hb _ _ (er_require C h3 _)).map fun x'' y'' h5 h6 => ⟨h5, by simp only [h2, h4, h6]⟩
    · rw [statement, statement]
      refine Alk.ite (lk_sees C h _) (fun _ => hc _ _ h) fun _ => ?_
      refine Alk.ite (lk_sees C h _) (fun _ => ?_) fun _ => ?_
      · obtain ⟨h1, h2⟩ := er_name C (er_adv h)
        obtain ⟨h3, h4⟩ := er_num C (er_require C h1 [60]) 1 1000
        exact (hb _ _ h3).map fun x y h5 h6 => ⟨h5, by simp only [h2, h4, h6]⟩
      refine Alk.ite (lk_sees C h _) (fun _ => ?_) fun _ => ?_
      · refine (he _ _ _ (er_adv h)).bind fun x y h1 h2 => ?_
        obtain ⟨h3, h4⟩ := er_num C (er_require C h1 [98, 111, 117, 110, 100]) 1 1000
        exact (hb _ _ h3).map fun x y h5 h6 => ⟨h5, by simp only [h2, h4, h6]⟩
      refine Alk.ite (lk_sees C h _) (fun _ => (hp _ _ (er_adv h)).map fun x y h1 h2 => er_transfer C _ h1 h2) fun _ => ?_
      refine Alk.ite (lk_sees C h _) (fun _ => (he _ _ _ (er_adv h)).map fun x y h1 h2 => er_transfer C _ h1 h2) fun _ => ?_
      refine Alk.ite (lk_sees C h _) (fun _ => ?_) fun _ => ?_
      · obtain ⟨h1, h2⟩ := er_name C (er_adv h)
        exact (hb _ _ h1).map fun x y h5 h6 => ⟨h5, by simp only [h2, h6]⟩
      exact (hp _ _ h).bind fun x y h1 h2 => (he _ _ _ (er_require C h1 _)).map fun x' y' h3 h4 => ⟨er_require C h3 _, by simp only [h2, h4]⟩
theorem er_array {σ τ : St} (h : Er σ τ) : Er (arrayP E1 σ).1 (arrayP E2 τ).1 ∧ (arrayP E1 σ).2 = (arrayP E2 τ).2 := by
  unfold arrayP
  obtain ⟨h1, h2⟩ := er_name C (er_adv h)
  obtain ⟨h3, h4⟩ := er_num C (er_require C h1 [91]) 1 32
  exact ⟨er_require C (er_require C h3 _) _, by simp only [h2, h4]⟩
theorem er_variable {σ τ : St} (h : Er σ τ) : Er (variableP E1 σ).1 (variableP E2 τ).1 ∧ (variableP E1 σ).2 = (variableP E2 τ).2 := by
  unfold variableP
  obtain ⟨h1, h2⟩ := er_name C (er_adv h)
  exact ⟨er_require C h1 _, h2⟩
theorem lk_decls : ∀ (n : Nat) σ τ vs ar, Er σ τ → Alk (decls E1 n σ vs ar) (decls E2 n τ vs ar)
  | 0, _, _, _, _, _ => fun _ h => by simp [decls] at h
  | n + 1, σ, τ, vs, ar, h => by
    rw [decls, decls]
    refine Alk.ite (by rw [lk_sees C h, lk_sees C h]) (fun _ => ?_) fun _ => Alk.one h rfl
    refine Alk.ite (by rw [lk_sees C h]) (fun _ => ?_) fun _ => ?_
    · rw [(er_array C h).2]; exact lk_decls n _ _ _ _ (er_array C h).1
    refine Alk.ite (by rw [lk_sees C h]) (fun _ => ?_) fun _ => ?_
    · rw [(er_variable C h).2]; exact lk_decls n _ _ _ _ (er_variable C h).1
    · exact lk_decls n _ _ _ _ (er_fail h _ _ _)
omit C in
theorem er_limit {σ τ : St} (h : Er σ τ) (t : Tree) (o o' : Nat) : Er (limitP t o σ) (limitP t o' τ) := by
  unfold limitP
  rw [← h.err]
  split
  · split
    · exact er_fail h _ _ _
    · exact h
  · exact h
theorem lk_task (n : Nat) {σ τ : St} (h : Er σ τ) : Alk (taskP E1 n σ) (taskP E2 n τ) := by
  unfold taskP
  obtain ⟨h1, h2⟩ := er_name C (er_adv h)
  obtain ⟨h3, h4⟩ := er_num C (er_require C h1 kwPeriod) 1 1000
  exact (lk_decls C n _ _ _ _ (er_require C h3 _)).bind fun x y h5 h6 => ((lk_stmt C n).1 _ _ _ _ h5).map fun x' y' h7 h8 => ⟨by rw [h8]; exact er_limit (er_require C h7 _) _ _ _, by simp only [h2, h4, h6, h8]⟩
theorem lk_list {α : Type} {kw : List UInt8} {lim : Nat} {one1 one2 : Nat → St → Option (St × α)} (ho : ∀ n σ τ, Er σ τ → Alk (one1 n σ) (one2 n τ)) : ∀ (n : Nat) σ τ acc, Er σ τ → Alk (listP E1 kw lim one1 n σ acc) (listP E2 kw lim one2 n τ acc)
  | 0, _, _, _, _ => fun _ h => by simp [listP] at h
  | n + 1, σ, τ, acc, h => by
    rw [listP, listP]
    refine Alk.ite (lk_sees C h _) (fun _ => (ho _ _ _ ?_).bind fun x y h1 h2 => by rw [h2]; exact lk_list ho n _ _ _ h1) fun _ => Alk.one h rfl
    split
    · exact er_fail h _ _ _
    · exact h
theorem lk_program (n : Nat) {σ τ : St} (h : Er σ τ) : Alk (programP E1 n σ) (programP E2 n τ) := by
  unfold programP
  refine (lk_list C (fun n σ τ h => Alk.one (er_array C h).1 (er_array C h).2) n _ _ _ h).bind fun x y h1 h2 => (lk_list C (fun n σ τ h => lk_task C n h) n _ _ _ h1).map fun x' y' h3 h4 => ⟨?_, by simp only [h2, h4]⟩
  simp only
  rw [← lk_more C h3]
  split
  · exact er_reject C h3
  · exact h3
end
end Go.Proofs.YtaaaicpjlaeiiaaDoor.PP
