/- The parser's plain functions: the offset of an error lies within the text; the names of a valid tree are short. -/
import Derived.Test.YtkeehpgnljieeaaDoorPlainValid
namespace Go.Proofs.YtkeehpgnljieeaaDoor.PP
open PL
section
variable {E : Env} (H : ∀ t ∈ E.ts, t.pos ≤ E.L)
def OB (E : Env) (σ : St) : Prop := σ.off ≤ E.L
include H
theorem ob_here (σ : St) : here E σ ≤ E.L := by
  unfold here
  split
  · rename_i h
    exact H _ (List.mem_of_getElem? (cur_at E h))
  · exact Nat.le_refl _
omit H in
theorem ob_fail {σ : St} {o e : Nat} (h : OB E σ) (ho : o ≤ E.L) : OB E (fail σ o e) := by
  unfold fail; split
  · exact ho
  · exact h
theorem ob_reject {σ : St} (h : OB E σ) : OB E (reject E σ) := by
  unfold reject; split <;> exact ob_fail h (ob_here H σ)
omit H in
theorem ob_adv {σ : St} (h : OB E σ) : OB E (adv σ) := h
theorem ob_require {σ : St} (h : OB E σ) (t : List UInt8) : OB E (require E σ t) := by
  unfold require; split
  · exact h
  · exact ob_reject H h
theorem ob_name {σ : St} (h : OB E σ) : OB E (nameP E σ).1 := by
  unfold nameP; split
  · exact h
  · exact ob_reject H h
theorem ob_num {σ : St} (h : OB E σ) (lo hi : Int) : OB E (numP E σ lo hi).1 := by
  unfold numP; split
  · dsimp only; split
    · exact ob_fail h (ob_here H σ)
    · exact h
  · exact ob_reject H h
theorem ob_expr : ∀ (n : Nat), (∀ σ r, unary E n σ = some r → OB E σ → OB E r.1) ∧ (∀ σ r, primary E n σ = some r → OB E σ → OB E r.1) ∧ (∀ σ r, place E n σ = some r → OB E σ → OB E r.1) ∧
    (∀ l σ r, binary E n l σ = some r → OB E σ → OB E r.1) ∧ (∀ l σ t r, binLoop E n l σ t = some r → OB E σ → OB E r.1)
  | 0 => ⟨fun _ _ h => by simp [unary] at h, fun _ _ h => by simp [primary] at h, fun _ _ h => by simp [place] at h, fun _ _ _ h => by simp [binary] at h, fun _ _ _ _ h => by simp [binLoop] at h⟩
  | n + 1 => by
    obtain ⟨hu, hp, hpl, hb, hl⟩ := ob_expr n
    refine ⟨fun σ r h ho => ?_, fun σ r h ho => ?_, fun σ r h ho => ?_, fun l σ r h ho => ?_, fun l σ t r h ho => ?_⟩
    · rw [unary] at h
      split at h
      · obtain ⟨x, hx, rfl⟩ := Option.map_eq_some_iff.1 h
        exact hu _ x hx ho
      · split at h
        · obtain ⟨x, hx, rfl⟩ := Option.map_eq_some_iff.1 h
          exact hu _ x hx ho
        · exact hp _ _ h ho
    · rw [primary] at h
      split at h
      · obtain ⟨x, hx, rfl⟩ := Option.map_eq_some_iff.1 h
        exact ob_require H (hb _ _ _ hx ho) _
      · split at h
        · injection h with h; subst h
          exact ob_num H ho _ _
        · exact hpl _ _ h ho
    · rw [place] at h
      split at h
      · obtain ⟨x, hx, rfl⟩ := Option.map_eq_some_iff.1 h
        exact ob_require H (hb _ _ _ hx (ob_adv (ob_name H ho))) _
      · injection h with h; subst h
        exact ob_name H ho
    · rw [binary] at h
      obtain ⟨x, hx, hr⟩ := Option.bind_eq_some_iff.1 h
      exact hl _ _ _ _ hr (hu _ _ hx ho)
    · rw [binLoop] at h
      split at h
      · split at h
        · split at h
          · injection h with h; subst h; exact ho
          · obtain ⟨x, hx, hr⟩ := Option.bind_eq_some_iff.1 h
            exact hl _ _ _ _ hr (hb _ _ _ hx ho)
        · injection h with h; subst h; exact ho
      · injection h with h; subst h; exact ho
theorem ob_transfer {σ : St} (h : OB E σ) (k : Nat) (t : Tree) : OB E (transfer E k t σ).1 := by
  unfold transfer
  exact ob_require H (ob_num H (ob_require H h _) _ _) _
theorem ob_stmt : ∀ (n : Nat), (∀ top σ acc r, stmts E n top σ acc = some r → OB E σ → OB E r.1) ∧ (∀ σ r, block E n σ = some r → OB E σ → OB E r.1) ∧
    (∀ σ r, choice E n σ = some r → OB E σ → OB E r.1) ∧ (∀ σ r, statement E n σ = some r → OB E σ → OB E r.1)
  | 0 => ⟨fun _ _ _ _ h => by simp [stmts] at h, fun _ _ h => by simp [block] at h, fun _ _ h => by simp [choice] at h, fun _ _ h => by simp [statement] at h⟩
  | n + 1 => by
    obtain ⟨hs, hb, hc, ht⟩ := ob_stmt n
    have he : ∀ l σ r, binary E n l σ = some r → OB E σ → OB E r.1 := (ob_expr H n).2.2.2.1
    have hp : ∀ σ r, place E n σ = some r → OB E σ → OB E r.1 := (ob_expr H n).2.2.1
    refine ⟨fun top σ acc r h ho => ?_, fun σ r h ho => ?_, fun σ r h ho => ?_, fun σ r h ho => ?_⟩
    · rw [stmts] at h
      split at h
      · obtain ⟨x, hx, hr⟩ := Option.bind_eq_some_iff.1 h
        exact hs _ _ _ _ hr (ht _ _ hx ho)
      · injection h with h; subst h; exact ho
    · rw [block] at h
      obtain ⟨x, hx, rfl⟩ := Option.map_eq_some_iff.1 h
      exact ob_require H (hs _ _ _ _ hx (ob_require H ho _)) _
    · rw [choice] at h
      obtain ⟨x, hx, h⟩ := Option.bind_eq_some_iff.1 h
      obtain ⟨y, hy, h⟩ := Option.bind_eq_some_iff.1 h
      obtain ⟨z, hz, rfl⟩ := Option.map_eq_some_iff.1 h
      exact hb _ z hz (ob_require H (hb _ y hy (he _ _ x hx (ob_require H ho _))) _)
    · rw [statement] at h
      split at h
      · exact hc _ _ h ho
      split at h
      · obtain ⟨z, hz, rfl⟩ := Option.map_eq_some_iff.1 h
        exact hb _ z hz (ob_num H (ob_require H (ob_name H (ob_adv ho)) _) _ _)
      split at h
      · obtain ⟨x, hx, h⟩ := Option.bind_eq_some_iff.1 h
        obtain ⟨z, hz, rfl⟩ := Option.map_eq_some_iff.1 h
        exact hb _ z hz (ob_num H (ob_require H (he _ _ x hx (ob_adv ho)) _) _ _)
      split at h
      · obtain ⟨z, hz, rfl⟩ := Option.map_eq_some_iff.1 h
        exact ob_transfer H (hp _ z hz (ob_adv ho)) _ _
      split at h
      · obtain ⟨z, hz, rfl⟩ := Option.map_eq_some_iff.1 h
        exact ob_transfer H (he _ _ z hz (ob_adv ho)) _ _
      split at h
      · obtain ⟨z, hz, rfl⟩ := Option.map_eq_some_iff.1 h
        exact hb _ z hz (ob_name H (ob_adv ho))
      obtain ⟨x, hx, h⟩ := Option.bind_eq_some_iff.1 h
      obtain ⟨z, hz, rfl⟩ := Option.map_eq_some_iff.1 h
      exact ob_require H (he _ _ z hz (ob_require H (hp _ x hx ho) _)) _
theorem ob_array {σ : St} (h : OB E σ) : OB E (arrayP E σ).1 := by
  unfold arrayP
  exact ob_require H (ob_require H (ob_num H (ob_require H (ob_name H (ob_adv h)) _) _ _) _) _
theorem ob_variable {σ : St} (h : OB E σ) : OB E (variableP E σ).1 := by
  unfold variableP
  exact ob_require H (ob_name H (ob_adv h)) _
theorem ob_decls : ∀ (n : Nat) σ vs ar r, decls E n σ vs ar = some r → OB E σ → OB E r.1
  | 0, _, _, _, _, h, _ => by simp [decls] at h
  | n + 1, σ, vs, ar, r, h, ho => by
    rw [decls] at h
    split at h
    · split at h
      · exact ob_decls n _ _ _ _ h (ob_array H ho)
      · split at h
        · exact ob_decls n _ _ _ _ h (ob_variable H ho)
        · exact ob_decls n _ _ _ _ h (ob_fail ho (ob_here H σ))
    · injection h with h; subst h; exact ho
theorem ob_task {n : Nat} {σ : St} {r : St × TaskD} (h : taskP E n σ = some r) (ho : OB E σ) : OB E r.1 := by
  unfold taskP at h
  dsimp only at h
  obtain ⟨d, hd, h⟩ := Option.bind_eq_some_iff.1 h
  obtain ⟨x, hx, rfl⟩ := Option.map_eq_some_iff.1 h
  have h1 := ob_num H (ob_require H (ob_name H (ob_adv ho)) kwPeriod) 1 1000
  have h2 := ob_require H ((ob_stmt H n).1 _ _ _ _ hx (ob_decls H n _ _ _ _ hd (ob_require H h1 [123]))) [125]
  dsimp only
  unfold limitP
  split
  · split
    · exact ob_fail h2 (ob_here H _)
    · exact h2
  · exact h2
theorem ob_list {α : Type} {kw : List UInt8} {lim : Nat} {one : Nat → St → Option (St × α)} (hone : ∀ n σ r, one n σ = some r → OB E σ → OB E r.1) :
    ∀ (n : Nat) σ acc r, listP E kw lim one n σ acc = some r → OB E σ → OB E r.1
  | 0, _, _, _, h, _ => by simp [listP] at h
  | n + 1, σ, acc, r, h, ho => by
    rw [listP] at h
    split at h
    · obtain ⟨x, hx, hr⟩ := Option.bind_eq_some_iff.1 h
      refine ob_list hone n _ _ _ hr (hone _ _ _ hx ?_)
      split
      · exact ob_fail ho (ob_here H σ)
      · exact ho
    · injection h with h; subst h; exact ho
theorem ob_program {n : Nat} {σ : St} {r : St × ProgD} (h : programP E n σ = some r) (ho : OB E σ) : OB E r.1 := by
  unfold programP at h
  obtain ⟨a, ha, h⟩ := Option.bind_eq_some_iff.1 h
  obtain ⟨t, ht, rfl⟩ := Option.map_eq_some_iff.1 h
  have h1 := ob_list H (one := fun _ σ => some (arrayP E σ)) (fun n σ r h ho => by injection h with h; subst h; exact ob_array H ho) n _ _ _ ha ho
  have h2 := ob_list H (fun n σ r h ho => ob_task H h ho) n _ _ _ ht h1
  dsimp only
  split
  · exact ob_reject H h2
  · exact h2
end
theorem program_off {l : List UInt8} (hl : l.length ≤ 65536) {n : Nat} {r : St × ProgD} (h : programP (envL l) n (sigT l) = some r) : r.1.off ≤ l.length := by
  obtain ⟨ts, a, e, hL⟩ : ∃ ts a e, lex l = (ts, a, e) := ⟨_, _, _, rfl⟩
  have hE : (envL l).ts = ts.filter solidT ∧ (envL l).L = l.length := by unfold envL; rw [hL]; exact ⟨rfl, rfl⟩
  have hS : sigT l = ⟨0, a, e⟩ := by unfold sigT; rw [hL]
  have hT : ∀ t ∈ (envL l).ts, t.pos ≤ (envL l).L := by
    intro t ht
    rw [hE.1] at ht
    rw [hE.2]
    have htm := (List.mem_filter.1 ht).1
    by_cases he : e = 0
    · subst he
      obtain ⟨i, hi⟩ := List.mem_iff_getElem?.1 htm
      obtain ⟨_, hj, hp⟩ := joins hL
      obtain ⟨h1, _⟩ := hp i t hi
      rw [h1]
      have := flatMap_take_le ts i
      rw [hj] at this
      exact this
    · obtain ⟨h1, _, _⟩ := lex_error hL he hl
      rw [h1] at htm; simp at htm
  have ho : OB (envL l) (sigT l) := by
    unfold OB
    rw [hS, hE.2]
    by_cases he : e = 0
    · subst he
      rw [(joins hL).1]; exact Nat.zero_le _
    · exact Nat.le_of_lt (error_at hL he hl)
  have := ob_program hT h ho
  unfold OB at this
  rw [hE.2] at this
  exact this
theorem name_short {l : List UInt8} (h : isName l = true) : l.length ≤ 12 := by
  unfold isName at h
  simp only [Bool.and_eq_true, decide_eq_true_iff] at h
  exact h.1.1.2
theorem name_65536 {l : List UInt8} (h : isName l = true) : l.length ≤ 65536 := by have := name_short h; omega
mutual
def nmT : Tree → Bool
  | .node _ _ nm kids => decide (nm.length ≤ 65536) && nmL kids
def nmL : List Tree → Bool
  | [] => true
  | t :: ts => nmT t && nmL ts
end
mutual
theorem okT_nm : ∀ (t : Tree) (c : Nat), okT t c = true → nmT t = true
  | .node k num nm kids, c, h => by
    simp only [okT, Bool.and_eq_true] at h
    obtain ⟨_, h⟩ := h
    simp only [nmT, Bool.and_eq_true, decide_eq_true_iff]
    by_cases hk : k = 47
    · rw [if_pos hk] at h
      simp only [Bool.and_eq_true] at h
      have hn : nm = [] := by simpa using h.1.2
      exact ⟨by rw [hn]; simp, okS_nm kids h.2⟩
    · rw [if_neg hk] at h
      simp only [Bool.and_eq_true, Bool.not_eq_true', Bool.or_eq_false_iff] at h
      obtain ⟨⟨⟨_, hl⟩, hn⟩, hz⟩ := h
      have hl' : kids.length = (formOf k).kids.length := by simpa using hl
      refine ⟨?_, okZ_nm kids _ hl' hz⟩
      split at hn
      · exact name_65536 hn
      · have : nm = [] := by simpa using hn
        rw [this]; simp
theorem okS_nm : ∀ (l : List Tree), okS l = true → nmL l = true
  | [], _ => rfl
  | t :: ts, h => by
    simp only [okS, Bool.and_eq_true] at h
    simp only [nmL, Bool.and_eq_true]
    exact ⟨okT_nm t _ h.1, okS_nm ts h.2⟩
theorem okZ_nm : ∀ (l : List Tree) (cs : List UInt8), l.length = cs.length → okZ l cs = true → nmL l = true
  | [], _, _, _ => rfl
  | t :: ts, [], hl, _ => by simp at hl
  | t :: ts, c :: cs, hl, h => by
    simp only [okZ, Bool.and_eq_true] at h
    simp only [nmL, Bool.and_eq_true]
    exact ⟨okT_nm t _ h.1, okZ_nm ts cs (by simpa using hl) h.2⟩
end
end Go.Proofs.YtkeehpgnljieeaaDoor.PP
