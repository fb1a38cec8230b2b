/- The parser's statements as plain functions, with fuel. -/
import Derived.Test.YtaaaicpjlaeiiaaDoorPlainPar
namespace Go.Proofs.YtaaaicpjlaeiiaaDoor.PP
open PL

variable (E : Env)
def goes (top : Bool) (σ : St) : Bool := more E σ && (top || !sees E σ [125])
def transfer (kind : Nat) (kid : Tree) (σ : St) : St × Tree :=
  let r := numP E (require E σ [44]) 0 7
  (require E r.1 [59], .node kind r.2 [] [kid])

mutual
def stmts : Nat → Bool → St → List Tree → Option (St × List Tree)
  | 0, _, _, _ => none
  | n + 1, top, σ, acc => if goes E top σ then (statement n σ).bind fun r => stmts n top r.1 (acc ++ [r.2]) else some (σ, acc)
def block : Nat → St → Option (St × Tree)
  | 0, _ => none
  | n + 1, σ => (stmts n false (require E σ [123]) []).map fun r => (require E r.1 [125], .node 47 0 [] r.2)
def choice : Nat → St → Option (St × Tree)
  | 0, _ => none
  | n + 1, σ => (binary E n 0 (require E σ [105, 102])).bind fun c => (block n c.1).bind fun t => (block n (require E t.1 [101, 108, 115, 101])).map fun f => (f.1, .node 41 0 [] [c.2, t.2, f.2])
def statement : Nat → St → Option (St × Tree)
  | 0, _ => none
  | n + 1, σ =>
    if sees E σ [105, 102] then choice n σ
    else if sees E σ [102, 111, 114] then
      let a := nameP E (adv σ)
      let v := numP E (require E a.1 [60]) 1 1000
      (block n v.1).map fun r => (r.1, .node 42 v.2 a.2 [r.2])
    else if sees E σ [119, 104, 105, 108, 101] then
      (binary E n 0 (adv σ)).bind fun c =>
        let v := numP E (require E c.1 [98, 111, 117, 110, 100]) 1 1000
        (block n v.1).map fun r => (r.1, .node 43 v.2 [] [c.2, r.2])
    else if sees E σ [105, 110] then (place E n (adv σ)).map fun r => transfer E 44 r.2 r.1
    else if sees E σ [111, 117, 116] then (binary E n 0 (adv σ)).map fun r => transfer E 45 r.2 r.1
    else if sees E σ [108, 111, 99, 107] then
      let a := nameP E (adv σ)
      (block n a.1).map fun r => (r.1, .node 46 0 a.2 [r.2])
    else (place E n σ).bind fun a => (binary E n 0 (require E a.1 [61])).map fun r => (require E r.1 [59], .node 40 0 [] [a.2, r.2])
end

theorem stmt_mono : ∀ (n : Nat), (∀ top σ acc r, stmts E n top σ acc = some r → stmts E (n + 1) top σ acc = some r) ∧ (∀ σ r, block E n σ = some r → block E (n + 1) σ = some r) ∧
    (∀ σ r, choice E n σ = some r → choice E (n + 1) σ = some r) ∧ (∀ σ r, statement E n σ = some r → statement E (n + 1) σ = some r)
  | 0 => ⟨fun _ _ _ _ h => by simp [stmts] at h, fun _ _ h => by simp [block] at h, fun _ _ h => by simp [choice] at h, fun _ _ h => by simp [statement] at h⟩
  | n + 1 => by
    obtain ⟨hs, hb, hc, ht⟩ := stmt_mono n
    have he : ∀ l σ r, binary E n l σ = some r → binary E (n + 1) l σ = some r := (expr_mono E n).2.2.2.1
    have hp : ∀ σ r, place E n σ = some r → place E (n + 1) σ = some r := (expr_mono E n).2.2.1
    refine ⟨fun top σ acc r h => ?_, fun σ r h => ?_, fun σ r h => ?_, fun σ r h => ?_⟩
    · rw [stmts] at h ⊢
      split at h
      · rename_i c; rw [if_pos c]
        obtain ⟨x, hx, hr⟩ := Option.bind_eq_some_iff.1 h
        rw [ht _ _ hx]; exact hs _ _ _ _ hr
      · rename_i c; rw [if_neg c]; exact h
    · rw [block] at h ⊢
      obtain ⟨x, hx, rfl⟩ := Option.map_eq_some_iff.1 h
      rw [hs _ _ _ _ hx]; rfl
    · rw [choice] at h ⊢
      obtain ⟨x, hx, h⟩ := Option.bind_eq_some_iff.1 h
      obtain ⟨y, hy, h⟩ := Option.bind_eq_some_iff.1 h
      obtain ⟨z, hz, rfl⟩ := Option.map_eq_some_iff.1 h
      simp [he _ _ _ hx, hb _ _ hy, hb _ _ hz]
    · rw [statement] at h ⊢
      by_cases c1 : sees E σ [105, 102] = true
      · rw [if_pos c1] at h ⊢; exact hc _ _ h
      rw [if_neg c1] at h ⊢
      by_cases c2 : sees E σ [102, 111, 114] = true
      · rw [if_pos c2] at h ⊢
        obtain ⟨z, hz, rfl⟩ := Option.map_eq_some_iff.1 h
        simp [hb _ _ hz]
      rw [if_neg c2] at h ⊢
      by_cases c3 : sees E σ [119, 104, 105, 108, 101] = true
      · rw [if_pos c3] at h ⊢
        obtain ⟨x, hx, h⟩ := Option.bind_eq_some_iff.1 h
        obtain ⟨z, hz, rfl⟩ := Option.map_eq_some_iff.1 h
        simp [he _ _ _ hx, hb _ _ hz]
      rw [if_neg c3] at h ⊢
      by_cases c4 : sees E σ [105, 110] = true
      · rw [if_pos c4] at h ⊢
        obtain ⟨z, hz, rfl⟩ := Option.map_eq_some_iff.1 h
        simp [hp _ _ hz]
      rw [if_neg c4] at h ⊢
      by_cases c5 : sees E σ [111, 117, 116] = true
      · rw [if_pos c5] at h ⊢
        obtain ⟨z, hz, rfl⟩ := Option.map_eq_some_iff.1 h
        simp [he _ _ _ hz]
      rw [if_neg c5] at h ⊢
      by_cases c6 : sees E σ [108, 111, 99, 107] = true
      · rw [if_pos c6] at h ⊢
        obtain ⟨z, hz, rfl⟩ := Option.map_eq_some_iff.1 h
        simp [hb _ _ hz]
      rw [if_neg c6] at h ⊢
      obtain ⟨x, hx, h⟩ := Option.bind_eq_some_iff.1 h
      obtain ⟨z, hz, rfl⟩ := Option.map_eq_some_iff.1 h
      simp [hp _ _ hx, he _ _ _ hz]
theorem stmts_le {n m : Nat} (h : n ≤ m) {top : Bool} {σ : St} {acc : List Tree} {r : St × List Tree} (hr : stmts E n top σ acc = some r) : stmts E m top σ acc = some r := mono_le (F := fun n σ => stmts E n top σ acc) (fun n σ => (stmt_mono E n).1 top σ acc) h hr
theorem block_le {n m : Nat} (h : n ≤ m) {σ : St} {r : St × Tree} (hr : block E n σ = some r) : block E m σ = some r := mono_le (F := block E) (fun n => (stmt_mono E n).2.1) h hr
theorem choice_le {n m : Nat} (h : n ≤ m) {σ : St} {r : St × Tree} (hr : choice E n σ = some r) : choice E m σ = some r := mono_le (F := choice E) (fun n => (stmt_mono E n).2.2.1) h hr
theorem statement_le {n m : Nat} (h : n ≤ m) {σ : St} {r : St × Tree} (hr : statement E n σ = some r) : statement E m σ = some r := mono_le (F := statement E) (fun n => (stmt_mono E n).2.2.2) h hr
end Go.Proofs.YtaaaicpjlaeiiaaDoor.PP
