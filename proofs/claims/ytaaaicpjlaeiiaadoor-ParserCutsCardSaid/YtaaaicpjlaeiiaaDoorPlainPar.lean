/- The parser as plain functions: the same steps as the program's, with fuel where it recurses. -/
import Derived.Test.YtaaaicpjlaeiiaaDoorPlainLex2
import Derived.Test.YtaaaicpjlaeiiaaDoorPlainRef
namespace Go.Proofs.YtaaaicpjlaeiiaaDoor.PP
open PL

inductive Tree where
  | node (kind : Nat) (num : Int) (name : List UInt8) (kids : List Tree)

/-- The fixed part of a parser: the tokens and the length of the text; and its state. -/
structure Env where
  ts : List Tok
  L : Nat
structure St where
  next : Nat
  off : Nat
  err : Nat
  deriving DecidableEq

variable (E : Env)
def more (σ : St) : Bool := decide (σ.err = 0) && decide (σ.next < E.ts.length)
def cur (σ : St) : Tok := E.ts.getD σ.next ⟨0, [], 0⟩
def sees (σ : St) (t : List UInt8) : Bool := more E σ && ((cur E σ).text == t)
def here (σ : St) : Nat := if σ.next < E.ts.length then (cur E σ).pos else E.L
def fail (σ : St) (o e : Nat) : St := if σ.err = 0 then ⟨σ.next, o, e⟩ else σ
def reject (σ : St) : St := if σ.next < E.ts.length then fail σ (here E σ) 3 else fail σ (here E σ) 4
def adv (σ : St) : St := ⟨σ.next + 1, σ.off, σ.err⟩
def require (σ : St) (t : List UInt8) : St := if sees E σ t then adv σ else reject E σ
def nameP (σ : St) : St × List UInt8 := if more E σ && isName (cur E σ).text then (adv σ, (cur E σ).text) else (reject E σ, [])

/-- The value of digits, as far as it is read: no further than beyond the limit. -/
def digitsVal (high : Int) : Int → List UInt8 → Int
  | v, [] => v
  | v, d :: ds => if v ≤ high then digitsVal high (v * 10 + ((d - 48).toNat : Int)) ds else v
def numP (σ : St) (low high : Int) : St × Int :=
  if more E σ && decide ((cur E σ).kind = 2) then
    let v := digitsVal high 0 ((cur E σ).text.dropWhile (· == 48))
    if v < low ∨ high < v then (fail σ (here E σ) 2, 0) else (adv σ, v)
  else (reject E σ, 0)

theorem more_cases (σ : St) : (more E σ = true ∧ σ.err = 0 ∧ σ.next < E.ts.length) ∨ (more E σ = false ∧ σ.err ≠ 0) ∨ (more E σ = false ∧ σ.err = 0 ∧ E.ts.length ≤ σ.next) := by
  unfold more
  by_cases h1 : σ.err = 0 <;> by_cases h2 : σ.next < E.ts.length <;> simp [h1, h2] <;> omega
theorem cur_at {σ : St} (h : σ.next < E.ts.length) : E.ts[σ.next]? = some (cur E σ) := by
  unfold cur
  rw [List.getD_eq_getElem?_getD, List.getElem?_eq_getElem h]; rfl

/-- The operators: symbol and level, by kind. -/
def opTable : List (List UInt8 × Nat) := [([], 0), ([], 0), ([], 0), ([], 0), ([45], 11), ([33], 11), ([43], 9), ([45], 9), ([42], 10), ([47], 10), ([37], 10), ([38], 5), ([124], 3), ([94], 4), ([60, 60], 8), ([62, 62], 8), ([61, 61], 6), ([33, 61], 6), ([60], 7), ([60, 61], 7), ([62], 7), ([62, 61], 7), ([38, 38], 2), ([124, 124], 1)]
def level (op : Nat) : Nat := (opTable.getD op ([], 0)).2
def symbol (op : Nat) : List UInt8 := (opTable.getD op ([], 0)).1
/-- The binary operator with a symbol. -/
def opOf (t : List UInt8) : Option Nat := (List.range 18).findSome? fun i => if symbol (i + 6) == t then some (i + 6) else none

mutual
def unary : Nat → St → Option (St × Tree)
  | 0, _ => none
  | n + 1, σ =>
    if sees E σ [45] then (unary n (adv σ)).map fun r => (r.1, .node 4 0 [] [r.2])
    else if sees E σ [33] then (unary n (adv σ)).map fun r => (r.1, .node 5 0 [] [r.2])
    else primary n σ
def primary : Nat → St → Option (St × Tree)
  | 0, _ => none
  | n + 1, σ =>
    if sees E σ [40] then (binary n 0 (adv σ)).map fun r => (require E r.1 [41], r.2)
    else if more E σ && decide ((cur E σ).kind = 2) then some ((numP E σ 0 2147483647).1, .node 1 (numP E σ 0 2147483647).2 [] [])
    else place n σ
def place : Nat → St → Option (St × Tree)
  | 0, _ => none
  | n + 1, σ =>
    if sees E (nameP E σ).1 [91] then (binary n 0 (adv (nameP E σ).1)).map fun r => (require E r.1 [93], .node 3 0 (nameP E σ).2 [r.2])
    else some ((nameP E σ).1, .node 2 0 (nameP E σ).2 [])
def binary : Nat → Nat → St → Option (St × Tree)
  | 0, _, _ => none
  | n + 1, lvl, σ => (unary n σ).bind fun r => binLoop n lvl r.1 r.2
def binLoop : Nat → Nat → St → Tree → Option (St × Tree)
  | 0, _, _, _ => none
  | n + 1, lvl, σ, left =>
    if more E σ then
      match opOf (cur E σ).text with
      | some op => if level op < lvl then some (σ, left) else (binary n (level op + 1) (adv σ)).bind fun r => binLoop n lvl r.1 (.node op 0 [] [left, r.2])
      | none => some (σ, left)
    else some (σ, left)
end

theorem expr_mono : ∀ (n : Nat), (∀ σ r, unary E n σ = some r → unary E (n + 1) σ = some r) ∧ (∀ σ r, primary E n σ = some r → primary E (n + 1) σ = some r) ∧ (∀ σ r, place E n σ = some r → place E (n + 1) σ = some r) ∧
    (∀ l σ r, binary E n l σ = some r → binary E (n + 1) l σ = some r) ∧ (∀ l σ t r, binLoop E n l σ t = some r → binLoop E (n + 1) l σ t = some r)
  | 0 => ⟨fun _ _ h => by simp [unary] at h, fun _ _ h => by simp [primary] at h, fun _ _ h => by simp [place] at h, fun _ _ _ h => by simp [binary] at h, fun _ _ _ _ h => by simp [binLoop] at h⟩
  | n + 1 => by
    obtain ⟨hu, hp, hpl, hb, hl⟩ := expr_mono n
    refine ⟨fun σ r h => ?_, fun σ r h => ?_, fun σ r h => ?_, fun l σ r h => ?_, fun l σ t r h => ?_⟩
    · rw [unary] at h ⊢
      split at h
      · rename_i c; rw [if_pos c]
        obtain ⟨x, hx, rfl⟩ := Option.map_eq_some_iff.1 h
        rw [hu _ _ hx]; rfl
      · rename_i c; rw [if_neg c]
        split at h
        · rename_i c; rw [if_pos c]
          obtain ⟨x, hx, rfl⟩ := Option.map_eq_some_iff.1 h
          rw [hu _ _ hx]; rfl
        · rename_i c; rw [if_neg c]; exact hp _ _ h
    · rw [primary] at h ⊢
      split at h
      · rename_i c; rw [if_pos c]
        obtain ⟨x, hx, rfl⟩ := Option.map_eq_some_iff.1 h
        rw [hb _ _ _ hx]; rfl
      · rename_i c; rw [if_neg c]
        split at h
        · rename_i c; rw [if_pos c]; exact h
        · rename_i c; rw [if_neg c]; exact hpl _ _ h
    · rw [place] at h ⊢
      split at h
      · rename_i c; rw [if_pos c]
        obtain ⟨x, hx, rfl⟩ := Option.map_eq_some_iff.1 h
        rw [hb _ _ _ hx]; rfl
      · rename_i c; rw [if_neg c]; exact h
    · rw [binary] at h ⊢
      obtain ⟨x, hx, hr⟩ := Option.bind_eq_some_iff.1 h
      rw [hu _ _ hx]
      exact hl _ _ _ _ hr
    · rw [binLoop] at h ⊢
      split at h
      · rename_i c; rw [if_pos c]
        split at h
        · split at h
          · rename_i c; simp only [c, if_true]; exact h
          · rename_i c
            simp only [c, if_false]
            obtain ⟨x, hx, hr⟩ := Option.bind_eq_some_iff.1 h
            rw [hb _ _ _ hx]
            exact hl _ _ _ _ hr
        · exact h
      · rename_i c; rw [if_neg c]; exact h
theorem mono_le {α β : Type} {F : Nat → α → Option β} (h : ∀ n a r, F n a = some r → F (n + 1) a = some r) {n m : Nat} (hnm : n ≤ m) {a : α} {r : β} (hr : F n a = some r) : F m a = some r := by
  induction hnm with
  | refl => exact hr
  | step _ ih => exact h _ _ _ ih
theorem unary_le {n m : Nat} (h : n ≤ m) {σ : St} {r : St × Tree} (hr : unary E n σ = some r) : unary E m σ = some r := mono_le (F := unary E) (fun n => (expr_mono E n).1) h hr
theorem primary_le {n m : Nat} (h : n ≤ m) {σ : St} {r : St × Tree} (hr : primary E n σ = some r) : primary E m σ = some r := mono_le (F := primary E) (fun n => (expr_mono E n).2.1) h hr
theorem place_le {n m : Nat} (h : n ≤ m) {σ : St} {r : St × Tree} (hr : place E n σ = some r) : place E m σ = some r := mono_le (F := place E) (fun n => (expr_mono E n).2.2.1) h hr
theorem binary_le {n m : Nat} (h : n ≤ m) {l : Nat} {σ : St} {r : St × Tree} (hr : binary E n l σ = some r) : binary E m l σ = some r := mono_le (F := fun n => binary E n l) (fun n => (expr_mono E n).2.2.2.1 l) h hr
theorem binLoop_le {n m : Nat} (h : n ≤ m) {l : Nat} {σ : St} {t : Tree} {r : St × Tree} (hr : binLoop E n l σ t = some r) : binLoop E m l σ t = some r := mono_le (F := fun n σ => binLoop E n l σ t) (fun n σ => (expr_mono E n).2.2.2.2 l σ t) h hr
end Go.Proofs.YtaaaicpjlaeiiaaDoor.PP
