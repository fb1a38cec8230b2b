/- The parser's declarations, tasks and programs as plain functions, with fuel; the measures of a tree. -/
import Derived.Test.YtaaaicpjlaeiiaaDoorPlainPar2
namespace Go.Proofs.YtaaaicpjlaeiiaaDoor.PP
open PL

mutual
def Tree.size : Tree → Nat
  | .node _ _ _ ks => 1 + sizeL ks
def sizeL : List Tree → Nat
  | [] => 0
  | t :: ts => t.size + sizeL ts
end
mutual
def Tree.depth : Tree → Nat
  | .node _ _ _ ks => depthL ks + 1
def depthL : List Tree → Nat
  | [] => 0
  | t :: ts => max t.depth (depthL ts)
end
mutual
def Tree.nest : Tree → Nat
  | .node k _ _ ks => nestL ks + if k = 42 ∨ k = 43 then 1 else 0
def nestL : List Tree → Nat
  | [] => 0
  | t :: ts => max t.nest (nestL ts)
end
/-- Whether a tree exceeds a limit of a body. -/
def large (t : Tree) : Bool := decide (16 < t.depth) || decide (400 < t.size) || decide (4 < t.nest)
def limitP (t : Tree) (o : Nat) (σ : St) : St := if σ.err = 0 then (if large t then fail σ o 5 else σ) else σ

structure ArrD where
  name : List UInt8
  len : Int
structure TaskD where
  name : List UInt8
  period : Int
  vars : List (List UInt8)
  arrays : List ArrD
  body : Tree
structure ProgD where
  shared : List ArrD
  tasks : List TaskD

variable (E : Env)
def arrayP (σ : St) : St × ArrD :=
  let a := nameP E (adv σ)
  let v := numP E (require E a.1 [91]) 1 32
  (require E (require E v.1 [93]) [59], ⟨a.2, v.2⟩)
def variableP (σ : St) : St × List UInt8 :=
  let a := nameP E (adv σ)
  (require E a.1 [59], a.2)
def kwVar : List UInt8 := [118, 97, 114]
def kwArray : List UInt8 := [97, 114, 114, 97, 121]
def kwPeriod : List UInt8 := [112, 101, 114, 105, 111, 100]
def kwShared : List UInt8 := [115, 104, 97, 114, 101, 100]
def kwTask : List UInt8 := [116, 97, 115, 107]
/-- The declarations of a task. -/
def decls : Nat → St → List (List UInt8) → List ArrD → Option (St × List (List UInt8) × List ArrD)
  | 0, _, _, _ => none
  | n + 1, σ, vs, as =>
    if sees E σ kwVar || sees E σ kwArray then
      if sees E σ kwArray && decide (as.length < 4) then decls n (arrayP E σ).1 vs (as ++ [(arrayP E σ).2])
      else if sees E σ kwVar && decide (vs.length < 12) then decls n (variableP E σ).1 (vs ++ [(variableP E σ).2]) as
      else decls n (fail σ (here E σ) 5) vs as
    else some (σ, vs, as)
def taskP (n : Nat) (σ : St) : Option (St × TaskD) :=
  let a := nameP E (adv σ)
  let v := numP E (require E a.1 kwPeriod) 1 1000
  (decls E n (require E v.1 [123]) [] []).bind fun d => (stmts E n false d.1 []).map fun r =>
    (limitP (.node 47 0 [] r.2) (here E v.1) (require E r.1 [125]), ⟨a.2, v.2, d.2.1, d.2.2, .node 47 0 [] r.2⟩)
/-- A list of constructs that begin with a keyword, at most as many as a limit says. -/
def listP {α : Type} (kw : List UInt8) (limit : Nat) (one : Nat → St → Option (St × α)) : Nat → St → List α → Option (St × List α)
  | 0, _, _ => none
  | n + 1, σ, acc =>
    if sees E σ kw then (one n (if limit < acc.length + 1 then fail σ (here E σ) 5 else σ)).bind fun r => listP kw limit one n r.1 (acc ++ [r.2])
    else some (σ, acc)
def programP (n : Nat) (σ : St) : Option (St × ProgD) :=
  (listP E kwShared 4 (fun _ σ => some (arrayP E σ)) n σ []).bind fun a => (listP E kwTask 8 (taskP E) n a.1 []).map fun t =>
    (if more E t.1 then reject E t.1 else t.1, ⟨a.2, t.2⟩)
def exprP (n : Nat) (σ : St) : Option (St × Tree) :=
  (binary E n 0 σ).map fun r => (limitP r.2 0 (if more E r.1 then reject E r.1 else r.1), r.2)
def blockP (n : Nat) (σ : St) : Option (St × Tree) :=
  (stmts E n true σ []).map fun r => (limitP (.node 47 0 [] r.2) 0 r.1, .node 47 0 [] r.2)

theorem decls_mono : ∀ (n : Nat) σ vs as r, decls E n σ vs as = some r → decls E (n + 1) σ vs as = some r
  | 0, _, _, _, _, h => by simp [decls] at h
  | n + 1, σ, vs, as, r, h => by
    rw [decls] at h ⊢
    split at h
    · rename_i c; rw [if_pos c]
      split at h
      · rename_i c; rw [if_pos c]; exact decls_mono n _ _ _ _ h
      · rename_i c; rw [if_neg c]
        split at h
        · rename_i c; rw [if_pos c]; exact decls_mono n _ _ _ _ h
        · rename_i c; rw [if_neg c]; exact decls_mono n _ _ _ _ h
    · rename_i c; rw [if_neg c]; exact h
theorem decls_le {n m : Nat} (h : n ≤ m) {σ : St} {vs : List (List UInt8)} {as : List ArrD} {r : St × List (List UInt8) × List ArrD} (hr : decls E n σ vs as = some r) : decls E m σ vs as = some r :=
  mono_le (F := fun n σ => decls E n σ vs as) (fun n σ r => decls_mono E n σ vs as r) h hr
theorem taskP_le {n m : Nat} (h : n ≤ m) {σ : St} {r : St × TaskD} (hr : taskP E n σ = some r) : taskP E m σ = some r := by
  unfold taskP at hr ⊢
  obtain ⟨d, hd, hr⟩ := Option.bind_eq_some_iff.1 hr
  obtain ⟨x, hx, rfl⟩ := Option.map_eq_some_iff.1 hr
  simp [decls_le E h hd, stmts_le E h hx]
theorem listP_mono {α : Type} (kw : List UInt8) (limit : Nat) (one : Nat → St → Option (St × α)) (ho : ∀ n σ r, one n σ = some r → one (n + 1) σ = some r) : ∀ (n : Nat) σ acc r, listP E kw limit one n σ acc = some r → listP E kw limit one (n + 1) σ acc = some r
  | 0, _, _, _, h => by simp [listP] at h
  | n + 1, σ, acc, r, h => by
    rw [listP] at h ⊢
    split at h
    · rename_i c; rw [if_pos c]
      obtain ⟨x, hx, hr⟩ := Option.bind_eq_some_iff.1 h
      rw [ho _ _ _ hx]
      exact listP_mono kw limit one ho n _ _ _ hr
    · rename_i c; rw [if_neg c]; exact h
theorem listP_le {α : Type} {kw : List UInt8} {limit : Nat} {one : Nat → St → Option (St × α)} (ho : ∀ n σ r, one n σ = some r → one (n + 1) σ = some r) {n m : Nat} (h : n ≤ m) {σ : St} {acc : List α} {r : St × List α} (hr : listP E kw limit one n σ acc = some r) : listP E kw limit one m σ acc = some r :=
  mono_le (F := fun n σ => listP E kw limit one n σ acc) (fun n σ r => listP_mono E kw limit one ho n σ acc r) h hr
theorem programP_le {n m : Nat} (h : n ≤ m) {σ : St} {r : St × ProgD} (hr : programP E n σ = some r) : programP E m σ = some r := by
  unfold programP at hr ⊢
  obtain ⟨d, hd, hr⟩ := Option.bind_eq_some_iff.1 hr
  obtain ⟨x, hx, rfl⟩ := Option.map_eq_some_iff.1 hr
  have h1 := listP_le E (one := fun _ σ => some (arrayP E σ)) (fun _ _ _ h => h) h hd
  have h2 := listP_le E (one := taskP E) (fun n σ r hh => taskP_le E (Nat.le_succ n) hh) h hx
  rw [h1]; simp [h2]
theorem exprP_le {n m : Nat} (h : n ≤ m) {σ : St} {r : St × Tree} (hr : exprP E n σ = some r) : exprP E m σ = some r := by
  unfold exprP at hr ⊢
  obtain ⟨x, hx, rfl⟩ := Option.map_eq_some_iff.1 hr
  simp [binary_le E h hx]
theorem blockP_le {n m : Nat} (h : n ≤ m) {σ : St} {r : St × Tree} (hr : blockP E n σ = some r) : blockP E m σ = some r := by
  unfold blockP at hr ⊢
  obtain ⟨x, hx, rfl⟩ := Option.map_eq_some_iff.1 hr
  simp [stmts_le E h hx]
end Go.Proofs.YtaaaicpjlaeiiaaDoor.PP
