/- The contract of ast.Equal. -/
import Derived.Test.YtkeehpgnljieeaaDoorKF
namespace Go.Proofs.YtkeehpgnljieeaaDoor
open Go.RowKit Go.Maps
open PP (Tree)

namespace PP
mutual
def eqT : Tree → Tree → Bool
  | .node k n s ks, .node k' n' s' ks' => k == k' && n == n' && s == s' && eqL ks ks'
def eqL : List Tree → List Tree → Bool
  | [], [] => true
  | a :: l, b :: m => eqT a b && eqL l m
  | _, _ => false
end
theorem eqL_len : ∀ (l m : List Tree), l.length ≠ m.length → eqL l m = false
  | [], [], h => absurd rfl h
  | [], _ :: _, _ => rfl
  | _ :: _, [], _ => rfl
  | a :: l, b :: m, h => by
    simp only [eqL]
    rw [eqL_len l m (by simpa using h), Bool.and_false]
theorem eqL_bad : ∀ (l m : List Tree) (i : Nat) (t t' : Tree), l[i]? = some t → m[i]? = some t' → eqT t t' = false → eqL l m = false
  | [], _, i, t, t', h, _, _ => by simp at h
  | _ :: _, [], i, t, t', _, h, _ => by simp at h
  | a :: l, b :: m, 0, t, t', h, h', he => by
    simp at h h'; subst h h'
    simp only [eqL, he, Bool.false_and]
  | a :: l, b :: m, i + 1, t, t', h, h', he => by
    simp only [eqL]
    rw [eqL_bad l m i t t' (by simpa using h) (by simpa using h') he, Bool.and_false]
theorem eqL_all : ∀ (l m : List Tree), l.length = m.length → (∀ (i : Nat) t t', l[i]? = some t → m[i]? = some t' → eqT t t' = true) → eqL l m = true
  | [], [], _, _ => rfl
  | [], _ :: _, h, _ => by simp at h
  | _ :: _, [], h, _ => by simp at h
  | a :: l, b :: m, h, hh => by
    simp only [eqL]
    rw [hh 0 a b rfl rfl, eqL_all l m (by simpa using h) (fun i t t' h1 h2 => hh (i + 1) t t' (by simpa using h1) (by simpa using h2))]
    rfl
mutual
theorem eqT_refl : ∀ t : Tree, eqT t t = true
  | .node k n s ks => by simp only [eqT, beq_self_eq_true, Bool.true_and]; exact eqL_refl ks
theorem eqL_refl : ∀ l : List Tree, eqL l l = true
  | [] => rfl
  | a :: l => by simp only [eqL, eqT_refl a, eqL_refl l]; rfl
end
end PP
def nodeVal (k : Nat) (num : Int) (nm : List UInt8) (A : Option Addr) (n c : Nat) : Value := .agg #[.int .u8 (k : Int), .int .i64 num, .string ⟨nm.toArray⟩, .slice A n c]
def EqRel (kids kids' : List Tree) (w : World) (i : Value) (wr : World) : Prop := ∃ j : Nat, j ≤ kids.length ∧ i = .int .i64 (j : Int) ∧ (∀ l t t', l < j → kids[l]? = some t → kids'[l]? = some t' → PP.eqT t t' = true) ∧ Below w.heap.size w wr
section
set_option maxHeartbeats 2000000
set_option maxRecDepth 100000
end
end Go.Proofs.YtkeehpgnljieeaaDoor
