/- Merged from ParR, ParS, ParT, ParU, ParV (wip/pack.py). -/
import Derived.Test.YtkeehpgnljieeaaDoorKD
import Derived.Test.YtkeehpgnljieeaaDoorKA
import Derived.Test.YtkeehpgnljieeaaDoorKB
/- The contract of the parser's declarations (written by wip/gendecl.py). -/
namespace Go.Proofs.YtkeehpgnljieeaaDoor
open Go.RowKit Go.Maps
open PP (Tree ArrD)

def strCells (vs : List (List UInt8)) : List Value := vs.map fun s => Value.string ⟨s.toArray⟩
def arrCells (ar : List ArrD) : List Value := ar.flatMap fun a => [Value.string ⟨a.name.toArray⟩, Value.int .i64 a.len]
theorem infoStr : (Tryd.prog.info? 9).map (fun i => (i.zero, i.size, i.bytes)) = some (some (.string ⟨#[]⟩), 1, 16) := by kernel_rfl
theorem sees_one {E : PP.Env} {σ : PP.St} {s t : List UInt8} (h : PP.sees E σ s = true) (hst : s ≠ t) : PP.sees E σ t = false := by
  unfold PP.sees at h ⊢
  simp only [Bool.and_eq_true, beq_iff_eq] at h
  rw [h.1, h.2]
  simpa using hst
def taskCells (a0 a1 vv va a4 a5 a6 a7 : Value) : Array Value := #[a0, a1, vv, va, a4, a5, a6, a7]
theorem permA {α : Type} (t : α) (v a l : List α) : (t :: (v ++ (a ++ l))).Perm (a ++ (t :: (v ++ l))) := (List.Perm.cons t (List.perm_append_comm_assoc v a l)).trans List.perm_middle.symm
theorem permV {α : Type} (t : α) (v a l : List α) : (t :: (v ++ (a ++ l))).Perm (v ++ (t :: (a ++ l))) := List.perm_middle.symm
theorem le_arrayP {E : PP.Env} {σ : PP.St} : σ.next < (PP.arrayP E σ).1.next := by
  have h1 := (PP.le_nameP E (PP.adv σ)).1
  have h2 := (PP.le_require E (PP.nameP E (PP.adv σ)).1 [91]).1
  have h3 := (PP.le_numP E (PP.require E (PP.nameP E (PP.adv σ)).1 [91]) 1 32).1
  have h4 := (PP.le_require E (PP.numP E (PP.require E (PP.nameP E (PP.adv σ)).1 [91]) 1 32).1 [93]).1
  have h5 := (PP.le_require E (PP.require E (PP.numP E (PP.require E (PP.nameP E (PP.adv σ)).1 [91]) 1 32).1 [93]) [59]).1
  have h6 : (PP.arrayP E σ).1.next = (PP.require E (PP.require E (PP.numP E (PP.require E (PP.nameP E (PP.adv σ)).1 [91]) 1 32).1 [93]) [59]).next := rfl
  have h7 : (PP.adv σ).next = σ.next + 1 := rfl
  omega
theorem le_variableP {E : PP.Env} {σ : PP.St} : σ.next < (PP.variableP E σ).1.next := by
  have h1 := (PP.le_nameP E (PP.adv σ)).1
  have h2 := (PP.le_require E (PP.nameP E (PP.adv σ)).1 [59]).1
  have h6 : (PP.variableP E σ).1.next = (PP.require E (PP.nameP E (PP.adv σ)).1 [59]).next := rfl
  have h7 : (PP.adv σ).next = σ.next + 1 := rfl
  omega
section
set_option maxHeartbeats 2000000
set_option maxRecDepth 100000
attribute [local go_sem ↓] Go.wp_at_zero Go.wp_at_succ
variable {w0 : World} {Z : Nat → Prop} {b : Nat} {X : Loc} {E : PP.Env} {σ : PP.St} {bl : List OwnB} {ks : List (Option Addr × List Tree)} {W : World}
end
end Go.Proofs.YtkeehpgnljieeaaDoor
/- The contract of the parser's task. -/
namespace Go.Proofs.YtkeehpgnljieeaaDoor
open Go.RowKit Go.Maps
open PP (Tree ArrD TaskD)

theorem permR {α : Type} (t r : α) (v a l : List α) : (t :: (v ++ (a ++ (r :: l)))).Perm (t :: r :: (v ++ (a ++ l))) := by
  refine List.Perm.cons t ?_
  rw [← List.append_assoc, ← List.append_assoc]
  exact List.perm_middle
section
set_option maxHeartbeats 2000000
set_option maxRecDepth 100000
variable {w0 : World} {Z : Nat → Prop} {b : Nat} {X : Loc} {E : PP.Env} {σ : PP.St} {bl : List OwnB} {ks : List (Option Addr × List Tree)} {W : World}
end
end Go.Proofs.YtkeehpgnljieeaaDoor
/- The contracts of the parser's lists of arrays and of tasks (written by wip/genlist.py). -/
namespace Go.Proofs.YtkeehpgnljieeaaDoor
open Go.RowKit Go.Maps
open PP (Tree ArrD TaskD)

section
variable {w0 : World} {Z : Nat → Prop} {b : Nat} {X : Loc} {E : PP.Env} {σ : PP.St} {bl : List OwnB} {ks : List (Option Addr × List Tree)} {W : World}
variable {g g1 g2 g3 : Nat} {t t1 t2 t3 : TypeId} {cs c1 c2 c3 : Array Value}
end
/-- The state in which a list reads its next construct. -/
def sigL (E : PP.Env) (lim j : Nat) (σ : PP.St) : PP.St := if lim < j + 1 then PP.fail σ (PP.here E σ) 5 else σ
theorem sigL_next (E : PP.Env) (lim j : Nat) (σ : PP.St) : (sigL E lim j σ).next = σ.next := by
  unfold sigL PP.fail
  repeat' split
  all_goals rfl
theorem Blk.one {w : World} {g : Nat} {t : TypeId} {a : Value} (h : Blk w g t #[a]) : w.cell? ⟨g, 0, none⟩ = some a := h.cell 0
theorem permH {α : Type} (r : α) (v a l : List α) : (v ++ (a ++ (r :: l))).Perm (r :: (v ++ (a ++ l))) := by
  rw [← List.append_assoc, ← List.append_assoc]
  exact List.perm_middle
section
set_option maxHeartbeats 2000000
set_option maxRecDepth 100000
variable {w0 : World} {Z : Nat → Prop} {b : Nat} {X : Loc} {E : PP.Env} {σ : PP.St} {bl : List OwnB} {ks : List (Option Addr × List Tree)} {W : World}
end
end Go.Proofs.YtkeehpgnljieeaaDoor
/- The contracts of the parser's sequences and lists of arrays and of tasks (written by wip/genseq.py). -/
namespace Go.Proofs.YtkeehpgnljieeaaDoor
open Go.RowKit Go.Maps
open PP (Tree ArrD TaskD)

theorem perm4 {α : Type} (v : List α) (x y z u : α) (l : List α) : (v ++ (x :: y :: z :: u :: l)).Perm (x :: y :: z :: u :: (v ++ l)) := List.perm_append_comm_assoc v [x, y, z, u] l
theorem perm6 {α : Type} (v a t x l : List α) (c d e f : α) : (v ++ (a ++ (c :: d :: e :: f :: (t ++ (x ++ l))))).Perm (t ++ ((v ++ (a ++ x)) ++ (c :: d :: e :: f :: l))) := by
  classical
  exact List.perm_iff_count.2 (fun y => by simp only [List.count_append, List.count_cons]; omega)
theorem perm7 {α : Type} (t x l : List α) (c d e f : α) : (t ++ (x ++ (c :: d :: e :: f :: l))).Perm (c :: d :: e :: f :: (t ++ (x ++ l))) := by
  classical
  exact List.perm_iff_count.2 (fun y => by simp only [List.count_append, List.count_cons]; omega)
theorem permL {α : Type} (c o l p : α) (r : List α) : (c :: o :: l :: p :: r).Perm (c :: l :: p :: o :: r) := by
  classical
  exact List.perm_iff_count.2 (fun y => by simp only [List.count_cons]; omega)
/-- An element of a row of tasks. -/
structure TaskEl where
  nm : List UInt8
  per : Int
  vs : List (List UInt8)
  ar : List ArrD
  kids : List Tree
  A : Option Addr
  c : Nat
  vv : Value
  va : Value
  bv : List OwnB
  ba : List OwnB
def TaskEl.cells (x : TaskEl) : List Value := [.string ⟨x.nm.toArray⟩, .int .i64 x.per, x.vv, x.va, .int .u8 47, .int .i64 0, .string ⟨#[]⟩, .slice x.A x.kids.length x.c]
def TaskEl.data (x : TaskEl) : TaskD := ⟨x.nm, x.per, x.vs, x.ar, .node 47 0 [] x.kids⟩
def tasksCells (xs : List TaskEl) : List Value := xs.flatMap TaskEl.cells
section
set_option maxHeartbeats 2000000
set_option maxRecDepth 100000
variable {w0 : World} {Z : Nat → Prop} {b : Nat} {X : Loc} {E : PP.Env} {σ : PP.St} {bl : List OwnB} {ks : List (Option Addr × List Tree)} {W : World}
end
end Go.Proofs.YtkeehpgnljieeaaDoor
/- The contracts of word.Operators and of the parser's start. -/
namespace Go.Proofs.YtkeehpgnljieeaaDoor
open Go.RowKit Go.Maps Go.WideMaps Go.WideElems
open PP (Tree ArrD TaskD)

def opsCells (k : Nat) : List Value := (List.range k).map fun (i : Nat) => Value.int .u8 ((i : Int) + 6)
theorem opsCells_length (k : Nat) : (opsCells k).length = k := by simp [opsCells]
theorem opsCells_succ (k : Nat) : opsCells (k + 1) = opsCells k ++ [.int .u8 ((k : Int) + 6)] := by simp [opsCells, List.range_succ]
theorem opsCells_at (k i : Nat) (h : i < k) : (opsCells k)[i]? = some (.int .u8 ((i : Int) + 6)) := by simp [opsCells, h]
theorem infoByte : (Tryd.prog.info? 5).map (fun i => (i.zero, i.size, i.bytes)) = some (some (.int .u8 0), 1, 1) := by kernel_rfl

section
set_option maxHeartbeats 1000000
set_option maxRecDepth 100000
theorem cell_far_grown {w w' : World} {m g : Nat} {t : TypeId} {cs : Array Value} (h : Blk w g t cs) (hg : w.grownBy w' (some m)) (hne : g ≠ m) : Blk w' g t cs := (hg.block g h.lt (by simpa using hne)).trans h
theorem OpsIs.below {w w' : World} (h : OpsIs w) (hb : Below w.heap.size w w') : OpsIs w' := by
  obtain ⟨t, fr, hs⟩ := h
  exact ⟨t, fr, (hb.block _ (Array.getElem?_eq_some_iff.1 hs).1).trans hs⟩
theorem OpsIs.lt {w : World} (h : OpsIs w) : 0 < w.heap.size := by
  obtain ⟨t, fr, hs⟩ := h
  exact (Array.getElem?_eq_some_iff.1 hs).1
theorem RToks.grown {w w' : World} {A : Option Addr} {rs : List RT} {m : Nat} (h : RToks w A rs) (hg : w.grownBy w' (some m)) (hm : rs ≠ [] → ∀ a, A = some a → a.block < m) : RToks w' A rs := fun hn => by
  obtain ⟨b, o, rfl, hlt, hc⟩ := h hn
  have hb := hg.block b hlt (by have := hm hn _ rfl; simp only [ne_eq, Option.some.injEq]; intro e; simp only at this; omega)
  refine ⟨b, o, rfl, Nat.lt_of_lt_of_le hlt hg.size, fun i r hi => ?_⟩
  obtain ⟨h0, h1, h2⟩ := hc i r hi
  exact ⟨(World.cell?_of_block (a := ⟨b, o + i * 3, none⟩) hb).trans h0, (World.cell?_of_block (a := ⟨b, o + i * 3 + 1, none⟩) hb).trans h1, (World.cell?_of_block (a := ⟨b, o + i * 3 + 2, none⟩) hb).trans h2⟩
end
section
set_option maxHeartbeats 2000000
set_option maxRecDepth 100000
attribute [local go_sem ↓] Go.wp_at_zero Go.wp_at_succ
end
end Go.Proofs.YtkeehpgnljieeaaDoor
