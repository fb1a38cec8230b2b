/- Merged from ParR, ParS, ParT, ParU, ParV (wip/pack.py). -/
import Derived.Test.YtfakdbnfpdalhaaDoorKD
import Derived.Test.YtfakdbnfpdalhaaDoorKA
import Derived.Test.YtfakdbnfpdalhaaDoorKB
/- The contract of the parser's declarations (written by wip/gendecl.py). -/
namespace Go.Proofs.YtfakdbnfpdalhaaDoor
open Go.RowKit Go.Maps
open PP (Tree ArrD)

def strCells (vs : List (List UInt8)) : List Value := vs.map fun s => Value.string ⟨s.toArray⟩
def arrCells (ar : List ArrD) : List Value := ar.flatMap fun a => [Value.string ⟨a.name.toArray⟩, Value.int .i64 a.len]
theorem infoStr : (Tryd.prog.info? 9).map (fun i => (i.zero, i.size, i.bytes)) = some (some (.string ⟨#[]⟩), 1, 16) := by kernel_rfl
theorem infoArr : (Tryd.prog.info? 68).map (fun i => (i.zero, i.size, i.bytes)) = some (some (.agg #[.string ⟨#[]⟩, .int .i64 0]), 2, 24) := by kernel_rfl
theorem sees_one {E : PP.Env} {σ : PP.St} {s t : List UInt8} (h : PP.sees E σ s = true) (hst : s ≠ t) : PP.sees E σ t = false := by
  unfold PP.sees at h ⊢
  simp only [Bool.and_eq_true, beq_iff_eq] at h
  rw [h.1, h.2]
  simpa using hst
def taskCells (a0 a1 vv va a4 a5 a6 a7 : Value) : Array Value := #[a0, a1, vv, va, a4, a5, a6, a7]
def DeclRel (w0 : World) (Z : Nat → Prop) (b : Nat) (X : Loc) (E : PP.Env) (σ : PP.St) (bl : List OwnB) (ks : List (Option Addr × List Tree)) (T : Nat) (a0 a1 a4 a5 a6 a7 : Value) (wr : World) : Prop :=
  ∃ σ' vs ar vv va bv ba, RowV w0.heap.size 9 1 vv (vs : List (List UInt8)).length (strCells vs) bv ∧ RowV w0.heap.size 68 2 va (ar : List ArrD).length (arrCells ar) ba ∧
    Inv w0 Z b X E σ' ((T, 70, #[a0, a1, vv, va, a4, a5, a6, a7]) :: (bv ++ (ba ++ bl))) ks wr ∧ vs.length ≤ 12 ∧ ar.length ≤ 4 ∧ ∀ n r, PP.decls E n σ' vs ar = some r → ∃ n', PP.decls E n' σ [] [] = some r
def DeclEnd (w0 : World) (Z : Nat → Prop) (b : Nat) (X : Loc) (E : PP.Env) (σ : PP.St) (bl : List OwnB) (ks : List (Option Addr × List Tree)) (T : Nat) (a0 a1 a4 a5 a6 a7 : Value) (r : Ending) (w' : World) : Prop :=
  ∃ σ' vs ar vv va bv ba, r = .returned (.tuple #[]) ∧ RowV w0.heap.size 9 1 vv (vs : List (List UInt8)).length (strCells vs) bv ∧ RowV w0.heap.size 68 2 va (ar : List ArrD).length (arrCells ar) ba ∧
    Inv w0 Z b X E σ' ((T, 70, #[a0, a1, vv, va, a4, a5, a6, a7]) :: (bv ++ (ba ++ bl))) ks w' ∧ vs.length ≤ 12 ∧ ar.length ≤ 4 ∧ ∃ n, PP.decls E n σ [] [] = some (σ', vs, ar)
theorem permA {α : Type} (t : α) (v a l : List α) : (t :: (v ++ (a ++ l))).Perm (a ++ (t :: (v ++ l))) := (List.Perm.cons t (List.perm_append_comm_assoc v a l)).trans List.perm_middle.symm
theorem permV {α : Type} (t : α) (v a l : List α) : (t :: (v ++ (a ++ l))).Perm (v ++ (t :: (a ++ l))) := List.perm_middle.symm
theorem le_arrayP {E : PP.Env} {σ : PP.St} : σ.next < (PP.arrayP E σ).1.next := by
  have h1 := (PP.le_nameP E (PP.adv σ)).1
  have h2 := (PP.le_require E (PP.nameP E (PP.adv σ)).1 [91]).1
  have h3 := (PP.le_numP E (PP.require E (PP.nameP E (PP.adv σ)).1 [91]) 1 32).1
  have h4 := (PP.le_require E (PP.numP E (PP.require E (PP.nameP E (PP.adv σ)).1 [91]) 1 32).1 [93]).1
  have h5 := (PP.le_require E (PP.require E (PP.numP E (PP.require E (PP.nameP E (PP.adv σ)).1 [91]) 1 32).1 [93]) [59]).1
  have h6 : (PP.arrayP E σ).1.next = (PP.require E (PP.require E (PP.numP E (PP.require E (PP.nameP E (PP.adv σ)).1 [91]) 1 32).1 [93]) [59]).next := rfl
  have h7 : (PP.adv σ).next = σ.next + 1 := rfl
  omega
theorem le_variableP {E : PP.Env} {σ : PP.St} : σ.next < (PP.variableP E σ).1.next := by
  have h1 := (PP.le_nameP E (PP.adv σ)).1
  have h2 := (PP.le_require E (PP.nameP E (PP.adv σ)).1 [59]).1
  have h6 : (PP.variableP E σ).1.next = (PP.require E (PP.nameP E (PP.adv σ)).1 [59]).next := rfl
  have h7 : (PP.adv σ).next = σ.next + 1 := rfl
  omega
theorem left_lt {E : PP.Env} {b : Nat} {X : Loc} {σ σ' : PP.St} {w w' : World} (h : PS w b X E σ) (h' : PS w' b X E σ') (he : σ.err = 0) (hlt : σ.next < E.ts.length) (hs : σ'.err ≠ 0 ∨ σ.next < σ'.next) : leftOf E b w' < leftOf E b w := by
  rw [leftOf_ps h, leftOf_ps h', if_pos he]
  rcases hs with hs | hs
  · rw [if_neg hs]; omega
  · split <;> omega

section
set_option maxHeartbeats 2000000
set_option maxRecDepth 100000
attribute [local go_sem ↓] Go.wp_at_zero Go.wp_at_succ
variable {w0 : World} {Z : Nat → Prop} {b : Nat} {X : Loc} {E : PP.Env} {σ : PP.St} {bl : List OwnB} {ks : List (Option Addr × List Tree)} {W : World}
end
end Go.Proofs.YtfakdbnfpdalhaaDoor
/- The contract of the parser's task. -/
namespace Go.Proofs.YtfakdbnfpdalhaaDoor
open Go.RowKit Go.Maps
open PP (Tree ArrD TaskD)

theorem task_result {fn : Func} {p : Tmp} (h : fn.results = #[.cell p 70]) {tmps : Array Value} {w : World} {g : Nat} {a0 a1 a2 a3 a4 a5 a6 a7 : Value} (hp : tmps.getD p undef = .pointer (some ⟨g, 0, none⟩)) (hb : Blk w g 70 #[a0, a1, a2, a3, a4, a5, a6, a7]) :
    (results fn tmps).run Tryd.prog w = .ok (.agg #[a0, a1, a2, a3, a4, a5, a6, a7]) w :=
  results_cell_row h tmps w g 70 _ (0, 0) _ hp hb Tryd.underlying70 rfl (by kernel_rfl)
theorem permR {α : Type} (t r : α) (v a l : List α) : (t :: (v ++ (a ++ (r :: l)))).Perm (t :: r :: (v ++ (a ++ l))) := by
  refine List.Perm.cons t ?_
  rw [← List.append_assoc, ← List.append_assoc]
  exact List.perm_middle
/-- What a task's reader leaves. -/
def TaskEnd (w0 : World) (Z : Nat → Prop) (b : Nat) (X : Loc) (E : PP.Env) (σ : PP.St) (bl : List OwnB) (ks : List (Option Addr × List Tree)) (r : Ending) (w' : World) : Prop :=
  ∃ σ' nm per vs ar kids A c vv va bv ba, r = .returned (.agg #[.string ⟨(nm : List UInt8).toArray⟩, .int .i64 per, vv, va, .int .u8 47, .int .i64 0, .string ⟨#[]⟩, .slice A (kids : List Tree).length c]) ∧
    RowV w0.heap.size 9 1 vv (vs : List (List UInt8)).length (strCells vs) bv ∧ RowV w0.heap.size 68 2 va (ar : List ArrD).length (arrCells ar) ba ∧ vs.length ≤ 12 ∧ ar.length ≤ 4 ∧
    Inv w0 Z b X E σ' (bv ++ (ba ++ bl)) ((A, kids) :: ks) w' ∧ (∃ n, PP.taskP E n σ = some (σ', ⟨nm, per, vs, ar, .node 47 0 [] kids⟩)) ∧ σ.next < σ'.next
section
set_option maxHeartbeats 2000000
set_option maxRecDepth 100000
variable {w0 : World} {Z : Nat → Prop} {b : Nat} {X : Loc} {E : PP.Env} {σ : PP.St} {bl : List OwnB} {ks : List (Option Addr × List Tree)} {W : World}
end
end Go.Proofs.YtfakdbnfpdalhaaDoor
/- The contracts of the parser's lists of arrays and of tasks (written by wip/genlist.py). -/
namespace Go.Proofs.YtfakdbnfpdalhaaDoor
open Go.RowKit Go.Maps
open PP (Tree ArrD TaskD)

section
variable {w0 : World} {Z : Nat → Prop} {b : Nat} {X : Loc} {E : PP.Env} {σ : PP.St} {bl : List OwnB} {ks : List (Option Addr × List Tree)} {W : World}
variable {g g1 g2 g3 : Nat} {t t1 t2 t3 : TypeId} {cs c1 c2 c3 : Array Value}
theorem Inv.b3 (h : Inv w0 Z b X E σ ((g1, t1, c1) :: (g2, t2, c2) :: (g3, t3, c3) :: (g, t, cs) :: bl) ks W) : Blk W g t cs := h.blk (x := (g, t, cs)) (by simp)
end
/-- The state in which a list reads its next construct. -/
def sigL (E : PP.Env) (lim j : Nat) (σ : PP.St) : PP.St := if lim < j + 1 then PP.fail σ (PP.here E σ) 5 else σ
theorem sigL_next (E : PP.Env) (lim j : Nat) (σ : PP.St) : (sigL E lim j σ).next = σ.next := by
  unfold sigL PP.fail
  repeat' split
  all_goals rfl
theorem fail5_inv {w0 : World} {Z : Nat → Prop} {b : Nat} {X : Loc} {E : PP.Env} {σ : PP.St} {bl : List OwnB} {ks : List (Option Addr × List Tree)} {W : World} (h : Inv w0 Z b X E σ bl ks W) :
    Calls Tryd.prog 80 #[.pointer (some ⟨b, 0, none⟩), .int .i64 (PP.here E σ : Int), .int .i64 5] W fun r w' => r = .returned (.tuple #[]) ∧ Inv w0 Z b X E (PP.fail σ (PP.here E σ) 5) bl ks w' := fail_inv _ 5 h
theorem Blk.one {w : World} {g : Nat} {t : TypeId} {a : Value} (h : Blk w g t #[a]) : w.cell? ⟨g, 0, none⟩ = some a := h.cell 0
theorem permH {α : Type} (r : α) (v a l : List α) : (v ++ (a ++ (r :: l))).Perm (r :: (v ++ (a ++ l))) := by
  rw [← List.append_assoc, ← List.append_assoc]
  exact List.perm_middle
section
set_option maxHeartbeats 2000000
set_option maxRecDepth 100000
variable {w0 : World} {Z : Nat → Prop} {b : Nat} {X : Loc} {E : PP.Env} {σ : PP.St} {bl : List OwnB} {ks : List (Option Addr × List Tree)} {W : World}
def CloEndA (w0 : World) (Z : Nat → Prop) (b : Nat) (X : Loc) (E : PP.Env) (σ : PP.St) (bl : List OwnB) (ks : List (Option Addr × List Tree)) (r : Ending) (w' : World) : Prop :=
  r = .returned (.agg #[.string ⟨(PP.arrayP E σ).2.name.toArray⟩, .int .i64 (PP.arrayP E σ).2.len]) ∧ Inv w0 Z b X E (PP.arrayP E σ).1 bl ks w'
end
end Go.Proofs.YtfakdbnfpdalhaaDoor
/- The contracts of the parser's sequences and lists of arrays and of tasks (written by wip/genseq.py). -/
namespace Go.Proofs.YtfakdbnfpdalhaaDoor
open Go.RowKit Go.Maps
open PP (Tree ArrD TaskD)

theorem perm4 {α : Type} (v : List α) (x y z u : α) (l : List α) : (v ++ (x :: y :: z :: u :: l)).Perm (x :: y :: z :: u :: (v ++ l)) := List.perm_append_comm_assoc v [x, y, z, u] l
theorem perm6 {α : Type} (v a t x l : List α) (c d e f : α) : (v ++ (a ++ (c :: d :: e :: f :: (t ++ (x ++ l))))).Perm (t ++ ((v ++ (a ++ x)) ++ (c :: d :: e :: f :: l))) := by
  classical
  exact List.perm_iff_count.2 (fun y => by simp only [List.count_append, List.count_cons]; omega)
theorem perm7 {α : Type} (t x l : List α) (c d e f : α) : (t ++ (x ++ (c :: d :: e :: f :: l))).Perm (c :: d :: e :: f :: (t ++ (x ++ l))) := by
  classical
  exact List.perm_iff_count.2 (fun y => by simp only [List.count_append, List.count_cons]; omega)
theorem permL {α : Type} (c o l p : α) (r : List α) : (c :: o :: l :: p :: r).Perm (c :: l :: p :: o :: r) := by
  classical
  exact List.perm_iff_count.2 (fun y => by simp only [List.count_cons]; omega)
/-- An element of a row of tasks. -/
structure TaskEl where
  nm : List UInt8
  per : Int
  vs : List (List UInt8)
  ar : List ArrD
  kids : List Tree
  A : Option Addr
  c : Nat
  vv : Value
  va : Value
  bv : List OwnB
  ba : List OwnB
def TaskEl.cells (x : TaskEl) : List Value := [.string ⟨x.nm.toArray⟩, .int .i64 x.per, x.vv, x.va, .int .u8 47, .int .i64 0, .string ⟨#[]⟩, .slice x.A x.kids.length x.c]
def TaskEl.data (x : TaskEl) : TaskD := ⟨x.nm, x.per, x.vs, x.ar, .node 47 0 [] x.kids⟩
def tasksCells (xs : List TaskEl) : List Value := xs.flatMap TaskEl.cells
structure TaskEl.Ok (x : TaskEl) (base : Nat) (bx : List OwnB) (kx : List (Option Addr × List Tree)) : Prop where
  rv : RowV base 9 1 x.vv x.vs.length (strCells x.vs) x.bv
  ra : RowV base 68 2 x.va x.ar.length (arrCells x.ar) x.ba
  lv : x.vs.length ≤ 12
  la : x.ar.length ≤ 4
  mv : ∀ y ∈ x.bv, y ∈ bx
  ma : ∀ y ∈ x.ba, y ∈ bx
  mx : (x.A, x.kids) ∈ kx
theorem infoTask : (Tryd.prog.info? 70).map (fun i => (i.zero, i.size, i.bytes)) = some (some (.agg #[.string ⟨#[]⟩, .int .i64 0, .slice none 0 0, .slice none 0 0, .int .u8 0, .int .i64 0, .string ⟨#[]⟩, .slice none 0 0]), 8, 128) := by kernel_rfl

section
set_option maxHeartbeats 2000000
set_option maxRecDepth 100000
variable {w0 : World} {Z : Nat → Prop} {b : Nat} {X : Loc} {E : PP.Env} {σ : PP.St} {bl : List OwnB} {ks : List (Option Addr × List Tree)} {W : World}
def ListAEnd (w0 : World) (Z : Nat → Prop) (b : Nat) (X : Loc) (E : PP.Env) (σ : PP.St) (bl : List OwnB) (ks : List (Option Addr × List Tree)) (kw : List UInt8) (lim : Nat) (r : Ending) (w' : World) : Prop :=
  ∃ σ' ar va ba, r = .returned va ∧ RowV w0.heap.size 68 2 va (ar : List ArrD).length (arrCells ar) ba ∧ Inv w0 Z b X E σ' (ba ++ bl) ks w' ∧ ar.length ≤ σ'.next ∧ ∃ n, PP.listP E kw lim (fun _ σ => some (PP.arrayP E σ)) n σ [] = some (σ', ar)
def ListTEnd (w0 : World) (Z : Nat → Prop) (b : Nat) (X : Loc) (E : PP.Env) (σ : PP.St) (bl : List OwnB) (kw : List UInt8) (lim : Nat) (r : Ending) (w' : World) : Prop :=
  ∃ σ' ar va ba bx kx, r = .returned va ∧ RowV w0.heap.size 70 8 va (ar : List TaskEl).length (tasksCells ar) ba ∧ (∀ x ∈ ar, TaskEl.Ok x w0.heap.size bx kx) ∧ Inv w0 Z b X E σ' (ba ++ (bx ++ bl)) kx w' ∧ ar.length ≤ σ'.next ∧ ∃ n, PP.listP E kw lim (PP.taskP E) n σ [] = some (σ', (ar.map TaskEl.data))
end
end Go.Proofs.YtfakdbnfpdalhaaDoor
/- The contracts of word.Operators and of the parser's start. -/
namespace Go.Proofs.YtfakdbnfpdalhaaDoor
open Go.RowKit Go.Maps Go.WideMaps Go.WideElems
open PP (Tree ArrD TaskD)

def opsCells (k : Nat) : List Value := (List.range k).map fun (i : Nat) => Value.int .u8 ((i : Int) + 6)
theorem opsCells_length (k : Nat) : (opsCells k).length = k := by simp [opsCells]
theorem opsCells_succ (k : Nat) : opsCells (k + 1) = opsCells k ++ [.int .u8 ((k : Int) + 6)] := by simp [opsCells, List.range_succ]
theorem opsCells_at (k i : Nat) (h : i < k) : (opsCells k)[i]? = some (.int .u8 ((i : Int) + 6)) := by simp [opsCells, h]
theorem infoByte : (Tryd.prog.info? 5).map (fun i => (i.zero, i.size, i.bytes)) = some (some (.int .u8 0), 1, 1) := by kernel_rfl

section
set_option maxHeartbeats 1000000
set_option maxRecDepth 100000
theorem operators_any (w : World) : Calls Tryd.prog 78 #[] w fun e w' => ∃ v, e = .returned v ∧ w'.ownsRow w.heap.size 5 1 v 18 (opsCells 18) ∧ Below w.heap.size w w' := by
  obtain ⟨i0, hi, hz0, hz1, hz2⟩ := info_parts infoByte
  have HI := Lib.hid hi
  have HZ0 := Lib.hid hz0
  have HZ1 := Lib.hid hz1
  have HZ2 := Lib.hid hz2
  clear hi hz0 hz1 hz2
  go_enter Tryd.func78, Tryd.ntmps78
  go_wp2_with fail
  go_loopw [1, 2] (fun v i wr => ∃ k : Nat, k ≤ 18 ∧ i = .int .u8 ((k : Int) + 6) ∧ wr.ownsRow w.heap.size 5 1 v k (opsCells k) ∧ Below w.heap.size w wr) (fun _ i _ => 24 - (intOf i).toNat)
  case atStart => exact ⟨0, by omega, rfl, World.ownsRow_nil _ _ _ _, Below.refl _ _⟩
  case round =>
    obtain ⟨k, hk, rfl, hown, hbel⟩ := hrel
    have hsz := hbel.size
    by_cases hlt : k < 18
    · have e1 : decide ((k : Int) + 6 ≤ 23) = true := by simp; omega
      go_wp2_with (at_builtin; refine wpList_append_lies _ rfl _ _ 51 rfl w.heap.size 5 i0 (.int .u8 0) 1 1 Tryd.underlying51 HI.out HZ0.out HZ1.out HZ2.out rfl (by decide) _ _ _ rfl (hown.alloc _) ⟨wr.heap.size, 0, none⟩ 1 1 [.int .u8 ((k : Int) + 6)] rfl rfl ?c1 ?c2 (by decide) ?c3 ?c4 ?c5 (wr.heap.size + 1) ?c6 ?_)
      case c1 => exact World.news_of_block (heap_alloc_new wr _)
      case c2 => intro u hu; simp at hu; subst hu; rfl
      case c3 => unfold maxLen; omega
      case c4 => omega
      case c5 => simp; omega
      case c6 => simp
      intro g cap w4 hown4 hg4 hat hlt4
      rw [← opsCells_succ] at hown4
      have hb4 : Below w.heap.size w w4 := Below.grown (hbel.alloc hsz _) hg4 (by simp; omega) (fun k hk => (hown.lt k hk).1)
      have HO := Lib.hid hown4
      clear hown4 hg4 hat hown
      go_wp2_with fail
      go_roundw
      case rel => exact ⟨k + 1, by omega, by go_num, HO.out, hb4⟩
      case measure => simp [intOf]; omega
    · obtain rfl : k = 18 := by omega
      go_wp2_with fail
      go_ret
      exact ⟨_, rfl, hown, hbel⟩
theorem cell_far_grown {w w' : World} {m g : Nat} {t : TypeId} {cs : Array Value} (h : Blk w g t cs) (hg : w.grownBy w' (some m)) (hne : g ≠ m) : Blk w' g t cs := (hg.block g h.lt (by simpa using hne)).trans h
/-- What the parser's start leaves. -/
def StartEnd (s : ByteArray) (w : World) (r : Ending) (w' : World) : Prop :=
  ∃ b X, r = .returned (.pointer (some ⟨b, 0, none⟩)) ∧ Gx w' b X ∧ PS w' b X ⟨(PL.lex s.data.toList).1.filter PL.solidT, s.size⟩ ⟨0, (PL.lex s.data.toList).2.1, (PL.lex s.data.toList).2.2⟩ ∧ Below w.heap.size w w' ∧ w.heap.size ≤ b
theorem OpsIs.below {w w' : World} (h : OpsIs w) (hb : Below w.heap.size w w') : OpsIs w' := by
  obtain ⟨t, fr, hs⟩ := h
  exact ⟨t, fr, (hb.block _ (Array.getElem?_eq_some_iff.1 hs).1).trans hs⟩
theorem OpsIs.lt {w : World} (h : OpsIs w) : 0 < w.heap.size := by
  obtain ⟨t, fr, hs⟩ := h
  exact (Array.getElem?_eq_some_iff.1 hs).1
def StartRel (w : World) (b m : Nat) (cs : Array Value) (A Ao : Option Addr) (co : Nat) (rs : List RT) (i : Value) (wr : World) : Prop :=
  ∃ k : Nat, k ≤ 18 ∧ i = .int .i64 (k : Int) ∧ wr.ownsMap Tryd.prog 9 (plainElem Tryd.prog 5) m k (opsD k) ∧ Blk wr b 107 cs ∧ RToks wr A rs ∧ (rs ≠ [] → ∀ a, A = some a → a.block < m) ∧
    wr.ownsRow (b + 1) 5 1 (.slice Ao 18 co) 18 (opsCells 18) ∧ Below w.heap.size w wr
theorem RToks.grown {w w' : World} {A : Option Addr} {rs : List RT} {m : Nat} (h : RToks w A rs) (hg : w.grownBy w' (some m)) (hm : rs ≠ [] → ∀ a, A = some a → a.block < m) : RToks w' A rs := fun hn => by
  obtain ⟨b, o, rfl, hlt, hc⟩ := h hn
  have hb := hg.block b hlt (by have := hm hn _ rfl; simp only [ne_eq, Option.some.injEq]; intro e; simp only at this; omega)
  refine ⟨b, o, rfl, Nat.lt_of_lt_of_le hlt hg.size, fun i r hi => ?_⟩
  obtain ⟨h0, h1, h2⟩ := hc i r hi
  exact ⟨(World.cell?_of_block (a := ⟨b, o + i * 3, none⟩) hb).trans h0, (World.cell?_of_block (a := ⟨b, o + i * 3 + 1, none⟩) hb).trans h1, (World.cell?_of_block (a := ⟨b, o + i * 3 + 2, none⟩) hb).trans h2⟩
end
section
set_option maxHeartbeats 2000000
set_option maxRecDepth 100000
attribute [local go_sem ↓] Go.wp_at_zero Go.wp_at_succ
theorem start_any (s : ByteArray) (w : World) (hs : s.size ≤ maxLen) (hg : SignsIs w) (hO : OpsIs w) : Calls Tryd.prog 50 #[.string s] w (StartEnd s w) := by
  have hmm := @run_makeMap Tryd.prog
  have hlx := lex_any s w hg hs
  have hsl : s.data.toList.length = s.size := Array.length_toList
  have hcnt : (PL.lex s.data.toList).1.length ≤ 65536 ∧ (∀ t ∈ (PL.lex s.data.toList).1, t.text.length ≤ 65536) := by
    generalize hX : PL.lex s.data.toList = X
    obtain ⟨ts, p, e⟩ := X
    by_cases he : e = 0
    · subst he
      have h1 := (PL.lex_ok hX rfl).1
      have h2 := PL.lex_count hX
      exact ⟨by simp only; omega, fun t ht => by have := PL.tok_len hX t ht; omega⟩
    · by_cases hl : s.data.toList.length ≤ 65536
      · obtain ⟨rfl, _, _⟩ := PL.lex_error hX he hl
        exact ⟨by simp, fun t ht => by simp at ht⟩
      · rw [PL.lex_full (by omega)] at hX
        injection hX with hX _
        subst hX
        exact ⟨by simp, fun t ht => by simp at ht⟩
  unfold LexEnd at hlx
  unfold maxLen at hs
  generalize hX : PL.lex s.data.toList = X at *
  obtain ⟨ts, p, er⟩ := X
  have HX := Lib.hid hX
  obtain ⟨hc1, hc2⟩ := hcnt
  have HC1 := Lib.hid hc1
  have HC2 := Lib.hid hc2
  have HLX := Lib.hid hlx
  have HG := Lib.hid hg
  have HO := Lib.hid hO
  clear hX hlx hc1 hc2 hg hO hsl
  simp only [] at HLX HC1 HC2
  go_enter Tryd.func50, Tryd.ntmps50
  go_wp2_with fail
  refine HLX.out.mono ?_
  rintro e w1 ⟨v1, rfl, ho1, hb1⟩
  obtain ⟨A1, c1, rfl, hr1⟩ := own_rt ho1
  have HSO := Lib.hid (solid_toks A1 ts.length c1 ts w1 rfl hr1 HC1.out)
  clear ho1 hr1 HLX
  go_wp2_with fail
  refine HSO.out.mono ?_
  rintro e w2 ⟨A2, c2, rfl, hr2, hb2⟩
  have hB2 := hb1.trans (hb2.mono hb1.size)
  have HR2 := Lib.hid hr2
  have HB2 := Lib.hid hB2
  clear hr2 hb1 hb2 hB2 HSO
  go_wp2_with fail
  have hws := HB2.out.size
  refine (operators_any _).mono ?_
  rintro e w4 ⟨v4, rfl, ho4, hb4⟩
  obtain ⟨Ao, co, rfl⟩ := own_form ho4
  have hsz4 : ((w2.alloc (.map #[] 0)).alloc (.cells #[.slice A2 (List.filter PL.solidT ts).length c2, .int .i64 0, .int .i64 (s.size : Int), .map (some w2.heap.size), .int .i64 (p : Int), .int .i64 (er : Int)] 107)).heap.size = w2.heap.size + 1 + 1 := by simp
  rw [hsz4] at ho4 hb4
  have hmap : w4.ownsMap Tryd.prog 9 (plainElem Tryd.prog 5) w2.heap.size 0 (opsD 0) :=
    ((World.ownsMap_made w2 _ _ _).alloc _).kept (row := none) (grown_of_below (hsz4 ▸ hb4) none) (by simp)
  have hblk : Blk w4 (w2.heap.size + 1) 107 #[.slice A2 (List.filter PL.solidT ts).length c2, .int .i64 0, .int .i64 (s.size : Int), .map (some w2.heap.size), .int .i64 (p : Int), .int .i64 (er : Int)] :=
    (hb4.block _ (by omega)).trans (by have := Blk.new (w2.alloc (.map #[] 0)) 107 #[.slice A2 (List.filter PL.solidT ts).length c2, .int .i64 0, .int .i64 (s.size : Int), .map (some w2.heap.size), .int .i64 (p : Int), .int .i64 (er : Int)]; simpa [Blk] using this)
  have hbb : Below w2.heap.size w2 w4 := (((Below.refl w2.heap.size w2).alloc (Nat.le_refl _) _).alloc (by simp) _).trans (hb4.mono (by omega))
  have hrt : RToks w4 A2 ((List.filter PL.solidT ts).map rtOf) := HR2.out.below hbb
  have hrlt : (List.filter PL.solidT ts).map rtOf ≠ [] → ∀ a, A2 = some a → a.block < w2.heap.size := by
    intro hn a ha
    obtain ⟨b, o, h1, h2, _⟩ := HR2.out hn
    rw [h1] at ha
    injection ha with ha
    subst ha; exact h2
  have hB4 : Below w.heap.size w w4 := HB2.out.trans (hbb.mono hws)
  have HREL := Lib.hid (show StartRel w (w2.heap.size + 1) w2.heap.size _ A2 Ao co _ (.int .i64 0) w4 from ⟨0, by omega, rfl, hmap, hblk, hrt, hrlt, ho4, hB4⟩)
  generalize w2.heap.size = m at *
  clear hmap hblk hbb hrt hrlt hB4 ho4 hb4 hsz4 HR2 HB2
  go_wp2_with fail
  go_loopw [26] (fun i wr => StartRel w (m + 1) m #[.slice A2 (List.filter PL.solidT ts).length c2, .int .i64 0, .int .i64 (s.size : Int), .map (some m), .int .i64 (p : Int), .int .i64 (er : Int)] A2 Ao co ((List.filter PL.solidT ts).map rtOf) i wr) (fun i _ => 18 - (intOf i).toNat)
  case atStart => exact HREL.out
  case round =>
    obtain ⟨k, hk, rfl, hmap, hblk, hrt, hrlt, hown, hbel⟩ := hrel
    have HMAP := Lib.hid hmap
    have HBLK := Lib.hid hblk
    have HRT := Lib.hid hrt
    have HRLT := Lib.hid hrlt
    have HOWN := Lib.hid hown
    have HBEL := Lib.hid hbel
    by_cases hlt : k < 18
    · obtain ⟨g, cap, hv, hg1, hg2, hg3, hcc⟩ := own_cells hown (by omega)
      have hck := hcc k _ (opsCells_at 18 k hlt)
      injection hv with hv1 hv2 hv3
      subst hv1 hv3
      have c3 : wr.cell? ⟨m + 1, 3, none⟩ = some (.map (some m)) := hblk.cell 3
      have hsy := fun (W : World) (hW : OpsIs W) => (show Calls Tryd.prog 58 #[.int .u8 ((k : Int) + 6)] W fun e w' => e = .returned (.string ⟨(PP.symbol (k + 6)).toArray⟩) ∧ W = w' from symbol_any (k + 6) W hW (by omega))
      have HSY := Lib.hid (hsy wr (HO.out.below hbel))
      have HSYd := Lib.hid (hsy wr.drew (HO.out.below (below_drewN hbel 1)))
      have hkl : (PP.symbol (k + 6)).length ≤ 2 := by
        have : ∀ i, i < 18 → (PP.symbol (i + 6)).length ≤ 2 := by decide
        exact this k hlt
      have hkey : keyOf Tryd.prog 9 (.string ⟨(PP.symbol (k + 6)).toArray⟩) = some (.string (PP.symbol (k + 6))) := keyOf_string_mk Tryd.underlying9 (by show (PP.symbol (k + 6)).toArray.size ≤ _; rw [List.size_toArray]; unfold maxLen; omega)
      have hval : plainElem (H := Unit) Tryd.prog 5 (.int .u8 ((k : Int) + 6)) = some (.lit (.int .u8 ((k : Int) + 6)), []) := plainElem_int Tryd.underlying5 (WalkArith.wf_u8 ⟨by omega, by omega⟩)
      have HKEY := Lib.hid hkey
      have HVAL := Lib.hid hval
      have p1 : (0 : Int) ≤ (k : Int) := by omega
      have p2 : (k : Int) < 18 := by omega
      clear hmap hblk hrt hrlt hown hbel hcc hsy hkey hval hkl
      go_wp2_with fail
      obtain ⟨w7, hrun7, hm7, hg7⟩ := (HMAP.out.drew).update (Maps.string_keyed Tryd.underlying9) Tryd.underlying105 (by unfold maxLen; omega) HKEY.out HVAL.out
      have HM7 := Lib.hid hm7
      have HG7 := Lib.hid hg7
      clear hm7 hg7
      go_region_law (first | (go_simp; go_at_call 58; (first | (with_reducible refine HSY.out.mono ?_) | (with_reducible refine HSYd.out.mono ?_)); rintro e w5 ⟨rfl, rfl⟩))
      all_goals
        have hm7 := HM7.out
        have hg7 := HG7.out
        have hg7' : wr.grownBy w7 (some m) := ⟨hg7.os, hg7.tape, hg7.output, hg7.size, hg7.block⟩
        have hm7' : w7.ownsMap Tryd.prog 9 (plainElem Tryd.prog 5) m (k + 1) (opsD (k + 1)) := hm7
        have hB := HBLK.out
        have hbl7 : Below w.heap.size w w7 := Below.grown HBEL.out hg7' HBEL.out.size (fun j hj => by injection hj with hj; omega)
        have HREL7 := Lib.hid (show StartRel w (m + 1) m _ A2 (some ⟨g, 0, none⟩) co _ (.int .i64 ((k : Int) + 1)) w7 from ⟨k + 1, by omega, by go_num, hm7', cell_far_grown hB hg7' (by omega), HRT.out.grown hg7' HRLT.out, HRLT.out, HOWN.out.kept hg7' (by right; intro e; have := (HOWN.out.lt _ e).1; omega), hbl7⟩)
        clear hm7 hm7' hg7 hg7' hB hbl7 hck c3
        go_wp2_with fail
        go_roundw
        case rel => first | exact HREL7.out | ((repeat apply Exists.intro); exact ⟨HREL7.out, rfl⟩)
        case measure => simp [intOf]; omega
    · obtain rfl : k = 18 := by omega
      clear hmap hblk hrt hrlt hown hbel
      go_wp2_with fail
      go_ret
      have hw := HBEL.out.size
      refine ⟨m + 1, ⟨A2, c2, m⟩, rfl, ⟨⟨HG.out.below HBEL.out HG.out.pos, by have := HG.out.pos; omega⟩, HO.out.below HBEL.out, by have := HO.out.lt; omega, HMAP.out, by show m ≠ m + 1; omega⟩, ?_, HBEL.out, by omega⟩
      rw [HX.out]
      refine ⟨HBLK.out, fun i t hi => ?_, ?_, fun t ht => HC2.out t (List.mem_filter.1 ht).1, Nat.zero_le _⟩
      · have hi' : (List.map rtOf (List.filter PL.solidT ts))[i]? = some (rtOf t) := by rw [List.getElem?_map]; simp only at hi; rw [hi]; rfl
        have hne : List.map rtOf (List.filter PL.solidT ts) ≠ [] := by intro e; rw [e] at hi'; simp at hi'
        obtain ⟨g, o, hA, hlt', hc⟩ := HRT.out hne
        obtain ⟨x0, x1, x2⟩ := hc i _ hi'
        have := HRLT.out hne _ hA
        exact ⟨g, o, hA, by simp only at this; omega, hlt', x0, x1, x2⟩
      · have := List.length_filter_le PL.solidT ts
        have := HC1.out
        simp only; omega
end
end Go.Proofs.YtfakdbnfpdalhaaDoor
