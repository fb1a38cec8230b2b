/- Merged from ParK, ParL, ParM, ParN, ParO, Meas, ParP, ParQ (wip/pack.py). -/
import Derived.Test.YtkeehpgnljieeaaDoorKC
import Derived.Test.YtkeehpgnljieeaaDoorKA
import Derived.LoopTactic
/- The contract of the parser's transfer (NOT FINISHED). -/
namespace Go.Proofs.YtkeehpgnljieeaaDoor
open Go.RowKit Go.Maps
open PP (Tree)

section
set_option maxHeartbeats 1000000
set_option maxRecDepth 100000
attribute [local go_sem ↓] Go.wp_at_zero Go.wp_at_succ
variable {b : Nat} {X : Loc} {E : PP.Env} {σ : PP.St}
end
end Go.Proofs.YtkeehpgnljieeaaDoor
/- The contract of the parser's sequence of nodes. -/
namespace Go.Proofs.YtkeehpgnljieeaaDoor
open Go.RowKit Go.Maps
open PP (Tree)

/-- An element of a row of nodes. -/
structure NodeE where
  k : Nat
  num : Int
  nm : List UInt8
  A : Option Addr
  c : Nat
  kids : List Tree
def NodeE.cells (x : NodeE) : List Value := [.int .u8 (x.k : Int), .int .i64 x.num, .string ⟨x.nm.toArray⟩, .slice x.A x.kids.length x.c]
def NodeE.tree (x : NodeE) : Tree := .node x.k x.num x.nm x.kids
def nodesCells (xs : List NodeE) : List Value := xs.flatMap NodeE.cells
theorem nodesCells_length (xs : List NodeE) : (nodesCells xs).length = xs.length * 4 := by
  induction xs with
  | nil => rfl
  | cons t xs ih => simp [nodesCells, NodeE.cells] at *; omega
theorem nodesCells_snoc (xs : List NodeE) (x : NodeE) : nodesCells (xs ++ [x]) = nodesCells xs ++ x.cells := by simp [nodesCells]
theorem nodesCells_at : ∀ {xs : List NodeE} {i : Nat} {x : NodeE} (_ : xs[i]? = some x), (nodesCells xs)[i * 4]? = some (.int .u8 (x.k : Int)) ∧ (nodesCells xs)[i * 4 + 1]? = some (.int .i64 x.num) ∧ (nodesCells xs)[i * 4 + 2]? = some (.string ⟨x.nm.toArray⟩) ∧ (nodesCells xs)[i * 4 + 3]? = some (.slice x.A x.kids.length x.c)
  | [], i, x, h => by simp at h
  | y :: ys, 0, x, h => by
    simp at h; subst h
    exact ⟨rfl, rfl, rfl, rfl⟩
  | y :: ys, i + 1, x, h => by
    have := nodesCells_at (xs := ys) (i := i) (x := x) (by simpa using h)
    have e : nodesCells (y :: ys) = y.cells ++ nodesCells ys := by simp [nodesCells]
    have hl : y.cells.length = 4 := rfl
    rw [e]
    refine ⟨?_, ?_, ?_, ?_⟩
    · rw [List.getElem?_append_right (by omega), show (i + 1) * 4 - y.cells.length = i * 4 from by omega]; exact this.1
    · rw [List.getElem?_append_right (by omega), show (i + 1) * 4 + 1 - y.cells.length = i * 4 + 1 from by omega]; exact this.2.1
    · rw [List.getElem?_append_right (by omega), show (i + 1) * 4 + 2 - y.cells.length = i * 4 + 2 from by omega]; exact this.2.2.1
    · rw [List.getElem?_append_right (by omega), show (i + 1) * 4 + 3 - y.cells.length = i * 4 + 3 from by omega]; exact this.2.2.2
def NodeE.zero : NodeE := ⟨0, 0, [], none, 0, []⟩
/-- A row of nodes whose trees are known is the row of those trees. -/
theorem kids_of_row {W : World} {base : Nat} {Z : Nat → Prop} {v : Value} {els : List NodeE} (h : W.ownsRow base 24 4 v els.length (nodesCells els)) (hk : ∀ x ∈ els, KidsC W Z x.A x.kids) (hz : ∀ g, v.ownBlock = some g → Z g) :
    ∃ A c, v = .slice A (els.map NodeE.tree).length c ∧ KidsC W Z A (els.map NodeE.tree) := by
  rw [List.length_map]
  by_cases hn : 0 < els.length
  · obtain ⟨g, cap, rfl, _, hg, _, hc⟩ := own_cells h hn
    refine ⟨_, _, rfl, .mk _ _ g 0 (fun i => (els.getD i .zero).k) (fun i => (els.getD i .zero).num) (fun i => (els.getD i .zero).nm) (fun i => (els.getD i .zero).A) (fun i => (els.getD i .zero).c) (fun i => (els.getD i .zero).kids) (fun _ => ⟨rfl, hz g rfl, hg⟩) (fun i hi => ?_) (fun i hi => ?_) (fun i hi => ?_)⟩
    all_goals
      rw [List.length_map] at hi
      have he : els[i]? = some (els.getD i .zero) := by rw [List.getD_eq_getElem?_getD, List.getElem?_eq_getElem hi]; rfl
    · rw [List.getElem?_map, he]; rfl
    · obtain ⟨c0, c1, c2, c3⟩ := nodesCells_at he
      rw [show 0 + i * 4 = i * 4 from by omega]
      exact ⟨hc _ _ c0, hc _ _ c1, hc _ _ c2, hc _ _ c3⟩
    · exact hk _ (List.mem_of_getElem? he)
  · obtain ⟨A, c, rfl⟩ := own_form h
    have : els = [] := by cases els with
      | nil => rfl
      | cons a l => simp at hn
    subst this
    exact ⟨A, c, rfl, KidsC.nil _ _ _⟩

theorem own_fr {b : Nat} {w wd w3 : World} {base : Nat} {e : TypeId} {size : Nat} {v : Value} {n : Nat} {xs : List Value} (h : w.ownsRow base e size v n xs) (k : Fr b wd w3) (he : wd.heap = w.heap) (hb : b < base) : w3.ownsRow base e size v n xs := by
  refine ⟨h.1, ?_⟩
  rcases h.2 with hn | ⟨g, cap, cur, rfl, hb', hgg, rest⟩
  · exact .inl hn
  · refine .inr ⟨g, cap, cur, rfl, hb', ?_, rest⟩
    have hlt := (Array.getElem?_eq_some_iff.1 hgg).1
    rw [k.block g (by rw [he]; exact hlt) (by intro e; injection e with e; omega), he]
    exact hgg
theorem Fr.grow {b : Nat} {w W W' : World} {row : Option Nat} (h : Fr b w W) (k : W.grownBy W' row) (hr : ∀ g, row = some g → w.heap.size ≤ g) : Fr b w W' :=
  ⟨k.os.trans h.os, k.tape.trans h.tape, k.output.trans h.output, Nat.le_trans h.size k.size, fun i hi hn => (k.block i (Nat.lt_of_lt_of_le hi h.size) (fun e => by have := hr i e.symm; omega)).trans (h.block i hi hn)⟩
def errOf (w : World) (b : Nat) : Nat := match w.cell? ⟨b, 5, none⟩ with
  | some v => (intOf v).toNat
  | none => 0
/-- How much a loop over constructs has still to read. -/
def leftOf (E : PP.Env) (b : Nat) (w : World) : Nat := if errOf w b = 0 then E.ts.length - nextOf w b else 0
def cntOk (σ : PP.St) (n : Nat) : Prop := n ≤ σ.next + if σ.err = 0 then 0 else 1

theorem infoNode : (Tryd.prog.info? 24).map (fun i => (i.zero, i.size, i.bytes)) = some (some (.agg #[.int .u8 0, .int .i64 0, .string ⟨#[]⟩, .slice none 0 0]), 4, 56) := by kernel_rfl
section
set_option maxHeartbeats 1000000
set_option maxRecDepth 100000
attribute [local go_sem ↓] Go.wp_at_zero Go.wp_at_succ
variable {b : Nat} {X : Loc} {E : PP.Env} {σ : PP.St}
end
end Go.Proofs.YtkeehpgnljieeaaDoor
/- The contracts of the parser's statements and block, from that of its statement. -/
namespace Go.Proofs.YtkeehpgnljieeaaDoor
open Go.RowKit Go.Maps
open PP (Tree)

section
set_option maxHeartbeats 1000000
set_option maxRecDepth 100000
variable {b : Nat} {X : Loc} {E : PP.Env} {σ : PP.St}
end
end Go.Proofs.YtkeehpgnljieeaaDoor
/- The contract of the parser's choice, from that of its statement. -/
namespace Go.Proofs.YtkeehpgnljieeaaDoor
open Go.RowKit Go.Maps
open PP (Tree)

def pick3 {α : Type} (i : Nat) (x y z : α) : α := if i = 0 then x else if i = 1 then y else z
/-- A new slice of three nodes. -/
theorem kids_three {w : World} {Z : Nat → Prop} (hz : Z w.heap.size) {k : Nat} {num : Int} {nm : List UInt8} {A : Option Addr} {c : Nat} {kids : List Tree} (h : KidsC w Z A kids)
    {k' : Nat} {num' : Int} {nm' : List UInt8} {A' : Option Addr} {c' : Nat} {kids' : List Tree} (h' : KidsC w Z A' kids')
    {k2 : Nat} {num2 : Int} {nm2 : List UInt8} {A2 : Option Addr} {c2 : Nat} {kids2 : List Tree} (h2 : KidsC w Z A2 kids2) (ty : TypeId) :
    KidsC (w.alloc (.cells #[.int .u8 (k : Int), .int .i64 num, .string ⟨nm.toArray⟩, .slice A kids.length c, .int .u8 (k' : Int), .int .i64 num', .string ⟨nm'.toArray⟩, .slice A' kids'.length c', .int .u8 (k2 : Int), .int .i64 num2, .string ⟨nm2.toArray⟩, .slice A2 kids2.length c2] ty)) Z (some ⟨w.heap.size, 0, none⟩) [.node k num nm kids, .node k' num' nm' kids', .node k2 num2 nm2 kids2] := by
  have hf := (Keep.refl Z w).alloc (.cells #[.int .u8 (k : Int), .int .i64 num, .string ⟨nm.toArray⟩, .slice A kids.length c, .int .u8 (k' : Int), .int .i64 num', .string ⟨nm'.toArray⟩, .slice A' kids'.length c', .int .u8 (k2 : Int), .int .i64 num2, .string ⟨nm2.toArray⟩, .slice A2 kids2.length c2] ty)
  have hc := fun j => cell_of_row (w.alloc (.cells #[.int .u8 (k : Int), .int .i64 num, .string ⟨nm.toArray⟩, .slice A kids.length c, .int .u8 (k' : Int), .int .i64 num', .string ⟨nm'.toArray⟩, .slice A' kids'.length c', .int .u8 (k2 : Int), .int .i64 num2, .string ⟨nm2.toArray⟩, .slice A2 kids2.length c2] ty)) w.heap.size j #[.int .u8 (k : Int), .int .i64 num, .string ⟨nm.toArray⟩, .slice A kids.length c, .int .u8 (k' : Int), .int .i64 num', .string ⟨nm'.toArray⟩, .slice A' kids'.length c', .int .u8 (k2 : Int), .int .i64 num2, .string ⟨nm2.toArray⟩, .slice A2 kids2.length c2] ty (0, 0) (heap_alloc_new w _)
  refine .mk _ _ w.heap.size 0 (fun i => pick3 i k k' k2) (fun i => pick3 i num num' num2) (fun i => pick3 i nm nm' nm2) (fun i => pick3 i A A' A2) (fun i => pick3 i c c' c2) (fun i => pick3 i kids kids' kids2) (fun _ => ⟨rfl, hz, by simp⟩) (fun i hi => ?_) (fun i hi => ?_) (fun i hi => ?_)
  · rcases (show i = 0 ∨ i = 1 ∨ i = 2 from by simp at hi; omega) with rfl | rfl | rfl <;> rfl
  · rcases (show i = 0 ∨ i = 1 ∨ i = 2 from by simp at hi; omega) with rfl | rfl | rfl
    · exact ⟨hc 0, hc 1, hc 2, hc 3⟩
    · exact ⟨hc 4, hc 5, hc 6, hc 7⟩
    · exact ⟨hc 8, hc 9, hc 10, hc 11⟩
  · rcases (show i = 0 ∨ i = 1 ∨ i = 2 from by simp at hi; omega) with rfl | rfl | rfl
    · exact h.keep hf
    · exact h'.keep hf
    · exact h2.keep hf
section
set_option maxHeartbeats 1000000
set_option maxRecDepth 100000
attribute [local go_sem ↓] Go.wp_at_zero Go.wp_at_succ
variable {b : Nat} {X : Loc} {E : PP.Env} {σ : PP.St}
end
end Go.Proofs.YtkeehpgnljieeaaDoor
/- The seven ways through the parser's statement, and the statements tied (written by wip/genstmt.py). -/
namespace Go.Proofs.YtkeehpgnljieeaaDoor
open Go.RowKit Go.Maps
open PP (Tree)

section
variable {w0 : World} {Z : Nat → Prop} {b : Nat} {X : Loc} {E : PP.Env} {σ : PP.St} {bl : List OwnB} {ks : List (Option Addr × List Tree)} {W : World}
end

section
set_option maxHeartbeats 1000000
set_option maxRecDepth 100000
attribute [local go_sem ↓] Go.wp_at_zero Go.wp_at_succ
variable {b : Nat} {X : Loc} {E : PP.Env} {σ : PP.St}
end

section
variable {b : Nat} {X : Loc} {E : PP.Env}
end
end Go.Proofs.YtkeehpgnljieeaaDoor
/- The contracts of a tree's measures (written by wip/genmeas.py). -/
namespace Go.Proofs.YtkeehpgnljieeaaDoor
open Go.RowKit Go.Maps
open PP (Tree)

namespace PP
theorem sizeL_snoc (l : List Tree) (t : Tree) : sizeL (l ++ [t]) = sizeL l + t.size := by
  induction l with
  | nil => simp [sizeL]
  | cons a l ih => simp only [List.cons_append, sizeL, ih]; omega
theorem depthL_snoc (l : List Tree) (t : Tree) : depthL (l ++ [t]) = max (depthL l) t.depth := by
  induction l with
  | nil => simp [depthL]
  | cons a l ih => simp only [List.cons_append, depthL, ih]; omega
theorem nestL_snoc (l : List Tree) (t : Tree) : nestL (l ++ [t]) = max (nestL l) t.nest := by
  induction l with
  | nil => simp [nestL]
  | cons a l ih => simp only [List.cons_append, nestL, ih]; omega
theorem size_pos (t : Tree) : 1 ≤ t.size := by cases t; simp only [Tree.size]; omega
theorem len_sizeL (l : List Tree) : l.length ≤ sizeL l := by
  induction l with
  | nil => simp
  | cons a l ih => have := size_pos a; simp only [List.length_cons, sizeL]; omega
mutual
theorem depth_size : ∀ t : Tree, t.depth ≤ t.size
  | .node k num nm ks => by have := depthL_size ks; simp only [Tree.depth, Tree.size]; omega
theorem depthL_size : ∀ l : List Tree, depthL l ≤ sizeL l
  | [] => by simp [depthL]
  | t :: ts => by have := depth_size t; have := depthL_size ts; simp only [depthL, sizeL]; omega
end
mutual
theorem nest_size : ∀ t : Tree, t.nest ≤ t.size
  | .node k num nm ks => by have := nestL_size ks; simp only [Tree.nest, Tree.size]; split <;> omega
theorem nestL_size : ∀ l : List Tree, nestL l ≤ sizeL l
  | [] => by simp [nestL]
  | t :: ts => by have := nest_size t; have := nestL_size ts; simp only [nestL, sizeL]; omega
end
theorem sizeL_take (l : List Tree) (j : Nat) : sizeL (l.take j) ≤ sizeL l := by
  induction l generalizing j with
  | nil => simp
  | cons a l ih => cases j with
    | zero => simp [sizeL]
    | succ j => have := ih j; simp only [List.take_succ_cons, sizeL]; omega
theorem size_mem {l : List Tree} {t : Tree} (h : t ∈ l) : t.size ≤ sizeL l := by
  induction l with
  | nil => simp at h
  | cons a l ih => rcases List.mem_cons.1 h with rfl | h
                   · simp only [sizeL]; omega
                   · have := ih h; simp only [sizeL]; omega
end PP
theorem take_at {α : Type} {l : List α} {j : Nat} {x : α} (h : l[j]? = some x) : l.take (j + 1) = l.take j ++ [x] := by
  obtain ⟨hlt, rfl⟩ := List.getElem?_eq_some_iff.1 h
  exact List.take_succ_eq_append_getElem hlt

section
set_option maxHeartbeats 1000000
set_option maxRecDepth 100000
def DepthRel (kids : List Tree) (w0 : World) (d i : Value) (wr : World) : Prop := ∃ j : Nat, j ≤ kids.length ∧ i = .int .i64 (j : Int) ∧ d = .int .i64 ((PP.depthL (kids.take j) : Nat) : Int) ∧ Below w0.heap.size w0 wr
def SizeRel (kids : List Tree) (w0 : World) (d i : Value) (wr : World) : Prop := ∃ j : Nat, j ≤ kids.length ∧ i = .int .i64 (j : Int) ∧ d = .int .i64 ((1 + PP.sizeL (kids.take j) : Nat) : Int) ∧ Below w0.heap.size w0 wr
def NestRel (kids : List Tree) (w0 : World) (d i : Value) (wr : World) : Prop := ∃ j : Nat, j ≤ kids.length ∧ i = .int .i64 (j : Int) ∧ d = .int .i64 ((PP.nestL (kids.take j) : Nat) : Int) ∧ Below w0.heap.size w0 wr
end
end Go.Proofs.YtkeehpgnljieeaaDoor
/- The contracts of the parser's limit, array, variable and begins. -/
namespace Go.Proofs.YtkeehpgnljieeaaDoor
open Go.RowKit Go.Maps
open PP (Tree)

section
set_option maxHeartbeats 1000000
set_option maxRecDepth 100000
variable {w0 : World} {Z : Nat → Prop} {b : Nat} {X : Loc} {E : PP.Env} {σ : PP.St} {bl : List OwnB} {ks : List (Option Addr × List Tree)} {W : World}
end
end Go.Proofs.YtkeehpgnljieeaaDoor
/- The contracts of the parser's array and variable; rows of known blocks. -/
namespace Go.Proofs.YtkeehpgnljieeaaDoor
open Go.RowKit Go.Maps
open PP (Tree)

section
variable {w0 : World} {Z : Nat → Prop} {b : Nat} {X : Loc} {E : PP.Env} {σ : PP.St} {bl bl' : List OwnB} {ks : List (Option Addr × List Tree)} {W : World}
end
/-- A slice that owns a row, and the block of that row, which is known whole. -/
def RowV (base : Nat) (e : TypeId) (size : Nat) (v : Value) (n : Nat) (xs : List Value) (bs : List OwnB) : Prop :=
  xs.length = n * size ∧ ((v = .slice none 0 0 ∧ n = 0 ∧ bs = []) ∨ ∃ g cap cur, v = .slice (some ⟨g, 0, none⟩) n cap ∧ base ≤ g ∧ n ≤ cap ∧ cap ≤ maxLen ∧ cur.size = cap * size ∧ cur.toList.take (n * size) = xs ∧ bs = [(g, e, cur)])
theorem RowV.nil (base : Nat) (e : TypeId) (size : Nat) : RowV base e size (.slice none 0 0) 0 [] [] := ⟨by simp, .inl ⟨rfl, rfl, rfl⟩⟩
section
variable {base : Nat} {e : TypeId} {size : Nat} {v : Value} {n : Nat} {xs : List Value} {bs : List OwnB}
theorem RowV.own (h : RowV base e size v n xs bs) {W : World} (hb : ∀ x ∈ bs, Blk W x.1 x.2.1 x.2.2) : W.ownsRow base e size v n xs := by
  refine ⟨h.1, ?_⟩
  rcases h.2 with ⟨rfl, rfl, _⟩ | ⟨g, cap, cur, rfl, h1, h2, h3, h4, h5, rfl⟩
  · exact .inl ⟨rfl, rfl⟩
  · exact .inr ⟨g, cap, cur, rfl, h1, hb (g, e, cur) (by simp), h2, h3, h4, h5⟩
theorem RowV.form (h : RowV base e size v n xs bs) : ∃ A c, v = .slice A n c := by
  rcases h.2 with ⟨rfl, rfl, _⟩ | ⟨g, cap, cur, rfl, _⟩ <;> exact ⟨_, _, rfl⟩
theorem RowV.blk (h : RowV base e size v n xs bs) {x : OwnB} (hx : x ∈ bs) : v.ownBlock = some x.1 := by
  rcases h.2 with ⟨rfl, rfl, rfl⟩ | ⟨g, cap, cur, rfl, _, _, _, _, _, rfl⟩
  · simp at hx
  · simp only [List.mem_cons, List.not_mem_nil, or_false] at hx; subst hx; rfl
end
theorem row_of_own {W : World} {base : Nat} {e : TypeId} {size : Nat} {v : Value} {n : Nat} {xs : List Value} (h : W.ownsRow base e size v n xs) : ∃ bs, RowV base e size v n xs bs ∧ (∀ x ∈ bs, Blk W x.1 x.2.1 x.2.2 ∧ base ≤ x.1) ∧ (bs.map (·.1)).Nodup := by
  rcases h.2 with ⟨rfl, rfl⟩ | ⟨g, cap, cur, rfl, h1, h2, h3, h4, h5, h6⟩
  · exact ⟨[], ⟨h.1, .inl ⟨rfl, rfl, rfl⟩⟩, fun x hx => by simp at hx, by simp⟩
  · refine ⟨[(g, e, cur)], ⟨h.1, .inr ⟨g, cap, cur, rfl, h1, h3, h4, h5, h6, rfl⟩⟩, fun x hx => ?_, by simp⟩
    simp only [List.mem_cons, List.not_mem_nil, or_false] at hx; subst hx
    exact ⟨h2, h1⟩
section
set_option maxHeartbeats 1000000
set_option maxRecDepth 100000
variable {w0 : World} {Z : Nat → Prop} {b : Nat} {X : Loc} {E : PP.Env} {σ : PP.St} {bl : List OwnB} {ks : List (Option Addr × List Tree)} {W : World}
end
end Go.Proofs.YtkeehpgnljieeaaDoor
