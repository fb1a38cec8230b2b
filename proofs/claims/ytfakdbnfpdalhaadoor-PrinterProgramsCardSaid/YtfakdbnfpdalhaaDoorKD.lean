/- Merged from ParK, ParL, ParM, ParN, ParO, Meas, ParP, ParQ (wip/pack.py). -/
import Derived.Test.YtfakdbnfpdalhaaDoorKC
import Derived.Test.YtfakdbnfpdalhaaDoorKA
import Derived.LoopTactic
/- The contract of the parser's transfer (NOT FINISHED). -/
namespace Go.Proofs.YtfakdbnfpdalhaaDoor
open Go.RowKit Go.Maps
open PP (Tree)

section
set_option maxHeartbeats 1000000
set_option maxRecDepth 100000
attribute [local go_sem ↓] Go.wp_at_zero Go.wp_at_succ
variable {b : Nat} {X : Loc} {E : PP.Env} {σ : PP.St}
end
end Go.Proofs.YtfakdbnfpdalhaaDoor
/- The contract of the parser's sequence of nodes. -/
namespace Go.Proofs.YtfakdbnfpdalhaaDoor
open Go.RowKit Go.Maps
open PP (Tree)

/-- An element of a row of nodes. -/
structure NodeE where
  k : Nat
  num : Int
  nm : List UInt8
  A : Option Addr
  c : Nat
  kids : List Tree
def NodeE.cells (x : NodeE) : List Value := [.int .u8 (x.k : Int), .int .i64 x.num, .string ⟨x.nm.toArray⟩, .slice x.A x.kids.length x.c]
def NodeE.tree (x : NodeE) : Tree := .node x.k x.num x.nm x.kids
def nodesCells (xs : List NodeE) : List Value := xs.flatMap NodeE.cells
theorem nodesCells_length (xs : List NodeE) : (nodesCells xs).length = xs.length * 4 := by
  induction xs with
  | nil => rfl
  | cons t xs ih => simp [nodesCells, NodeE.cells] at *; omega
theorem nodesCells_snoc (xs : List NodeE) (x : NodeE) : nodesCells (xs ++ [x]) = nodesCells xs ++ x.cells := by simp [nodesCells]
theorem nodesCells_at : ∀ {xs : List NodeE} {i : Nat} {x : NodeE} (_ : xs[i]? = some x), (nodesCells xs)[i * 4]? = some (.int .u8 (x.k : Int)) ∧ (nodesCells xs)[i * 4 + 1]? = some (.int .i64 x.num) ∧ (nodesCells xs)[i * 4 + 2]? = some (.string ⟨x.nm.toArray⟩) ∧ (nodesCells xs)[i * 4 + 3]? = some (.slice x.A x.kids.length x.c)
  | [], i, x, h => by simp at h
  | y :: ys, 0, x, h => by
    simp at h; subst h
    exact ⟨rfl, rfl, rfl, rfl⟩
  | y :: ys, i + 1, x, h => by
    have := nodesCells_at (xs := ys) (i := i) (x := x) (by simpa using h)
    have e : nodesCells (y :: ys) = y.cells ++ nodesCells ys := by simp [nodesCells]
    have hl : y.cells.length = 4 := rfl
    rw [e]
    refine ⟨?_, ?_, ?_, ?_⟩
    · rw [List.getElem?_append_right (by omega), show (i + 1) * 4 - y.cells.length = i * 4 from by omega]; exact this.1
    · rw [List.getElem?_append_right (by omega), show (i + 1) * 4 + 1 - y.cells.length = i * 4 + 1 from by omega]; exact this.2.1
    · rw [List.getElem?_append_right (by omega), show (i + 1) * 4 + 2 - y.cells.length = i * 4 + 2 from by omega]; exact this.2.2.1
    · rw [List.getElem?_append_right (by omega), show (i + 1) * 4 + 3 - y.cells.length = i * 4 + 3 from by omega]; exact this.2.2.2
def NodeE.zero : NodeE := ⟨0, 0, [], none, 0, []⟩
/-- A row of nodes whose trees are known is the row of those trees. -/
theorem kids_of_row {W : World} {base : Nat} {Z : Nat → Prop} {v : Value} {els : List NodeE} (h : W.ownsRow base 24 4 v els.length (nodesCells els)) (hk : ∀ x ∈ els, KidsC W Z x.A x.kids) (hz : ∀ g, v.ownBlock = some g → Z g) :
    ∃ A c, v = .slice A (els.map NodeE.tree).length c ∧ KidsC W Z A (els.map NodeE.tree) := by
  rw [List.length_map]
  by_cases hn : 0 < els.length
  · obtain ⟨g, cap, rfl, _, hg, _, hc⟩ := own_cells h hn
    refine ⟨_, _, rfl, .mk _ _ g 0 (fun i => (els.getD i .zero).k) (fun i => (els.getD i .zero).num) (fun i => (els.getD i .zero).nm) (fun i => (els.getD i .zero).A) (fun i => (els.getD i .zero).c) (fun i => (els.getD i .zero).kids) (fun _ => ⟨rfl, hz g rfl, hg⟩) (fun i hi => ?_) (fun i hi => ?_) (fun i hi => ?_)⟩
    all_goals
      rw [List.length_map] at hi
      have he : els[i]? = some (els.getD i .zero) := by rw [List.getD_eq_getElem?_getD, List.getElem?_eq_getElem hi]; rfl
    · rw [List.getElem?_map, he]; rfl
    · obtain ⟨c0, c1, c2, c3⟩ := nodesCells_at he
      rw [show 0 + i * 4 = i * 4 from by omega]
      exact ⟨hc _ _ c0, hc _ _ c1, hc _ _ c2, hc _ _ c3⟩
    · exact hk _ (List.mem_of_getElem? he)
  · obtain ⟨A, c, rfl⟩ := own_form h
    have : els = [] := by cases els with
      | nil => rfl
      | cons a l => simp at hn
    subst this
    exact ⟨A, c, rfl, KidsC.nil _ _ _⟩

theorem own_fr {b : Nat} {w wd w3 : World} {base : Nat} {e : TypeId} {size : Nat} {v : Value} {n : Nat} {xs : List Value} (h : w.ownsRow base e size v n xs) (k : Fr b wd w3) (he : wd.heap = w.heap) (hb : b < base) : w3.ownsRow base e size v n xs := by
  refine ⟨h.1, ?_⟩
  rcases h.2 with hn | ⟨g, cap, cur, rfl, hb', hgg, rest⟩
  · exact .inl hn
  · refine .inr ⟨g, cap, cur, rfl, hb', ?_, rest⟩
    have hlt := (Array.getElem?_eq_some_iff.1 hgg).1
    rw [k.block g (by rw [he]; exact hlt) (by intro e; injection e with e; omega), he]
    exact hgg
theorem Fr.grow {b : Nat} {w W W' : World} {row : Option Nat} (h : Fr b w W) (k : W.grownBy W' row) (hr : ∀ g, row = some g → w.heap.size ≤ g) : Fr b w W' :=
  ⟨k.os.trans h.os, k.tape.trans h.tape, k.output.trans h.output, Nat.le_trans h.size k.size, fun i hi hn => (k.block i (Nat.lt_of_lt_of_le hi h.size) (fun e => by have := hr i e.symm; omega)).trans (h.block i hi hn)⟩
def errOf (w : World) (b : Nat) : Nat := match w.cell? ⟨b, 5, none⟩ with
  | some v => (intOf v).toNat
  | none => 0
theorem errOf_ps {w : World} {b : Nat} {X : Loc} {E : PP.Env} {σ : PP.St} (h : PS w b X E σ) : errOf w b = σ.err := by
  unfold errOf
  rw [h.cells.2.2.2.2.2]
  simp [intOf]
/-- How much a loop over constructs has still to read. -/
def leftOf (E : PP.Env) (b : Nat) (w : World) : Nat := if errOf w b = 0 then E.ts.length - nextOf w b else 0
theorem leftOf_ps {w : World} {b : Nat} {X : Loc} {E : PP.Env} {σ : PP.St} (h : PS w b X E σ) : leftOf E b w = if σ.err = 0 then E.ts.length - σ.next else 0 := by
  unfold leftOf
  rw [errOf_ps h, nextOf_ps h]
def cntOk (σ : PP.St) (n : Nat) : Prop := n ≤ σ.next + if σ.err = 0 then 0 else 1

def SeqRel (b : Nat) (X : Loc) (E : PP.Env) (σ : PP.St) (top : Bool) (w : World) (v : Value) (wr : World) : Prop :=
  ∃ σ' els, PS wr b X E σ' ∧ Fr b w wr ∧ σ.next ≤ σ'.next ∧ cntOk σ' (els : List NodeE).length ∧ wr.ownsRow w.heap.size 24 4 v els.length (nodesCells els) ∧
    (∀ x ∈ els, KidsC wr (fun g => w.heap.size ≤ g ∧ v.ownBlock ≠ some g) x.A x.kids) ∧ ∀ n r, PP.stmts E n top σ' (els.map NodeE.tree) = some r → ∃ n', PP.stmts E n' top σ [] = some r
def SeqEnd (b : Nat) (X : Loc) (E : PP.Env) (σ : PP.St) (top : Bool) (w : World) (r : Ending) (w' : World) : Prop :=
  ∃ A c ts σ', r = .returned (.slice A (ts : List Tree).length c) ∧ KidsC w' (w.heap.size ≤ ·) A ts ∧ PS w' b X E σ' ∧ Fr b w w' ∧ (∃ n, PP.stmts E n top σ [] = some (σ', ts)) ∧ σ.next ≤ σ'.next
theorem infoNode : (Tryd.prog.info? 24).map (fun i => (i.zero, i.size, i.bytes)) = some (some (.agg #[.int .u8 0, .int .i64 0, .string ⟨#[]⟩, .slice none 0 0]), 4, 56) := by kernel_rfl
theorem seq_step {b : Nat} {X : Loc} {E : PP.Env} {σ σ' σ3 : PP.St} {top : Bool} {w wr wd w3 w4 : World} {v v4 : Value} {els : List NodeE} {x : NodeE} {o : Obj} {g m3 : Nat}
    (h0 : PS w b X E σ) (hF : Fr b w wr) (hn : σ.next ≤ σ'.next) (hc : cntOk σ' els.length) (hown : wr.ownsRow w.heap.size 24 4 v els.length (nodesCells els))
    (hk : ∀ x ∈ els, KidsC wr (fun g => w.heap.size ≤ g ∧ v.ownBlock ≠ some g) x.A x.kids) (hgo : ∀ n r, PP.stmts E n top σ' (els.map NodeE.tree) = some r → ∃ n', PP.stmts E n' top σ [] = some r)
    (hgs : PP.goes E top σ' = true) (hFd : Fr b wr wd) (hf3 : Fr b wd w3) (h3 : PS w3 b X E σ3) (hk3 : KidsC w3 (wd.heap.size ≤ ·) x.A x.kids) (hr3 : PP.statement E m3 σ' = some (σ3, x.tree))
    (hown4 : w4.ownsRow w.heap.size 24 4 v4 (els.length + 1) (nodesCells els ++ x.cells)) (hg4 : (w3.alloc o).grownBy w4 v.ownBlock) (hat : v.ownBlock = some g ∨ g = w3.heap.size + 1) (hv4 : v4.ownBlock = some g) :
    (PS w4 b X E σ3 ∧ (σ3.err ≠ 0 ∨ σ'.next < σ3.next) ∧ σ'.err = 0 ∧ σ'.next < E.ts.length) ∧ SeqRel b X E σ top w v4 w4 := by
  have hbl := h0.lt
  obtain ⟨hle, hadv⟩ := (PP.stmt_le E m3).2.2.2 _ _ hr3
  have hmore : σ'.err = 0 ∧ σ'.next < E.ts.length := by
    unfold PP.goes at hgs
    simp only [Bool.and_eq_true] at hgs
    exact PP.more_err E hgs.1
  have hvr : ∀ k, v.ownBlock = some k → w.heap.size ≤ k ∧ k < wr.heap.size := fun k hk => hown.lt k hk
  have hs1 : wr.heap.size ≤ wd.heap.size := hFd.size
  have hs2 := hf3.size
  have hF3 : Fr b w w3 := (hF.trans hFd).trans hf3
  have hFa := hF3.alloc o
  have hF4 : Fr b w w4 := hFa.grow hg4 (fun k hk => (hvr k hk).1)
  have hblk : w4.heap[b]? = (w3.alloc o).heap[b]? := hg4.block b (by have := h3.lt; simp; omega) (fun e => by have := (hvr b e.symm).1; omega)
  have hp4 : PS w4 b X E σ3 := h0.fr hF4 (hblk.trans (h3.alloc o).blk) h3.next
  refine ⟨⟨hp4, hadv, hmore⟩, σ3, els ++ [x], hp4, hF4, Nat.le_trans hn hle.1, ?_, ?_, ?_, ?_⟩
  · unfold cntOk at hc ⊢
    rw [if_pos hmore.1] at hc
    have h1 := hle.1
    simp only [List.length_append, List.length_cons, List.length_nil] at h1 ⊢
    rcases hadv with h2 | h2
    · rw [if_neg h2]; omega
    · split
      · simp only at h2; omega
      · omega
  · rw [nodesCells_snoc, List.length_append]; exact hown4
  · have kp : ∀ Z : Nat → Prop, (∀ k, Z k → v.ownBlock ≠ some k) → Keep Z (w3.alloc o) w4 := fun Z hz => ⟨hg4.size, fun k hk hlt => hg4.block k hlt (fun e => hz k hk e.symm)⟩
    intro y hy
    rcases List.mem_append.1 hy with hy | hy
    · have h1 := (hk y hy).weak (Z' := fun k => w.heap.size ≤ k ∧ v.ownBlock ≠ some k ∧ k ≠ g) (fun k hk hlt => ⟨hk.1, hk.2, by
        rintro rfl
        rcases hat with h | h
        · exact hk.2 h
        · omega⟩)
      have h2 := h1.keep (((Keep.refl _ _).fr hFd (by intro hz; have := hz.1; omega)).fr hf3 (by intro hz; have := hz.1; omega))
      have h3 := h2.keep (((Keep.refl _ _).alloc o).trans (kp _ (fun k hk => hk.2.1)))
      refine h3.weak (fun k hk _ => ⟨hk.1, ?_⟩)
      rw [hv4]; intro e; injection e with e; exact hk.2.2 e.symm
    · simp only [List.mem_cons, List.not_mem_nil, or_false] at hy
      subst hy
      have h1 := hk3.weak (Z' := fun k => w.heap.size ≤ k ∧ v.ownBlock ≠ some k ∧ k ≠ g) (fun k hk hlt => by
        have hk' : wd.heap.size ≤ k := hk
        refine ⟨by have := hF.size; omega, fun e => ?_, ?_⟩
        · have := (hvr k e).2; omega
        · rintro rfl
          rcases hat with h | h
          · have := (hvr k h).2; omega
          · omega)
      have h3 := h1.keep (((Keep.refl _ _).alloc o).trans (kp _ (fun k hk => hk.2.1)))
      refine h3.weak (fun k hk _ => ⟨hk.1, ?_⟩)
      rw [hv4]; intro e; injection e with e; exact hk.2.2 e.symm
  · intro n r hr
    rw [List.map_append] at hr
    refine hgo (max m3 n + 1) r ?_
    rw [PP.stmts, hgs, PP.statement_le E (Nat.le_max_left m3 n) hr3]
    exact PP.stmts_le E (Nat.le_max_right m3 n) hr

section
set_option maxHeartbeats 1000000
set_option maxRecDepth 100000
attribute [local go_sem ↓] Go.wp_at_zero Go.wp_at_succ
variable {b : Nat} {X : Loc} {E : PP.Env} {σ : PP.St}
end
end Go.Proofs.YtfakdbnfpdalhaaDoor
/- The contracts of the parser's statements and block, from that of its statement. -/
namespace Go.Proofs.YtfakdbnfpdalhaaDoor
open Go.RowKit Go.Maps
open PP (Tree)

section
set_option maxHeartbeats 1000000
set_option maxRecDepth 100000
variable {b : Nat} {X : Loc} {E : PP.Env} {σ : PP.St}
end
end Go.Proofs.YtfakdbnfpdalhaaDoor
/- The contract of the parser's choice, from that of its statement. -/
namespace Go.Proofs.YtfakdbnfpdalhaaDoor
open Go.RowKit Go.Maps
open PP (Tree)

/-- A call that hands a tree back, over the bundle. -/
theorem tree_inv {w0 : World} {Z : Nat → Prop} {b : Nat} {X : Loc} {E : PP.Env} {σ : PP.St} {bl : List OwnB} {ks : List (Option Addr × List Tree)} {W : World} {f : FuncId} {args : Array Value} {R : PP.St → Tree → Prop}
    (h : Inv w0 Z b X E σ bl ks W) (hc : Calls Tryd.prog f args W (TreeEnd b X E σ W R)) :
    Calls Tryd.prog f args W fun r w' => ∃ k num nm A c kids σ', r = .returned (.agg #[.int .u8 ((k : Nat) : Int), .int .i64 num, .string ⟨(nm : List UInt8).toArray⟩, .slice A (kids : List Tree).length c]) ∧ Inv w0 Z b X E σ' bl ((A, kids) :: ks) w' ∧ R σ' (.node k num nm kids) ∧ σ.next ≤ σ'.next :=
  hc.mono fun r w' ⟨v, t, σ', hr, ⟨k, num, nm, A, c, kids, hv, ht, hk⟩, hp, hf, hR, hn⟩ => ⟨k, num, nm, A, c, kids, σ', by rw [hr, hv], h.tree hp hf hk, ht ▸ hR, hn⟩
def pick3 {α : Type} (i : Nat) (x y z : α) : α := if i = 0 then x else if i = 1 then y else z
/-- A new slice of three nodes. -/
theorem kids_three {w : World} {Z : Nat → Prop} (hz : Z w.heap.size) {k : Nat} {num : Int} {nm : List UInt8} {A : Option Addr} {c : Nat} {kids : List Tree} (h : KidsC w Z A kids)
    {k' : Nat} {num' : Int} {nm' : List UInt8} {A' : Option Addr} {c' : Nat} {kids' : List Tree} (h' : KidsC w Z A' kids')
    {k2 : Nat} {num2 : Int} {nm2 : List UInt8} {A2 : Option Addr} {c2 : Nat} {kids2 : List Tree} (h2 : KidsC w Z A2 kids2) (ty : TypeId) :
    KidsC (w.alloc (.cells #[.int .u8 (k : Int), .int .i64 num, .string ⟨nm.toArray⟩, .slice A kids.length c, .int .u8 (k' : Int), .int .i64 num', .string ⟨nm'.toArray⟩, .slice A' kids'.length c', .int .u8 (k2 : Int), .int .i64 num2, .string ⟨nm2.toArray⟩, .slice A2 kids2.length c2] ty)) Z (some ⟨w.heap.size, 0, none⟩) [.node k num nm kids, .node k' num' nm' kids', .node k2 num2 nm2 kids2] := by
  have hf := (Keep.refl Z w).alloc (.cells #[.int .u8 (k : Int), .int .i64 num, .string ⟨nm.toArray⟩, .slice A kids.length c, .int .u8 (k' : Int), .int .i64 num', .string ⟨nm'.toArray⟩, .slice A' kids'.length c', .int .u8 (k2 : Int), .int .i64 num2, .string ⟨nm2.toArray⟩, .slice A2 kids2.length c2] ty)
  have hc := fun j => cell_of_row (w.alloc (.cells #[.int .u8 (k : Int), .int .i64 num, .string ⟨nm.toArray⟩, .slice A kids.length c, .int .u8 (k' : Int), .int .i64 num', .string ⟨nm'.toArray⟩, .slice A' kids'.length c', .int .u8 (k2 : Int), .int .i64 num2, .string ⟨nm2.toArray⟩, .slice A2 kids2.length c2] ty)) w.heap.size j #[.int .u8 (k : Int), .int .i64 num, .string ⟨nm.toArray⟩, .slice A kids.length c, .int .u8 (k' : Int), .int .i64 num', .string ⟨nm'.toArray⟩, .slice A' kids'.length c', .int .u8 (k2 : Int), .int .i64 num2, .string ⟨nm2.toArray⟩, .slice A2 kids2.length c2] ty (0, 0) (heap_alloc_new w _)
  refine .mk _ _ w.heap.size 0 (fun i => pick3 i k k' k2) (fun i => pick3 i num num' num2) (fun i => pick3 i nm nm' nm2) (fun i => pick3 i A A' A2) (fun i => pick3 i c c' c2) (fun i => pick3 i kids kids' kids2) (fun _ => ⟨rfl, hz, by simp⟩) (fun i hi => ?_) (fun i hi => ?_) (fun i hi => ?_)
  · rcases (show i = 0 ∨ i = 1 ∨ i = 2 from by simp at hi; omega) with rfl | rfl | rfl <;> rfl
  · rcases (show i = 0 ∨ i = 1 ∨ i = 2 from by simp at hi; omega) with rfl | rfl | rfl
    · exact ⟨hc 0, hc 1, hc 2, hc 3⟩
    · exact ⟨hc 4, hc 5, hc 6, hc 7⟩
    · exact ⟨hc 8, hc 9, hc 10, hc 11⟩
  · rcases (show i = 0 ∨ i = 1 ∨ i = 2 from by simp at hi; omega) with rfl | rfl | rfl
    · exact h.keep hf
    · exact h'.keep hf
    · exact h2.keep hf
theorem Inv.kids3 {w0 W : World} {Z : Nat → Prop} {b : Nat} {X : Loc} {E : PP.Env} {σ : PP.St} {bl : List OwnB} {ks : List (Option Addr × List Tree)} (h : Inv w0 Z b X E σ bl ks W) {k : Nat} {num : Int} {nm : List UInt8} {A : Option Addr} {c : Nat} {kids : List Tree} (hm : (A, kids) ∈ ks)
    {k' : Nat} {num' : Int} {nm' : List UInt8} {A' : Option Addr} {c' : Nat} {kids' : List Tree} (hm' : (A', kids') ∈ ks)
    {k2 : Nat} {num2 : Int} {nm2 : List UInt8} {A2 : Option Addr} {c2 : Nat} {kids2 : List Tree} (hm2 : (A2, kids2) ∈ ks) {n : Nat} (hn : W.heap.size = n) :
    Inv w0 Z b X E σ bl ((some ⟨n, 0, none⟩, [.node k num nm kids, .node k' num' nm' kids', .node k2 num2 nm2 kids2]) :: ks) (W.alloc (.cells #[.int .u8 (k : Int), .int .i64 num, .string ⟨nm.toArray⟩, .slice A kids.length c, .int .u8 (k' : Int), .int .i64 num', .string ⟨nm'.toArray⟩, .slice A' kids'.length c', .int .u8 (k2 : Int), .int .i64 num2, .string ⟨nm2.toArray⟩, .slice A2 kids2.length c2] 24)) := by
  subst hn
  exact (h.more _).addKs (kids_three h.fresh (h.ks _ hm) (h.ks _ hm') (h.ks _ hm2) _)

section
set_option maxHeartbeats 1000000
set_option maxRecDepth 100000
attribute [local go_sem ↓] Go.wp_at_zero Go.wp_at_succ
variable {b : Nat} {X : Loc} {E : PP.Env} {σ : PP.St}
end
end Go.Proofs.YtfakdbnfpdalhaaDoor
/- The seven ways through the parser's statement, and the statements tied (written by wip/genstmt.py). -/
namespace Go.Proofs.YtfakdbnfpdalhaaDoor
open Go.RowKit Go.Maps
open PP (Tree)

section
variable {w0 : World} {Z : Nat → Prop} {b : Nat} {X : Loc} {E : PP.Env} {σ : PP.St} {bl : List OwnB} {ks : List (Option Addr × List Tree)} {W : World}
theorem sees_b (s : ByteArray) {t : Bool} (ht : PP.sees E σ s.data.toList = t) (h : Inv w0 Z b X E σ bl ks W) :
    Calls Tryd.prog 102 #[.pointer (some ⟨b, 0, none⟩), .string s] W fun r w' => r = .returned (.bool t) ∧ Inv w0 Z b X E σ bl ks w' :=
  (sees_any s W h.ps).mono fun r w' ⟨h1, n, h2⟩ => ⟨by rw [h1, ht], by subst h2; exact h.drewN n⟩
end

section
set_option maxHeartbeats 1000000
set_option maxRecDepth 100000
attribute [local go_sem ↓] Go.wp_at_zero Go.wp_at_succ
variable {b : Nat} {X : Loc} {E : PP.Env} {σ : PP.St}
end

section
variable {b : Nat} {X : Loc} {E : PP.Env}
end
end Go.Proofs.YtfakdbnfpdalhaaDoor
/- The contracts of a tree's measures (written by wip/genmeas.py). -/
namespace Go.Proofs.YtfakdbnfpdalhaaDoor
open Go.RowKit Go.Maps
open PP (Tree)

namespace PP
theorem sizeL_snoc (l : List Tree) (t : Tree) : sizeL (l ++ [t]) = sizeL l + t.size := by
  induction l with
  | nil => simp [sizeL]
  | cons a l ih => simp only [List.cons_append, sizeL, ih]; omega
theorem depthL_snoc (l : List Tree) (t : Tree) : depthL (l ++ [t]) = max (depthL l) t.depth := by
  induction l with
  | nil => simp [depthL]
  | cons a l ih => simp only [List.cons_append, depthL, ih]; omega
theorem nestL_snoc (l : List Tree) (t : Tree) : nestL (l ++ [t]) = max (nestL l) t.nest := by
  induction l with
  | nil => simp [nestL]
  | cons a l ih => simp only [List.cons_append, nestL, ih]; omega
theorem size_pos (t : Tree) : 1 ≤ t.size := by cases t; simp only [Tree.size]; omega
theorem len_sizeL (l : List Tree) : l.length ≤ sizeL l := by
  induction l with
  | nil => simp
  | cons a l ih => have := size_pos a; simp only [List.length_cons, sizeL]; omega
mutual
theorem depth_size : ∀ t : Tree, t.depth ≤ t.size
  | .node k num nm ks => by have := depthL_size ks; simp only [Tree.depth, Tree.size]; omega
theorem depthL_size : ∀ l : List Tree, depthL l ≤ sizeL l
  | [] => by simp [depthL]
  | t :: ts => by have := depth_size t; have := depthL_size ts; simp only [depthL, sizeL]; omega
end
mutual
theorem nest_size : ∀ t : Tree, t.nest ≤ t.size
  | .node k num nm ks => by have := nestL_size ks; simp only [Tree.nest, Tree.size]; split <;> omega
theorem nestL_size : ∀ l : List Tree, nestL l ≤ sizeL l
  | [] => by simp [nestL]
  | t :: ts => by have := nest_size t; have := nestL_size ts; simp only [nestL, sizeL]; omega
end
theorem sizeL_take (l : List Tree) (j : Nat) : sizeL (l.take j) ≤ sizeL l := by
  induction l generalizing j with
  | nil => simp
  | cons a l ih => cases j with
    | zero => simp [sizeL]
    | succ j => have := ih j; simp only [List.take_succ_cons, sizeL]; omega
theorem size_mem {l : List Tree} {t : Tree} (h : t ∈ l) : t.size ≤ sizeL l := by
  induction l with
  | nil => simp at h
  | cons a l ih => rcases List.mem_cons.1 h with rfl | h
                   · simp only [sizeL]; omega
                   · have := ih h; simp only [sizeL]; omega
end PP
theorem take_at {α : Type} {l : List α} {j : Nat} {x : α} (h : l[j]? = some x) : l.take (j + 1) = l.take j ++ [x] := by
  obtain ⟨hlt, rfl⟩ := List.getElem?_eq_some_iff.1 h
  exact List.take_succ_eq_append_getElem hlt

section
set_option maxHeartbeats 1000000
set_option maxRecDepth 100000
def DepthRel (kids : List Tree) (w0 : World) (d i : Value) (wr : World) : Prop := ∃ j : Nat, j ≤ kids.length ∧ i = .int .i64 (j : Int) ∧ d = .int .i64 ((PP.depthL (kids.take j) : Nat) : Int) ∧ Below w0.heap.size w0 wr
theorem depth_kids {w : World} {Z : Nat → Prop} {A : Option Addr} {kids : List Tree} (h : KidsC w Z A kids) : ∀ W, Keep Z w W → ∀ (k : Nat) (num : Int) (nm : List UInt8) (c : Nat), PP.sizeL kids ≤ 1000000 →
    Calls Tryd.prog 47 #[.agg #[.int .u8 (k : Int), .int .i64 num, .string ⟨nm.toArray⟩, .slice A kids.length c]] W fun e w' => e = .returned (.int .i64 ((Tree.node k num nm kids).depth : Int)) ∧ Below W.heap.size W w' := by
  induction h with
  | mk A kids g o K N S AA C KS hA hk hc hh ih =>
    intro W hkeep k num nm c hsz
    have hlen := PP.len_sizeL kids
    have HIH := Lib.hid ih
    have HKP := Lib.hid hkeep
    have HHK := Lib.hid hk
    have HHC := Lib.hid hc
    have HHA := Lib.hid hA
    clear ih hkeep hk hc hh hA
    generalize hM : ((Tree.node k num nm kids).depth : Int) = M
    have HM := Lib.hid hM
    clear hM
    generalize hw0 : W.alloc (.cells #[.int .u8 (k : Int), .int .i64 num, .string ⟨nm.toArray⟩, .slice A kids.length c] 24) = w0
    have hb0 : Below W.heap.size W w0 := by rw [← hw0]; exact (Below.refl _ _).alloc (Nat.le_refl _) _
    have hB : Blk w0 W.heap.size 24 #[.int .u8 (k : Int), .int .i64 num, .string ⟨nm.toArray⟩, .slice A kids.length c] := by rw [← hw0]; exact Blk.new _ _ _
    have HW0 := Lib.hid hw0
    clear hw0
    go_enter Tryd.func47, Tryd.ntmps47
    go_wp2_with fail
    rw [HW0.out]
    go_loopw [3, 9] (fun d i wr => DepthRel kids w0 d i wr) (fun _ i _ => kids.length - (intOf i).toNat)
    case atStart => exact ⟨0, Nat.zero_le _, rfl, by simp [PP.depthL], Below.refl _ _⟩
    case round =>
      obtain ⟨j, hj, rfl, rfl, hbr⟩ := hrel
      have hBr : Blk wr W.heap.size 24 #[.int .u8 (k : Int), .int .i64 num, .string ⟨nm.toArray⟩, .slice A kids.length c] := (hbr.block _ hB.lt).trans hB
      have hzt := PP.sizeL_take kids j
      have hmt : PP.depthL (kids.take j) ≤ PP.sizeL (kids.take j) := PP.depthL_size _
      by_cases hlt : j < kids.length
      · have hA' := HHA.out (by intro e; rw [e] at hlt; simp at hlt)
        obtain ⟨hA1, hA2, hA3⟩ := hA'
        obtain ⟨c0, c1, c2, c3⟩ := HHC.out j hlt
        have hkj := HHK.out j hlt
        have hkp : Keep Z w wr := HKP.out.trans ⟨Nat.le_trans hb0.size hbr.size, fun g _ hg => (hbr.block g (Nat.lt_of_lt_of_le hg hb0.size)).trans (hb0.block g hg)⟩
        have hbg := hkp.2 g hA2 hA3
        have d0 := (World.cell?_of_block (a := ⟨g, o + j * 4, none⟩) hbg).trans c0
        have d1 := (World.cell?_of_block (a := ⟨g, o + j * 4 + 1, none⟩) hbg).trans c1
        have d2 := (World.cell?_of_block (a := ⟨g, o + j * 4 + 2, none⟩) hbg).trans c2
        have d3 := (World.cell?_of_block (a := ⟨g, o + j * 4 + 3, none⟩) hbg).trans c3
        have hjs := PP.size_mem (List.mem_of_getElem? hkj)
        have hks : PP.sizeL (KS j) ≤ 1000000 := by simp only [PP.Tree.size] at hjs; omega
        have hcall := HIH.out j hlt (wr.alloc (.cells #[.int .u8 (K j : Int), .int .i64 (N j), .string ⟨(S j).toArray⟩, .slice (AA j) (KS j).length (C j)] 24)) (hkp.alloc _) (K j) (N j) (S j) (C j) hks
        have hdm : (Tree.node (K j) (N j) (S j) (KS j)).depth ≤ 1000001 := by have := PP.depth_size (Tree.node (K j) (N j) (S j) (KS j)); simp only [PP.Tree.size] at hjs this; omega
        have hst : PP.depthL (kids.take (j + 1)) = max (PP.depthL (kids.take j)) (Tree.node (K j) (N j) (S j) (KS j)).depth := by rw [take_at hkj, PP.depthL_snoc]
        generalize (Tree.node (K j) (N j) (S j) (KS j)).depth = D at *
        have HST := Lib.hid hst
        have HC := Lib.hid hcall
        subst hA1
        have p1 : (0 : Int) ≤ (j : Int) := by omega
        have p2 : (j : Int) < (kids.length : Int) := by omega
        clear hcall hst hkp hbg c0 c1 c2 c3 hkj hks hjs hA2 hA3
        generalize PP.depthL (kids.take j) = T at *
        go_wp2_with fail
        refine HC.out.mono ?_
        rintro e w2 ⟨rfl, hb2⟩
        have hb3 : Below w0.heap.size w0 w2 := hbr.trans ((((Below.refl wr.heap.size wr).alloc (Nat.le_refl _) _).trans (hb2.mono (by simp))).mono hbr.size)
        clear hb2 d0 d1 d2 d3
        go_wp2_with fail
        go_roundw
        case rel => exact ⟨j + 1, by omega, by go_num, by rw [HST.out]; go_num, hb3⟩
        case measure => simp [intOf]; omega
      · have hj' : j = kids.length := by omega
        subst hj'
        rw [List.take_length] at *
        generalize hTT : PP.depthL kids = T at *
        have HTT := Lib.hid hTT
        clear hTT
        go_wp2_with fail
        go_ret
        refine ⟨?_, hb0.trans (hbr.mono hb0.size)⟩
        rw [← HM.out]; simp only [PP.Tree.depth, HTT.out]; rfl

def SizeRel (kids : List Tree) (w0 : World) (d i : Value) (wr : World) : Prop := ∃ j : Nat, j ≤ kids.length ∧ i = .int .i64 (j : Int) ∧ d = .int .i64 ((1 + PP.sizeL (kids.take j) : Nat) : Int) ∧ Below w0.heap.size w0 wr
theorem size_kids {w : World} {Z : Nat → Prop} {A : Option Addr} {kids : List Tree} (h : KidsC w Z A kids) : ∀ W, Keep Z w W → ∀ (k : Nat) (num : Int) (nm : List UInt8) (c : Nat), PP.sizeL kids ≤ 1000000 →
    Calls Tryd.prog 48 #[.agg #[.int .u8 (k : Int), .int .i64 num, .string ⟨nm.toArray⟩, .slice A kids.length c]] W fun e w' => e = .returned (.int .i64 ((Tree.node k num nm kids).size : Int)) ∧ Below W.heap.size W w' := by
  induction h with
  | mk A kids g o K N S AA C KS hA hk hc hh ih =>
    intro W hkeep k num nm c hsz
    have hlen := PP.len_sizeL kids
    have HIH := Lib.hid ih
    have HKP := Lib.hid hkeep
    have HHK := Lib.hid hk
    have HHC := Lib.hid hc
    have HHA := Lib.hid hA
    clear ih hkeep hk hc hh hA
    generalize hM : ((Tree.node k num nm kids).size : Int) = M
    have HM := Lib.hid hM
    clear hM
    generalize hw0 : W.alloc (.cells #[.int .u8 (k : Int), .int .i64 num, .string ⟨nm.toArray⟩, .slice A kids.length c] 24) = w0
    have hb0 : Below W.heap.size W w0 := by rw [← hw0]; exact (Below.refl _ _).alloc (Nat.le_refl _) _
    have hB : Blk w0 W.heap.size 24 #[.int .u8 (k : Int), .int .i64 num, .string ⟨nm.toArray⟩, .slice A kids.length c] := by rw [← hw0]; exact Blk.new _ _ _
    have HW0 := Lib.hid hw0
    clear hw0
    go_enter Tryd.func48, Tryd.ntmps48
    go_wp2_with fail
    rw [HW0.out]
    go_loopw [3, 9] (fun d i wr => SizeRel kids w0 d i wr) (fun _ i _ => kids.length - (intOf i).toNat)
    case atStart => exact ⟨0, Nat.zero_le _, rfl, by simp [PP.sizeL], Below.refl _ _⟩
    case round =>
      obtain ⟨j, hj, rfl, rfl, hbr⟩ := hrel
      have hBr : Blk wr W.heap.size 24 #[.int .u8 (k : Int), .int .i64 num, .string ⟨nm.toArray⟩, .slice A kids.length c] := (hbr.block _ hB.lt).trans hB
      have hzt := PP.sizeL_take kids j
      have hmt : PP.sizeL (kids.take j) ≤ PP.sizeL (kids.take j) := Nat.le_refl _
      by_cases hlt : j < kids.length
      · have hA' := HHA.out (by intro e; rw [e] at hlt; simp at hlt)
        obtain ⟨hA1, hA2, hA3⟩ := hA'
        obtain ⟨c0, c1, c2, c3⟩ := HHC.out j hlt
        have hkj := HHK.out j hlt
        have hkp : Keep Z w wr := HKP.out.trans ⟨Nat.le_trans hb0.size hbr.size, fun g _ hg => (hbr.block g (Nat.lt_of_lt_of_le hg hb0.size)).trans (hb0.block g hg)⟩
        have hbg := hkp.2 g hA2 hA3
        have d0 := (World.cell?_of_block (a := ⟨g, o + j * 4, none⟩) hbg).trans c0
        have d1 := (World.cell?_of_block (a := ⟨g, o + j * 4 + 1, none⟩) hbg).trans c1
        have d2 := (World.cell?_of_block (a := ⟨g, o + j * 4 + 2, none⟩) hbg).trans c2
        have d3 := (World.cell?_of_block (a := ⟨g, o + j * 4 + 3, none⟩) hbg).trans c3
        have hjs := PP.size_mem (List.mem_of_getElem? hkj)
        have hks : PP.sizeL (KS j) ≤ 1000000 := by simp only [PP.Tree.size] at hjs; omega
        have hcall := HIH.out j hlt (wr.alloc (.cells #[.int .u8 (K j : Int), .int .i64 (N j), .string ⟨(S j).toArray⟩, .slice (AA j) (KS j).length (C j)] 24)) (hkp.alloc _) (K j) (N j) (S j) (C j) hks
        have hdm : (Tree.node (K j) (N j) (S j) (KS j)).size ≤ 1000001 := by simp only [PP.Tree.size] at hjs ⊢; omega
        have hst : PP.sizeL (kids.take (j + 1)) = PP.sizeL (kids.take j) + (Tree.node (K j) (N j) (S j) (KS j)).size := by rw [take_at hkj, PP.sizeL_snoc]
        generalize (Tree.node (K j) (N j) (S j) (KS j)).size = D at *
        have HST := Lib.hid hst
        have HC := Lib.hid hcall
        subst hA1
        have p1 : (0 : Int) ≤ (j : Int) := by omega
        have p2 : (j : Int) < (kids.length : Int) := by omega
        clear hcall hst hkp hbg c0 c1 c2 c3 hkj hks hjs hA2 hA3
        generalize PP.sizeL (kids.take j) = T at *
        go_wp2_with fail
        refine HC.out.mono ?_
        rintro e w2 ⟨rfl, hb2⟩
        have hb3 : Below w0.heap.size w0 w2 := hbr.trans ((((Below.refl wr.heap.size wr).alloc (Nat.le_refl _) _).trans (hb2.mono (by simp))).mono hbr.size)
        clear hb2 d0 d1 d2 d3
        go_wp2_with fail
        go_roundw
        case rel => exact ⟨j + 1, by omega, by go_num, by rw [HST.out]; go_num, hb3⟩
        case measure => simp [intOf]; omega
      · have hj' : j = kids.length := by omega
        subst hj'
        rw [List.take_length] at *
        generalize hTT : PP.sizeL kids = T at *
        have HTT := Lib.hid hTT
        clear hTT
        go_wp2_with fail
        go_ret
        refine ⟨?_, hb0.trans (hbr.mono hb0.size)⟩
        rw [← HM.out]; simp only [PP.Tree.size, HTT.out]; rfl

def NestRel (kids : List Tree) (w0 : World) (d i : Value) (wr : World) : Prop := ∃ j : Nat, j ≤ kids.length ∧ i = .int .i64 (j : Int) ∧ d = .int .i64 ((PP.nestL (kids.take j) : Nat) : Int) ∧ Below w0.heap.size w0 wr
theorem nest_kids {w : World} {Z : Nat → Prop} {A : Option Addr} {kids : List Tree} (h : KidsC w Z A kids) : ∀ W, Keep Z w W → ∀ (k : Nat) (num : Int) (nm : List UInt8) (c : Nat), PP.sizeL kids ≤ 1000000 →
    Calls Tryd.prog 49 #[.agg #[.int .u8 (k : Int), .int .i64 num, .string ⟨nm.toArray⟩, .slice A kids.length c]] W fun e w' => e = .returned (.int .i64 ((Tree.node k num nm kids).nest : Int)) ∧ Below W.heap.size W w' := by
  induction h with
  | mk A kids g o K N S AA C KS hA hk hc hh ih =>
    intro W hkeep k num nm c hsz
    have hlen := PP.len_sizeL kids
    have HIH := Lib.hid ih
    have HKP := Lib.hid hkeep
    have HHK := Lib.hid hk
    have HHC := Lib.hid hc
    have HHA := Lib.hid hA
    clear ih hkeep hk hc hh hA
    generalize hM : ((Tree.node k num nm kids).nest : Int) = M
    have HM := Lib.hid hM
    clear hM
    generalize hw0 : W.alloc (.cells #[.int .u8 (k : Int), .int .i64 num, .string ⟨nm.toArray⟩, .slice A kids.length c] 24) = w0
    have hb0 : Below W.heap.size W w0 := by rw [← hw0]; exact (Below.refl _ _).alloc (Nat.le_refl _) _
    have hB : Blk w0 W.heap.size 24 #[.int .u8 (k : Int), .int .i64 num, .string ⟨nm.toArray⟩, .slice A kids.length c] := by rw [← hw0]; exact Blk.new _ _ _
    have HW0 := Lib.hid hw0
    clear hw0
    go_enter Tryd.func49, Tryd.ntmps49
    go_wp2_with fail
    rw [HW0.out]
    go_loopw [3, 9] (fun d i wr => NestRel kids w0 d i wr) (fun _ i _ => kids.length - (intOf i).toNat)
    case atStart => exact ⟨0, Nat.zero_le _, rfl, by simp [PP.nestL], Below.refl _ _⟩
    case round =>
      obtain ⟨j, hj, rfl, rfl, hbr⟩ := hrel
      have hBr : Blk wr W.heap.size 24 #[.int .u8 (k : Int), .int .i64 num, .string ⟨nm.toArray⟩, .slice A kids.length c] := (hbr.block _ hB.lt).trans hB
      have hzt := PP.sizeL_take kids j
      have hmt : PP.nestL (kids.take j) ≤ PP.sizeL (kids.take j) := PP.nestL_size _
      by_cases hlt : j < kids.length
      · have hA' := HHA.out (by intro e; rw [e] at hlt; simp at hlt)
        obtain ⟨hA1, hA2, hA3⟩ := hA'
        obtain ⟨c0, c1, c2, c3⟩ := HHC.out j hlt
        have hkj := HHK.out j hlt
        have hkp : Keep Z w wr := HKP.out.trans ⟨Nat.le_trans hb0.size hbr.size, fun g _ hg => (hbr.block g (Nat.lt_of_lt_of_le hg hb0.size)).trans (hb0.block g hg)⟩
        have hbg := hkp.2 g hA2 hA3
        have d0 := (World.cell?_of_block (a := ⟨g, o + j * 4, none⟩) hbg).trans c0
        have d1 := (World.cell?_of_block (a := ⟨g, o + j * 4 + 1, none⟩) hbg).trans c1
        have d2 := (World.cell?_of_block (a := ⟨g, o + j * 4 + 2, none⟩) hbg).trans c2
        have d3 := (World.cell?_of_block (a := ⟨g, o + j * 4 + 3, none⟩) hbg).trans c3
        have hjs := PP.size_mem (List.mem_of_getElem? hkj)
        have hks : PP.sizeL (KS j) ≤ 1000000 := by simp only [PP.Tree.size] at hjs; omega
        have hcall := HIH.out j hlt (wr.alloc (.cells #[.int .u8 (K j : Int), .int .i64 (N j), .string ⟨(S j).toArray⟩, .slice (AA j) (KS j).length (C j)] 24)) (hkp.alloc _) (K j) (N j) (S j) (C j) hks
        have hdm : (Tree.node (K j) (N j) (S j) (KS j)).nest ≤ 1000001 := by have := PP.nest_size (Tree.node (K j) (N j) (S j) (KS j)); simp only [PP.Tree.size] at hjs this; omega
        have hst : PP.nestL (kids.take (j + 1)) = max (PP.nestL (kids.take j)) (Tree.node (K j) (N j) (S j) (KS j)).nest := by rw [take_at hkj, PP.nestL_snoc]
        generalize (Tree.node (K j) (N j) (S j) (KS j)).nest = D at *
        have HST := Lib.hid hst
        have HC := Lib.hid hcall
        subst hA1
        have p1 : (0 : Int) ≤ (j : Int) := by omega
        have p2 : (j : Int) < (kids.length : Int) := by omega
        clear hcall hst hkp hbg c0 c1 c2 c3 hkj hks hjs hA2 hA3
        generalize PP.nestL (kids.take j) = T at *
        go_wp2_with fail
        refine HC.out.mono ?_
        rintro e w2 ⟨rfl, hb2⟩
        have hb3 : Below w0.heap.size w0 w2 := hbr.trans ((((Below.refl wr.heap.size wr).alloc (Nat.le_refl _) _).trans (hb2.mono (by simp))).mono hbr.size)
        clear hb2 d0 d1 d2 d3
        go_wp2_with fail
        go_roundw
        case rel => exact ⟨j + 1, by omega, by go_num, by rw [HST.out]; go_num, hb3⟩
        case measure => simp [intOf]; omega
      · have hj' : j = kids.length := by omega
        subst hj'
        rw [List.take_length] at *
        generalize hTT : PP.nestL kids = T at *
        have HTT := Lib.hid hTT
        clear hTT
        obtain ⟨⟨b0, _, _, _⟩, _, _, _, _⟩ := hBr.four
        by_cases h1 : k = 42
        · have e1 : ((k : Int) == 42) = true := by simp [h1]
          have HK1 := Lib.hid h1
          clear h1
          go_wp2_with fail
          go_ret
          refine ⟨?_, hb0.trans (hbr.mono hb0.size)⟩
          rw [← HM.out]; simp only [PP.Tree.nest, HTT.out, HK1.out]; simp
        · have e1 : ((k : Int) == 42) = false := beq_eq_false_iff_ne.2 (by omega)
          by_cases h2 : k = 43
          · have e2 : ((k : Int) == 43) = true := by simp [h2]
            have HK2 := Lib.hid h2
            clear h1 h2
            go_wp2_with fail
            go_ret
            refine ⟨?_, hb0.trans (hbr.mono hb0.size)⟩
            rw [← HM.out]; simp only [PP.Tree.nest, HTT.out, HK2.out]; simp
          · have e2 : ((k : Int) == 43) = false := beq_eq_false_iff_ne.2 (by omega)
            have HK1 := Lib.hid h1
            have HK2 := Lib.hid h2
            clear h1 h2
            go_wp2_with fail
            go_ret
            refine ⟨?_, hb0.trans (hbr.mono hb0.size)⟩
            rw [← HM.out]; simp only [PP.Tree.nest, HTT.out, HK1.out, HK2.out]; simp

end
end Go.Proofs.YtfakdbnfpdalhaaDoor
/- The contracts of the parser's limit, array, variable and begins. -/
namespace Go.Proofs.YtfakdbnfpdalhaaDoor
open Go.RowKit Go.Maps
open PP (Tree)

section
set_option maxHeartbeats 1000000
set_option maxRecDepth 100000
variable {w0 : World} {Z : Nat → Prop} {b : Nat} {X : Loc} {E : PP.Env} {σ : PP.St} {bl : List OwnB} {ks : List (Option Addr × List Tree)} {W : World}
/-- A call that makes memory alone. -/
theorem Inv.below {W' : World} (h : Inv w0 Z b X E σ bl ks W) (hb : Below W.heap.size W W') : Inv w0 Z b X E σ bl ks W' := h.call (h.ps.below hb) (Fr.of_below hb)
theorem fail_inv (o e : Nat) (h : Inv w0 Z b X E σ bl ks W) :
    Calls Tryd.prog 80 #[.pointer (some ⟨b, 0, none⟩), .int .i64 (o : Int), .int .i64 (e : Int)] W fun r w' => r = .returned (.tuple #[]) ∧ Inv w0 Z b X E (PP.fail σ o e) bl ks w' :=
  (fail_any o e W h.ps).mono fun _ _ ⟨h1, h2, h3⟩ => ⟨h1, h.call h2 h3⟩
theorem here_inv (h : Inv w0 Z b X E σ bl ks W) :
    Calls Tryd.prog 81 #[.pointer (some ⟨b, 0, none⟩)] W fun r w' => r = .returned (.int .i64 (PP.here E σ : Int)) ∧ Inv w0 Z b X E σ bl ks w' :=
  (here_any W h.ps).mono fun _ _ ⟨h1, n, h2⟩ => ⟨h1, by subst h2; exact h.drewN n⟩
theorem more_inv {t : Bool} (ht : PP.more E σ = t) (h : Inv w0 Z b X E σ bl ks W) :
    Calls Tryd.prog 52 #[.pointer (some ⟨b, 0, none⟩)] W fun r w' => r = .returned (.bool t) ∧ Inv w0 Z b X E σ bl ks w' :=
  (more_any W h.ps).mono fun _ _ ⟨h1, n, h2⟩ => ⟨by rw [h1, ht], by subst h2; exact h.drewN n⟩
theorem reject_inv (h : Inv w0 Z b X E σ bl ks W) :
    Calls Tryd.prog 53 #[.pointer (some ⟨b, 0, none⟩)] W fun r w' => r = .returned (.tuple #[]) ∧ Inv w0 Z b X E (PP.reject E σ) bl ks w' :=
  (reject_any W h.ps).mono fun _ _ ⟨h1, h2, h3⟩ => ⟨h1, h.call h2 h3⟩
theorem limit_inv (h : Inv w0 Z b X E σ bl ks W) (o k : Nat) (num : Int) (nm : List UInt8) (A : Option Addr) (c : Nat) (kids : List Tree) (hm : (A, kids) ∈ ks) (hs : σ.err = 0 → PP.sizeL kids ≤ 1000000) :
    Calls Tryd.prog 82 #[.pointer (some ⟨b, 0, none⟩), .agg #[.int .u8 (k : Int), .int .i64 num, .string ⟨nm.toArray⟩, .slice A kids.length c], .int .i64 (o : Int)] W fun r w' =>
      r = .returned (.tuple #[]) ∧ Inv w0 Z b X E (PP.limitP (.node k num nm kids) o σ) bl ks w' := by
  generalize hT : PP.limitP (.node k num nm kids) o σ = T at *
  have I1 := h.alloc #[.int .u8 (k : Int), .int .i64 num, .string ⟨nm.toArray⟩, .slice A kids.length c] 24 rfl
  have c5 := I1.ps.cells.2.2.2.2.2
  by_cases herr : σ.err = 0
  · have e1 : ((σ.err : Int) != 0) = false := by simp [herr]
    have hz := hs herr
    have hms := fun W' (hb : Below (W.alloc (.cells #[.int .u8 (k : Int), .int .i64 num, .string ⟨nm.toArray⟩, .slice A kids.length c] 24)).heap.size (W.alloc (.cells #[.int .u8 (k : Int), .int .i64 num, .string ⟨nm.toArray⟩, .slice A kids.length c] 24)) W') => size_kids ((I1.below hb).ks _ hm) W' (Keep.refl _ _) k num nm c hz
    have hmn := fun W' (hb : Below (W.alloc (.cells #[.int .u8 (k : Int), .int .i64 num, .string ⟨nm.toArray⟩, .slice A kids.length c] 24)).heap.size (W.alloc (.cells #[.int .u8 (k : Int), .int .i64 num, .string ⟨nm.toArray⟩, .slice A kids.length c] 24)) W') => nest_kids ((I1.below hb).ks _ hm) W' (Keep.refl _ _) k num nm c hz
    have hmd := depth_kids (I1.ks _ hm) _ (Keep.refl _ _) k num nm c hz
    have hTT : T = if PP.large (.node k num nm kids) then PP.fail σ o 5 else σ := by rw [← hT]; unfold PP.limitP; rw [if_pos herr]
    unfold PP.large at hTT
    generalize (Tree.node k num nm kids).depth = D at *
    generalize (Tree.node k num nm kids).size = Q at *
    generalize (Tree.node k num nm kids).nest = M at *
    have HTT := Lib.hid hTT
    have HI1 := Lib.hid I1
    have HD := Lib.hid hmd
    have HS := Lib.hid hms
    have HN := Lib.hid hmn
    clear hTT hT I1 hmd hms hmn h hm hs herr hz
    by_cases d1 : 16 < D
    · have x1 : decide ((16 : Int) < (D : Int)) = true := by simp; omega
      have x2 : decide (16 < D) = true := by simp; omega
      go_enter Tryd.func82, Tryd.ntmps82
      go_wp2_with fail
      refine HD.out.mono ?_
      rintro e v1 ⟨rfl, hb1⟩
      have HF := Lib.hid (fail_inv o 5 (HI1.out.below hb1))
      clear hb1
      go_wp2_with fail
      refine HF.out.mono ?_
      rintro e v2 ⟨rfl, I2⟩
      have HI2 := Lib.hid I2.drop
      clear I2
      go_wp2_with fail
      go_end0
      refine ⟨rfl, ?_⟩
      rw [HTT.out, if_pos (by simp; omega)]
      exact HI2.out
    · have x1 : decide ((16 : Int) < (D : Int)) = false := by simp; omega
      have x2 : decide (16 < D) = false := by simp; omega
      by_cases d2 : 400 < Q
      · have y1 : decide ((400 : Int) < (Q : Int)) = true := by simp; omega
        have y2 : decide (400 < Q) = true := by simp; omega
        go_enter Tryd.func82, Tryd.ntmps82
        go_wp2_with fail
        refine HD.out.mono ?_
        rintro e v1 ⟨rfl, hb1⟩
        have Hb1 := Lib.hid hb1
        obtain ⟨⟨z0, z1, z2, z3⟩, _, _, _, _⟩ := (HI1.out.below hb1).b0.four
        clear hb1
        go_wp2_with fail
        refine (HS.out _ Hb1.out).mono ?_
        rintro e v2 ⟨rfl, hb2⟩
        have HF := Lib.hid (fail_inv o 5 ((HI1.out.below Hb1.out).below hb2))
        clear hb2 z0 z1 z2 z3
        go_wp2_with fail
        refine HF.out.mono ?_
        rintro e v3 ⟨rfl, I2⟩
        have HI2 := Lib.hid I2.drop
        clear I2
        go_wp2_with fail
        go_end0
        refine ⟨rfl, ?_⟩
        rw [HTT.out, if_pos (by simp; omega)]
        exact HI2.out
      · have y1 : decide ((400 : Int) < (Q : Int)) = false := by simp; omega
        have y2 : decide (400 < Q) = false := by simp; omega
        by_cases d3 : 4 < M
        · have q1 : decide ((4 : Int) < (M : Int)) = true := by simp; omega
          have q2 : decide (4 < M) = true := by simp; omega
          go_enter Tryd.func82, Tryd.ntmps82
          go_wp2_with fail
          refine HD.out.mono ?_
          rintro e v1 ⟨rfl, hb1⟩
          have Hb1 := Lib.hid hb1
          obtain ⟨⟨z0, z1, z2, z3⟩, _, _, _, _⟩ := (HI1.out.below hb1).b0.four
          clear hb1
          go_wp2_with fail
          refine (HS.out _ Hb1.out).mono ?_
          rintro e v2 ⟨rfl, hb2⟩
          have Hb2 := Lib.hid (Hb1.out.trans (hb2.mono Hb1.out.size))
          obtain ⟨⟨t0, t1, t2, t3⟩, _, _, _, _⟩ := ((HI1.out.below Hb1.out).below hb2).b0.four
          clear hb2 z0 z1 z2 z3
          go_wp2_with fail
          refine (HN.out _ Hb2.out).mono ?_
          rintro e v3 ⟨rfl, hb3⟩
          have HF := Lib.hid (fail_inv o 5 ((HI1.out.below Hb2.out).below hb3))
          clear hb3 t0 t1 t2 t3
          go_wp2_with fail
          refine HF.out.mono ?_
          rintro e v4 ⟨rfl, I2⟩
          have HI2 := Lib.hid I2.drop
          clear I2
          go_wp2_with fail
          go_end0
          refine ⟨rfl, ?_⟩
          rw [HTT.out, if_pos (by simp; omega)]
          exact HI2.out
        · have q1 : decide ((4 : Int) < (M : Int)) = false := by simp; omega
          have q2 : decide (4 < M) = false := by simp; omega
          go_enter Tryd.func82, Tryd.ntmps82
          go_wp2_with fail
          refine HD.out.mono ?_
          rintro e v1 ⟨rfl, hb1⟩
          have Hb1 := Lib.hid hb1
          obtain ⟨⟨z0, z1, z2, z3⟩, _, _, _, _⟩ := (HI1.out.below hb1).b0.four
          clear hb1
          go_wp2_with fail
          refine (HS.out _ Hb1.out).mono ?_
          rintro e v2 ⟨rfl, hb2⟩
          have Hb2 := Lib.hid (Hb1.out.trans (hb2.mono Hb1.out.size))
          obtain ⟨⟨t0, t1, t2, t3⟩, _, _, _, _⟩ := ((HI1.out.below Hb1.out).below hb2).b0.four
          clear hb2 z0 z1 z2 z3
          go_wp2_with fail
          refine (HN.out _ Hb2.out).mono ?_
          rintro e v3 ⟨rfl, hb3⟩
          have HI2 := Lib.hid ((HI1.out.below Hb2.out).below hb3).drop
          clear hb3 t0 t1 t2 t3
          go_wp2_with fail
          go_end0
          refine ⟨rfl, ?_⟩
          rw [HTT.out, if_neg (by simp; omega)]
          exact HI2.out
  · have e1 : ((σ.err : Int) != 0) = true := by simpa using herr
    have hTT : T = σ := by rw [← hT]; unfold PP.limitP; rw [if_neg herr]
    have HTT := Lib.hid hTT
    have HI1 := Lib.hid I1.drop
    clear hTT hT I1 h hm hs herr
    go_enter Tryd.func82, Tryd.ntmps82
    go_wp2_with fail
    refine bodyPost_ret (results_none rfl _ _ _) rfl ?_
    refine ⟨rfl, ?_⟩
    rw [HTT.out]
    exact HI1.out
end
end Go.Proofs.YtfakdbnfpdalhaaDoor
/- The contracts of the parser's array and variable; rows of known blocks. -/
namespace Go.Proofs.YtfakdbnfpdalhaaDoor
open Go.RowKit Go.Maps
open PP (Tree)

section
variable {w0 : World} {Z : Nat → Prop} {b : Nat} {X : Loc} {E : PP.Env} {σ : PP.St} {bl bl' : List OwnB} {ks : List (Option Addr × List Tree)} {W : World}
theorem Inv.perm (h : Inv w0 Z b X E σ bl ks W) (p : bl.Perm bl') : Inv w0 Z b X E σ bl' ks W := by
  have pm := p.map (·.1)
  refine ⟨h.ps, h.gx0, h.ps0, h.fr, h.zb, fun x hx => h.own x (p.mem_iff.2 hx), pm.nodup_iff.1 h.nd, fun x hx => (h.ks x hx).weak (fun g hg _ => ⟨hg.1, fun hm => hg.2 (pm.mem_iff.2 hm)⟩)⟩
end
/-- A slice that owns a row, and the block of that row, which is known whole. -/
def RowV (base : Nat) (e : TypeId) (size : Nat) (v : Value) (n : Nat) (xs : List Value) (bs : List OwnB) : Prop :=
  xs.length = n * size ∧ ((v = .slice none 0 0 ∧ n = 0 ∧ bs = []) ∨ ∃ g cap cur, v = .slice (some ⟨g, 0, none⟩) n cap ∧ base ≤ g ∧ n ≤ cap ∧ cap ≤ maxLen ∧ cur.size = cap * size ∧ cur.toList.take (n * size) = xs ∧ bs = [(g, e, cur)])
theorem RowV.nil (base : Nat) (e : TypeId) (size : Nat) : RowV base e size (.slice none 0 0) 0 [] [] := ⟨by simp, .inl ⟨rfl, rfl, rfl⟩⟩
section
variable {base : Nat} {e : TypeId} {size : Nat} {v : Value} {n : Nat} {xs : List Value} {bs : List OwnB}
theorem RowV.own (h : RowV base e size v n xs bs) {W : World} (hb : ∀ x ∈ bs, Blk W x.1 x.2.1 x.2.2) : W.ownsRow base e size v n xs := by
  refine ⟨h.1, ?_⟩
  rcases h.2 with ⟨rfl, rfl, _⟩ | ⟨g, cap, cur, rfl, h1, h2, h3, h4, h5, rfl⟩
  · exact .inl ⟨rfl, rfl⟩
  · exact .inr ⟨g, cap, cur, rfl, h1, hb (g, e, cur) (by simp), h2, h3, h4, h5⟩
theorem RowV.form (h : RowV base e size v n xs bs) : ∃ A c, v = .slice A n c := by
  rcases h.2 with ⟨rfl, rfl, _⟩ | ⟨g, cap, cur, rfl, _⟩ <;> exact ⟨_, _, rfl⟩
theorem RowV.blk (h : RowV base e size v n xs bs) {x : OwnB} (hx : x ∈ bs) : v.ownBlock = some x.1 := by
  rcases h.2 with ⟨rfl, rfl, rfl⟩ | ⟨g, cap, cur, rfl, _, _, _, _, _, rfl⟩
  · simp at hx
  · simp only [List.mem_cons, List.not_mem_nil, or_false] at hx; subst hx; rfl
end
theorem row_of_own {W : World} {base : Nat} {e : TypeId} {size : Nat} {v : Value} {n : Nat} {xs : List Value} (h : W.ownsRow base e size v n xs) : ∃ bs, RowV base e size v n xs bs ∧ (∀ x ∈ bs, Blk W x.1 x.2.1 x.2.2 ∧ base ≤ x.1) ∧ (bs.map (·.1)).Nodup := by
  rcases h.2 with ⟨rfl, rfl⟩ | ⟨g, cap, cur, rfl, h1, h2, h3, h4, h5, h6⟩
  · exact ⟨[], ⟨h.1, .inl ⟨rfl, rfl, rfl⟩⟩, fun x hx => by simp at hx, by simp⟩
  · refine ⟨[(g, e, cur)], ⟨h.1, .inr ⟨g, cap, cur, rfl, h1, h3, h4, h5, h6, rfl⟩⟩, fun x hx => ?_, by simp⟩
    simp only [List.mem_cons, List.not_mem_nil, or_false] at hx; subst hx
    exact ⟨h2, h1⟩
/-- After an append: the row's block is known anew. -/
theorem Inv.append {w0 : World} {Z : Nat → Prop} {b : Nat} {X : Loc} {E : PP.Env} {σ : PP.St} {bs rest : List OwnB} {ks : List (Option Addr × List Tree)} {W W' : World} {e : TypeId} {size : Nat} {v v' : Value} {n n' : Nat} {xs xs' : List Value} {g H : Nat}
    (h : Inv w0 Z b X E σ (bs ++ rest) ks W) (hr : RowV w0.heap.size e size v n xs bs) (hown : W'.ownsRow w0.heap.size e size v' n' xs') (hg : W.grownBy W' v.ownBlock) (hat : v.ownBlock = some g ∨ g = H) (hH : W.heap.size = H) (hv : v'.ownBlock = some g) :
    ∃ bs', RowV w0.heap.size e size v' n' xs' bs' ∧ Inv w0 Z b X E σ (bs' ++ rest) ks W' := by
  subst hH
  obtain ⟨bs', hr', hb', hnd'⟩ := row_of_own hown
  refine ⟨bs', hr', ?_⟩
  have hlt := h.lt
  have hvr : ∀ k, v.ownBlock = some k → w0.heap.size ≤ k ∧ k ∈ bs.map (·.1) := by
    intro k hk
    rcases hr.2 with ⟨rfl, rfl, _⟩ | ⟨g, cap, cur, rfl, h1, _, _, _, _, rfl⟩
    · simp [Value.ownBlock] at hk
    · simp [Value.ownBlock] at hk; subst hk; exact ⟨h1, by simp⟩
  have hF : Fr b w0 W' := h.fr.grow hg (fun k hk => (hvr k hk).1)
  obtain ⟨σ0, h0⟩ := h.ps0
  have hp : PS W' b X E σ := h0.fr hF ((hg.block b h.ps.lt (fun e => by have := (hvr b e.symm).1; omega)).trans h.ps.blk) h.ps.next
  have hnd := h.nd
  rw [List.map_append, List.nodup_append] at hnd
  have hrest : ∀ x ∈ rest, x.1 ≠ g := by
    intro x hx e
    rcases hat with h1 | h1
    · exact hnd.2.2 x.1 (by rw [e]; exact (hvr g h1).2) x.1 (List.mem_map_of_mem hx) rfl
    · have := (h.own x (by simp [hx])).1.lt; omega
  refine ⟨hp, h.gx0, h.ps0, hF, h.zb, fun x hx => ?_, ?_, fun x hx => ?_⟩
  · rcases List.mem_append.1 hx with hx | hx
    · exact hb' x hx
    · obtain ⟨k1, k2⟩ := h.own x (by simp [hx])
      refine ⟨(hg.block x.1 k1.lt (fun e => ?_)).trans k1, k2⟩
      exact hnd.2.2 x.1 (hvr x.1 e.symm).2 x.1 (List.mem_map_of_mem hx) rfl
  · rw [List.map_append, List.nodup_append]
    refine ⟨hnd', hnd.2.1, fun a ha c hc => ?_⟩
    obtain ⟨x, hx, rfl⟩ := List.mem_map.1 ha
    obtain ⟨y, hy, rfl⟩ := List.mem_map.1 hc
    have h1 := hr'.blk hx
    rw [hv] at h1
    injection h1 with h1
    exact fun e => hrest y hy (by rw [← e, ← h1])
  · have k0 := (h.ks x hx).weak (Z' := fun k => ((Z k ∨ w0.heap.size ≤ k) ∧ k ∉ (bs ++ rest).map (·.1)) ∧ k ≠ g) (fun k hk hlt => ⟨hk, by
      rintro rfl
      rcases hat with h1 | h1
      · exact hk.2 (by rw [List.map_append]; exact List.mem_append_left _ (hvr k h1).2)
      · omega⟩)
    refine (k0.keep ⟨hg.size, fun k hk hlt => hg.block k hlt (fun e => hk.1.2 ?_)⟩).weak (fun k hk _ => ⟨hk.1.1, fun hm => ?_⟩)
    · rw [List.map_append]; exact List.mem_append_left _ (hvr k e.symm).2
    · rw [List.map_append] at hm
      rcases List.mem_append.1 hm with hm | hm
      · obtain ⟨y, hy, rfl⟩ := List.mem_map.1 hm
        have h1 := hr'.blk hy
        rw [hv] at h1
        injection h1 with h1
        exact hk.2 h1.symm
      · exact hk.1.2 (by rw [List.map_append]; exact List.mem_append_right _ hm)

theorem array_result {fn : Func} {p : Tmp} (h : fn.results = #[.cell p 68]) {tmps : Array Value} {w : World} {g : Nat} {a0 a1 : Value} (hp : tmps.getD p undef = .pointer (some ⟨g, 0, none⟩)) (hb : Blk w g 68 #[a0, a1]) :
    (results fn tmps).run Tryd.prog w = .ok (.agg #[a0, a1]) w :=
  results_cell_row h tmps w g 68 _ (0, 0) _ hp hb Tryd.underlying68 rfl (by kernel_rfl)
section
set_option maxHeartbeats 1000000
set_option maxRecDepth 100000
variable {w0 : World} {Z : Nat → Prop} {b : Nat} {X : Loc} {E : PP.Env} {σ : PP.St} {bl : List OwnB} {ks : List (Option Addr × List Tree)} {W : World}
end
end Go.Proofs.YtfakdbnfpdalhaaDoor
