/- Merged from ParA, ParB, ParC, ParD, ParE, Tree, ParF, ParG, ParH, ParI, ParJ, Inv (wip/pack.py). -/
import Derived.Test.YtkeehpgnljieeaaDoorKB
import Derived.Test.YtkeehpgnljieeaaDoorKA
import Derived.Maps.Own
import Derived.Maps.OwnSet
import Derived.Deep.RegionHeld3
import Derived.ProofKit
import Derived.OpenShut
import Derived.LoopTactic
import Derived.Deep.AppendLies
import Derived.Deep.RegionLaw
import Derived.Deep.DrawnRows
/- The parser in memory, and the contracts of its smallest methods. -/
namespace Go.Proofs.YtkeehpgnljieeaaDoor
open Go.RowKit Go.Maps

/-- Only block b, and what is new, has turned. -/
def Fr (b : Nat) (w w' : World) : Prop := w.grownBy w' (some b)
section
variable {b : Nat} {w w' w'' : World}
theorem Fr.refl (b : Nat) (w : World) : Fr b w w := ⟨rfl, rfl, rfl, Nat.le_refl _, fun _ _ _ => rfl⟩
theorem Fr.trans (h : Fr b w w') (k : Fr b w' w'') : Fr b w w'' :=
  ⟨k.os.trans h.os, k.tape.trans h.tape, k.output.trans h.output, Nat.le_trans h.size k.size, fun i hi hn => (k.block i (Nat.lt_of_lt_of_le hi h.size) hn).trans (h.block i hi hn)⟩
theorem Fr.drewN (h : Fr b w w') (n : Nat) : Fr b w (w'.drewN n) := ⟨h.os, h.tape, h.output, h.size, h.block⟩
theorem Fr.drew (h : Fr b w w') : Fr b w w'.drew := ⟨h.os, h.tape, h.output, h.size, h.block⟩
theorem Fr.alloc (h : Fr b w w') (o : Obj) : Fr b w (w'.alloc o) :=
  ⟨h.os, h.tape, h.output, Nat.le_trans h.size (by simp), fun i hi hn => (Below.heap_alloc w' o i (Nat.lt_of_lt_of_le hi h.size)).trans (h.block i hi hn)⟩
theorem Fr.set (h : Fr b w w') (j : Nat) (v : Value) : Fr b w (w'.setCell ⟨b, j, none⟩ v) :=
  ⟨h.os, h.tape, h.output, by simpa [World.setCell] using h.size, fun i hi hn => (Below.heap_setCell w' ⟨b, j, none⟩ v i (by rintro rfl; exact hn rfl)).trans (h.block i hi hn)⟩
theorem Fr.below (h : Fr b w w') (k : Below w'.heap.size w' w'') : Fr b w w'' :=
  ⟨k.os.trans h.os, k.tape.trans h.tape, k.output.trans h.output, Nat.le_trans h.size k.size, fun i hi hn => (k.block i (Nat.lt_of_lt_of_le hi h.size)).trans (h.block i hi hn)⟩
theorem Fr.of_below (k : Below w.heap.size w w') : Fr b w w' := (Fr.refl b w).below k
end

/-- Where the parser's parts lie: the tokens' slice, and the map's block. -/
structure Loc where
  A : Option Addr
  c : Nat
  m : Nat
def pCells (X : Loc) (E : PP.Env) (σ : PP.St) : Array Value :=
  #[.slice X.A E.ts.length X.c, .int .i64 (σ.next : Int), .int .i64 (E.L : Int), .map (some X.m), .int .i64 (σ.off : Int), .int .i64 (σ.err : Int)]
section
variable {w w' : World} {b : Nat} {X : Loc} {E : PP.Env} {σ : PP.St}
end

section
set_option maxHeartbeats 400000
set_option maxRecDepth 100000
variable {b : Nat} {X : Loc} {E : PP.Env} {σ : PP.St}
end
end Go.Proofs.YtkeehpgnljieeaaDoor
/- The contracts of the parser's small methods. -/
namespace Go.Proofs.YtkeehpgnljieeaaDoor
open Go.RowKit Go.Maps

theorem quiet_dr {P : Program} {f : FuncId} {args : Array Value} {w : World} {n : Nat} {v : Value}
    (h : Calls P f args (w.drewN n) fun e w' => e = .returned v ∧ ∃ m, w' = (w.drewN n).drewN m) : Calls P f args (w.drewN n) fun e w'' => e = .returned v ∧ ∃ m, w'' = w.drewN m :=
  h.mono fun _ _ ⟨he, m, hm⟩ => ⟨he, n + m, by rw [hm, World.drewN_drewN]⟩

section
set_option maxHeartbeats 400000
set_option maxRecDepth 100000
variable {b : Nat} {X : Loc} {E : PP.Env} {σ : PP.St}
end
end Go.Proofs.YtkeehpgnljieeaaDoor
/- The contracts of the parser's name and number. -/
namespace Go.Proofs.YtkeehpgnljieeaaDoor
open Go.RowKit Go.Maps

section
set_option maxHeartbeats 400000
set_option maxRecDepth 100000
/-- A text without its leading zeros. -/
def trim0 (l : List UInt8) : List UInt8 := l.dropWhile (· == 48)
theorem drop0_step {l : List UInt8} {k : Nat} (h : k < l.length) (h0 : l[k] = 48) : trim0 (l.drop k) = trim0 (l.drop (k + 1)) := by
  unfold trim0
  rw [List.drop_eq_getElem_cons h, List.dropWhile_cons, h0]; rfl
theorem drop0_stop {l : List UInt8} {k : Nat} (h : k < l.length) (h0 : l[k] ≠ 48) : trim0 (l.drop k) = l.drop k := by
  unfold trim0
  rw [List.drop_eq_getElem_cons h, List.dropWhile_cons]
  have : (l[k] == 48) = false := by simpa using h0
  rw [this]; rfl
end
end Go.Proofs.YtkeehpgnljieeaaDoor
/- The contracts of the parser's name and number. -/
namespace Go.Proofs.YtkeehpgnljieeaaDoor
open Go.RowKit Go.Maps

/-- The program's tables lie beside the parser. -/
structure Gl (w : World) (b : Nat) : Prop where
  signs : SignsIs w
  ne : 1 ≠ b
theorem Gl.fr {w w' : World} {b : Nat} (h : Gl w b) (k : Fr b w w') : Gl w' b := by
  refine ⟨?_, h.ne⟩
  obtain ⟨t, fr, hs⟩ := h.signs
  exact ⟨t, fr, (k.block _ h.signs.pos (by simpa using h.ne)).trans hs⟩

section
set_option maxHeartbeats 400000
set_option maxRecDepth 100000
variable {b : Nat} {X : Loc} {E : PP.Env} {σ : PP.St}
end
end Go.Proofs.YtkeehpgnljieeaaDoor
/- The contract of the parser's number. -/
namespace Go.Proofs.YtkeehpgnljieeaaDoor
open Go.RowKit Go.Maps

/-- What the loop over the digits has read. -/
def Read (high : Int) (ds : List UInt8) (k : Nat) (v : Int) : Prop := PP.digitsVal high 0 ds = PP.digitsVal high v (ds.drop k) ∧ 0 ≤ v ∧ v ≤ high * 10 + 255
theorem Read.next {high : Int} {ds : List UInt8} {k : Nat} {v : Int} (h : Read high ds k v) (hk : k < ds.length) (hv : v ≤ high) : Read high ds (k + 1) (v * 10 + ((ds[k] - 48).toNat : Int)) := by
  have hd : (ds[k] - 48).toNat < 256 := (ds[k] - 48).toNat_lt
  refine ⟨?_, by have := h.2.1; omega, by omega⟩
  rw [h.1, List.drop_eq_getElem_cons hk]
  simp only [PP.digitsVal, hv, if_true]
theorem Read.stop {high : Int} {ds : List UInt8} {k : Nat} {v : Int} (h : Read high ds k v) (hd : ds.length ≤ k ∨ high < v) : PP.digitsVal high 0 ds = v := by
  rw [h.1]
  rcases hd with hd | hd
  · rw [List.drop_of_length_le hd]; rfl
  · cases ds.drop k with
    | nil => rfl
    | cons a t => simp only [PP.digitsVal]; rw [if_neg (by omega)]
def NumRel (high : Int) (ds : List UInt8) (n : Nat) (x i : Value) : Prop := ∃ (k : Nat) (v : Int), k ≤ n ∧ i = .int .i64 k ∧ x = .int .i64 v ∧ Read high ds k v
theorem sub48 (c : UInt8) : IntKind.u8.wrap ((c.toNat : Int) - 48) = ((c - 48).toNat : Int) := by
  rw [IntKind.wrap_u8, UInt8.toNat_sub]
  have := c.toNat_lt
  simp
  omega

section
set_option maxHeartbeats 400000
set_option maxRecDepth 100000
variable {b : Nat} {X : Loc} {E : PP.Env} {σ : PP.St}
end
end Go.Proofs.YtkeehpgnljieeaaDoor
/- Trees in memory. -/
namespace Go.Proofs.YtkeehpgnljieeaaDoor
open Go.RowKit
open PP (Tree)
open Go.Maps Go.WideMaps Go.WideElems

/-- The children of a node, in blocks of a set. -/
inductive KidsC (w : World) (Z : Nat → Prop) : Option Addr → List Tree → Prop
  | mk (A : Option Addr) (kids : List Tree) (g o : Nat) (K : Nat → Nat) (N : Nat → Int) (S : Nat → List UInt8) (AA : Nat → Option Addr) (C : Nat → Nat) (KS : Nat → List Tree)
      (hA : kids ≠ [] → A = some ⟨g, o, none⟩ ∧ Z g ∧ g < w.heap.size)
      (hk : ∀ i, i < kids.length → kids[i]? = some (.node (K i) (N i) (S i) (KS i)))
      (hc : ∀ i, i < kids.length → w.cell? ⟨g, o + i * 4, none⟩ = some (.int .u8 (K i : Int)) ∧ w.cell? ⟨g, o + i * 4 + 1, none⟩ = some (.int .i64 (N i)) ∧ w.cell? ⟨g, o + i * 4 + 2, none⟩ = some (.string ⟨(S i).toArray⟩) ∧ w.cell? ⟨g, o + i * 4 + 3, none⟩ = some (.slice (AA i) (KS i).length (C i)))
      (h : ∀ i, i < kids.length → KidsC w Z (AA i) (KS i)) : KidsC w Z A kids
theorem KidsC.nil (w : World) (Z : Nat → Prop) (A : Option Addr) : KidsC w Z A [] :=
  .mk A [] 0 0 (fun _ => 0) (fun _ => 0) (fun _ => []) (fun _ => none) (fun _ => 0) (fun _ => []) (fun h => absurd rfl h) (fun i hi => by simp at hi) (fun i hi => by simp at hi) (fun i hi => by simp at hi)
/-- What lies in the set has stayed. -/
def Keep (Z : Nat → Prop) (w w' : World) : Prop := w.heap.size ≤ w'.heap.size ∧ ∀ g, Z g → g < w.heap.size → w'.heap[g]? = w.heap[g]?
theorem Keep.refl (Z : Nat → Prop) (w : World) : Keep Z w w := ⟨Nat.le_refl _, fun _ _ _ => rfl⟩
theorem Keep.trans {Z : Nat → Prop} {w w' w'' : World} (h : Keep Z w w') (k : Keep Z w' w'') : Keep Z w w'' :=
  ⟨Nat.le_trans h.1 k.1, fun g hz hg => (k.2 g hz (Nat.lt_of_lt_of_le hg h.1)).trans (h.2 g hz hg)⟩
theorem Keep.fr {Z : Nat → Prop} {b : Nat} {w w' w'' : World} (h : Keep Z w w') (k : Fr b w' w'') (hb : ¬ Z b) : Keep Z w w'' :=
  h.trans ⟨k.size, fun g hz hg => k.block g hg (by intro e; injection e with e; subst e; exact hb hz)⟩
theorem Keep.alloc {Z : Nat → Prop} {w w' : World} (h : Keep Z w w') (o : Obj) : Keep Z w (w'.alloc o) :=
  h.trans ⟨by simp, fun g _ hg => Below.heap_alloc w' o g hg⟩
theorem Keep.drewN {Z : Nat → Prop} {w w' : World} (h : Keep Z w w') (n : Nat) : Keep Z w (w'.drewN n) := h
theorem Keep.drew {Z : Nat → Prop} {w w' : World} (h : Keep Z w w') : Keep Z w w'.drew := h
theorem Keep.set {Z : Nat → Prop} {w w' : World} (h : Keep Z w w') {p : Addr} (hp : ¬ Z p.block) (u : Value) : Keep Z w (w'.setCell p u) :=
  h.trans ⟨by simp [World.setCell], fun g hz _ => Below.heap_setCell w' p u g (by rintro rfl; exact hp hz)⟩
theorem KidsC.keep {w w' : World} {Z : Nat → Prop} {A : Option Addr} {kids : List Tree} (h : KidsC w Z A kids) (k : Keep Z w w') : KidsC w' Z A kids := by
  induction h with
  | mk A kids g o K N S AA C KS hA hk hc _ ih =>
    refine .mk A kids g o K N S AA C KS (fun hn => ?_) hk (fun i hi => ?_) ih
    · obtain ⟨h1, h2, h3⟩ := hA hn
      exact ⟨h1, h2, Nat.lt_of_lt_of_le h3 k.1⟩
    · obtain ⟨_, h2, h3⟩ := hA (by rintro rfl; simp at hi)
      have hb := k.2 g h2 h3
      obtain ⟨c0, c1, c2, c3⟩ := hc i hi
      exact ⟨(World.cell?_of_block (a := ⟨g, o + i * 4, none⟩) hb).trans c0, (World.cell?_of_block (a := ⟨g, o + i * 4 + 1, none⟩) hb).trans c1, (World.cell?_of_block (a := ⟨g, o + i * 4 + 2, none⟩) hb).trans c2, (World.cell?_of_block (a := ⟨g, o + i * 4 + 3, none⟩) hb).trans c3⟩
theorem KidsC.weak {w : World} {Z Z' : Nat → Prop} {A : Option Addr} {kids : List Tree} (h : KidsC w Z A kids) (k : ∀ g, Z g → g < w.heap.size → Z' g) : KidsC w Z' A kids := by
  induction h with
  | mk A kids g o K N S AA C KS hA hk hc _ ih =>
    refine .mk A kids g o K N S AA C KS (fun hn => ?_) hk hc ih
    obtain ⟨h1, h2, h3⟩ := hA hn
    exact ⟨h1, k g h2 h3, h3⟩
/-- A node as a value. -/
def NodeV (w : World) (Z : Nat → Prop) (v : Value) (t : Tree) : Prop :=
  ∃ k num nm A c kids, v = .agg #[.int .u8 ((k : Nat) : Int), .int .i64 num, .string ⟨(nm : List UInt8).toArray⟩, .slice A (kids : List Tree).length c] ∧ t = .node k num nm kids ∧ KidsC w Z A kids
theorem NodeV.keep {w w' : World} {Z : Nat → Prop} {v : Value} {t : Tree} (h : NodeV w Z v t) (k : Keep Z w w') : NodeV w' Z v t := by
  obtain ⟨kd, num, nm, A, c, kids, rfl, rfl, hk⟩ := h
  exact ⟨kd, num, nm, A, c, kids, rfl, rfl, hk.keep k⟩
theorem NodeV.weak {w : World} {Z Z' : Nat → Prop} {v : Value} {t : Tree} (h : NodeV w Z v t) (k : ∀ g, Z g → g < w.heap.size → Z' g) : NodeV w Z' v t := by
  obtain ⟨kd, num, nm, A, c, kids, rfl, rfl, hk⟩ := h
  exact ⟨kd, num, nm, A, c, kids, rfl, rfl, hk.weak k⟩
theorem NodeV.leaf (w : World) (Z : Nat → Prop) (k : Nat) (num : Int) (nm : List UInt8) : NodeV w Z (.agg #[.int .u8 (k : Int), .int .i64 num, .string ⟨nm.toArray⟩, .slice none 0 0]) (.node k num nm []) :=
  ⟨k, num, nm, none, 0, [], rfl, rfl, KidsC.nil w Z none⟩

/-- A new slice of one node. -/
theorem kids_one {w : World} {Z : Nat → Prop} (hz : Z w.heap.size) {k : Nat} {num : Int} {nm : List UInt8} {A : Option Addr} {c : Nat} {kids : List Tree} (h : KidsC w Z A kids) (ty : TypeId) :
    KidsC (w.alloc (.cells #[.int .u8 (k : Int), .int .i64 num, .string ⟨nm.toArray⟩, .slice A kids.length c] ty)) Z (some ⟨w.heap.size, 0, none⟩) [.node k num nm kids] := by
  have hf := (Keep.refl Z w).alloc (.cells #[.int .u8 (k : Int), .int .i64 num, .string ⟨nm.toArray⟩, .slice A kids.length c] ty)
  have hc := fun j => cell_of_row (w.alloc (.cells #[.int .u8 (k : Int), .int .i64 num, .string ⟨nm.toArray⟩, .slice A kids.length c] ty)) w.heap.size j #[.int .u8 (k : Int), .int .i64 num, .string ⟨nm.toArray⟩, .slice A kids.length c] ty (0, 0) (heap_alloc_new w _)
  refine .mk _ _ w.heap.size 0 (fun _ => k) (fun _ => num) (fun _ => nm) (fun _ => A) (fun _ => c) (fun _ => kids) (fun _ => ⟨rfl, hz, by simp⟩) (fun i hi => ?_) (fun i hi => ?_) (fun i hi => h.keep hf)
  · obtain rfl : i = 0 := by simp at hi; omega
    rfl
  · obtain rfl : i = 0 := by simp at hi; omega
    exact ⟨hc 0, hc 1, hc 2, hc 3⟩
def pickN {α : Type} (i : Nat) (x y : α) : α := if i = 0 then x else y
/-- A new slice of two nodes. -/
theorem kids_two {w : World} {Z : Nat → Prop} (hz : Z w.heap.size) {k : Nat} {num : Int} {nm : List UInt8} {A : Option Addr} {c : Nat} {kids : List Tree} (h : KidsC w Z A kids)
    {k' : Nat} {num' : Int} {nm' : List UInt8} {A' : Option Addr} {c' : Nat} {kids' : List Tree} (h' : KidsC w Z A' kids') (ty : TypeId) :
    KidsC (w.alloc (.cells #[.int .u8 (k : Int), .int .i64 num, .string ⟨nm.toArray⟩, .slice A kids.length c, .int .u8 (k' : Int), .int .i64 num', .string ⟨nm'.toArray⟩, .slice A' kids'.length c'] ty)) Z (some ⟨w.heap.size, 0, none⟩) [.node k num nm kids, .node k' num' nm' kids'] := by
  have hf := (Keep.refl Z w).alloc (.cells #[.int .u8 (k : Int), .int .i64 num, .string ⟨nm.toArray⟩, .slice A kids.length c, .int .u8 (k' : Int), .int .i64 num', .string ⟨nm'.toArray⟩, .slice A' kids'.length c'] ty)
  have hc := fun j => cell_of_row (w.alloc (.cells #[.int .u8 (k : Int), .int .i64 num, .string ⟨nm.toArray⟩, .slice A kids.length c, .int .u8 (k' : Int), .int .i64 num', .string ⟨nm'.toArray⟩, .slice A' kids'.length c'] ty)) w.heap.size j #[.int .u8 (k : Int), .int .i64 num, .string ⟨nm.toArray⟩, .slice A kids.length c, .int .u8 (k' : Int), .int .i64 num', .string ⟨nm'.toArray⟩, .slice A' kids'.length c'] ty (0, 0) (heap_alloc_new w _)
  refine .mk _ _ w.heap.size 0 (fun i => pickN i k k') (fun i => pickN i num num') (fun i => pickN i nm nm') (fun i => pickN i A A') (fun i => pickN i c c') (fun i => pickN i kids kids') (fun _ => ⟨rfl, hz, by simp⟩) (fun i hi => ?_) (fun i hi => ?_) (fun i hi => ?_)
  · rcases (show i = 0 ∨ i = 1 from by simp at hi; omega) with rfl | rfl <;> rfl
  · rcases (show i = 0 ∨ i = 1 from by simp at hi; omega) with rfl | rfl
    · exact ⟨hc 0, hc 1, hc 2, hc 3⟩
    · exact ⟨hc 4, hc 5, hc 6, hc 7⟩
  · rcases (show i = 0 ∨ i = 1 from by simp at hi; omega) with rfl | rfl
    · exact h.keep hf
    · exact h'.keep hf

/-- The table of the operators. -/
def opCells : Array Value := (PP.opTable.flatMap fun x => [Value.string ⟨x.1.toArray⟩, Value.int .i64 (x.2 : Int)]).toArray
def OpsIs (w : World) : Prop := ∃ (t : TypeId) (fr : Nat × Nat), w.heap[0]? = some (.cells opCells t fr)
theorem opCells_at (op : Nat) (h : op < 24) : opCells[op * 2]? = some (.string ⟨(PP.symbol op).toArray⟩) ∧ opCells[op * 2 + 1]? = some (.int .i64 (PP.level op : Int)) := by
  match op, h with
  | 0, _ => exact ⟨rfl, rfl⟩
  | 1, _ => exact ⟨rfl, rfl⟩
  | 2, _ => exact ⟨rfl, rfl⟩
  | 3, _ => exact ⟨rfl, rfl⟩
  | 4, _ => exact ⟨rfl, rfl⟩
  | 5, _ => exact ⟨rfl, rfl⟩
  | 6, _ => exact ⟨rfl, rfl⟩
  | 7, _ => exact ⟨rfl, rfl⟩
  | 8, _ => exact ⟨rfl, rfl⟩
  | 9, _ => exact ⟨rfl, rfl⟩
  | 10, _ => exact ⟨rfl, rfl⟩
  | 11, _ => exact ⟨rfl, rfl⟩
  | 12, _ => exact ⟨rfl, rfl⟩
  | 13, _ => exact ⟨rfl, rfl⟩
  | 14, _ => exact ⟨rfl, rfl⟩
  | 15, _ => exact ⟨rfl, rfl⟩
  | 16, _ => exact ⟨rfl, rfl⟩
  | 17, _ => exact ⟨rfl, rfl⟩
  | 18, _ => exact ⟨rfl, rfl⟩
  | 19, _ => exact ⟨rfl, rfl⟩
  | 20, _ => exact ⟨rfl, rfl⟩
  | 21, _ => exact ⟨rfl, rfl⟩
  | 22, _ => exact ⟨rfl, rfl⟩
  | 23, _ => exact ⟨rfl, rfl⟩
  | op + 24, h => omega
theorem OpsIs.cells {w : World} (h : OpsIs w) (op : Nat) (ho : op < 24) : w.cell? ⟨0, op * 2, none⟩ = some (.string ⟨(PP.symbol op).toArray⟩) ∧ w.cell? ⟨0, op * 2 + 1, none⟩ = some (.int .i64 (PP.level op : Int)) := by
  obtain ⟨t, fr, hb⟩ := h
  obtain ⟨h0, h1⟩ := opCells_at op ho
  exact ⟨(cell_of_row w _ _ opCells t fr hb).trans h0, (cell_of_row w _ _ opCells t fr hb).trans h1⟩
theorem level_big {op : Nat} (h : 24 ≤ op) : PP.level op = 0 := by
  unfold PP.level
  rw [List.getD_eq_getElem?_getD, List.getElem?_eq_none (by simpa [PP.opTable] using h)]; rfl
theorem symbol_big {op : Nat} (h : 24 ≤ op) : PP.symbol op = [] := by
  unfold PP.symbol
  rw [List.getD_eq_getElem?_getD, List.getElem?_eq_none (by simpa [PP.opTable] using h)]; rfl
theorem level_any (op : Nat) (w : World) (hO : OpsIs w) (h : op ≤ 255) :
    Calls Tryd.prog 38 #[.int .u8 (op : Int)] w fun e w' => e = .returned (.int .i64 (PP.level op : Int)) ∧ w = w' := by
  by_cases ho : op < 24
  · obtain ⟨_, h1⟩ := hO.cells op ho
    go_enter Tryd.func38, Tryd.ntmps38
    go_wp2_with fail
    go_ret
    exact ⟨rfl, rfl⟩
  · rw [level_big (by omega)]
    go_enter Tryd.func38, Tryd.ntmps38
    go_wp2_with fail
    go_ret
    exact ⟨rfl, rfl⟩
theorem symbol_any (op : Nat) (w : World) (hO : OpsIs w) (h : op ≤ 255) :
    Calls Tryd.prog 35 #[.int .u8 (op : Int)] w fun e w' => e = .returned (.string ⟨(PP.symbol op).toArray⟩) ∧ w = w' := by
  by_cases ho : op < 24
  · obtain ⟨h1, _⟩ := hO.cells op ho
    go_enter Tryd.func35, Tryd.ntmps35
    go_wp2_with fail
    go_ret
    exact ⟨rfl, rfl⟩
  · rw [symbol_big (by omega)]
    go_enter Tryd.func35, Tryd.ntmps35
    go_wp2_with fail
    go_ret
    exact ⟨rfl, rfl⟩

/-- The map from symbols to binary operators, after k of them. -/
def opsD : Nat → DataW Unit
  | 0 => .map []
  | k + 1 => (opsD k).put (.string (PP.symbol (k + 6))) (.lit (.int .u8 ((k + 6 : Nat) : Int)))
theorem opsD_none (T : List UInt8) : ∀ k, (∀ i, i < k → PP.symbol (i + 6) ≠ T) → Maps.has (opsD k) (.string T) = false
  | 0, _ => rfl
  | k + 1, h => by
    have hne : (Lit.string T) ≠ Lit.string (PP.symbol (k + 6)) := by intro e; injection e with e; exact h k (by omega) e.symm
    rw [opsD, Maps.has_put_other hne]
    exact opsD_none T k (fun i hi => h i (by omega))
theorem opsD_none2 (T : List UInt8) (z : DataW Unit) : ∀ k, (∀ i, i < k → PP.symbol (i + 6) ≠ T) → (opsD k).atKey (.string T) z = z
  | 0, _ => rfl
  | k + 1, h => by
    have hne : (Lit.string T) ≠ Lit.string (PP.symbol (k + 6)) := by intro e; injection e with e; exact h k (by omega) e.symm
    rw [opsD, Maps.atKey_put_other hne]
    exact opsD_none2 T z k (fun i hi => h i (by omega))
theorem opOf_none {T : List UInt8} (h : PP.opOf T = none) : ∀ i, i < 18 → PP.symbol (i + 6) ≠ T := by
  intro i hi e
  unfold PP.opOf at h
  rw [List.findSome?_eq_none_iff] at h
  have := h i (by simpa using hi)
  simp [e] at this
theorem opOf_some {T : List UInt8} {op : Nat} (h : PP.opOf T = some op) : 6 ≤ op ∧ op < 24 ∧ PP.symbol op = T := by
  unfold PP.opOf at h
  obtain ⟨i, hi, h2⟩ := List.exists_of_findSome?_eq_some h
  simp only [List.mem_range] at hi
  split at h2
  · rename_i h3
    injection h2 with h2
    subst h2
    exact ⟨by omega, by omega, by simpa using h3⟩
  · cases h2
theorem opsD_symbol : ∀ op, 6 ≤ op → op < 24 → Maps.has (opsD 18) (.string (PP.symbol op)) = true ∧ (opsD 18).atKey (.string (PP.symbol op)) (.lit (.int .u8 0)) = .lit (.int .u8 (op : Int)) := by
  intro op h1 h2
  match op, h1, h2 with
  | 6, _, _ => exact ⟨rfl, rfl⟩
  | 7, _, _ => exact ⟨rfl, rfl⟩
  | 8, _, _ => exact ⟨rfl, rfl⟩
  | 9, _, _ => exact ⟨rfl, rfl⟩
  | 10, _, _ => exact ⟨rfl, rfl⟩
  | 11, _, _ => exact ⟨rfl, rfl⟩
  | 12, _, _ => exact ⟨rfl, rfl⟩
  | 13, _, _ => exact ⟨rfl, rfl⟩
  | 14, _, _ => exact ⟨rfl, rfl⟩
  | 15, _, _ => exact ⟨rfl, rfl⟩
  | 16, _, _ => exact ⟨rfl, rfl⟩
  | 17, _, _ => exact ⟨rfl, rfl⟩
  | 18, _, _ => exact ⟨rfl, rfl⟩
  | 19, _, _ => exact ⟨rfl, rfl⟩
  | 20, _, _ => exact ⟨rfl, rfl⟩
  | 21, _, _ => exact ⟨rfl, rfl⟩
  | 22, _, _ => exact ⟨rfl, rfl⟩
  | 23, _, _ => exact ⟨rfl, rfl⟩
  | op + 24, _, h => omega
/-- The parser's map lies at block m. -/
def MapAt (w : World) (m : Nat) : Prop := w.ownsMap Tryd.prog 9 (plainElem Tryd.prog 5) m 18 (opsD 18)
theorem zeroByte (w : World) : (zeroValue 5).run Tryd.prog w = .ok (.int .u8 0) w := by kernel_rfl
end Go.Proofs.YtkeehpgnljieeaaDoor
/- The contracts of the parser's place and primary, from that of its expression. -/
namespace Go.Proofs.YtkeehpgnljieeaaDoor
open Go.RowKit Go.Maps
open PP (Tree)

/-- All that the parser reads beside its own block: the tables and its map. -/
structure Gx (w : World) (b : Nat) (X : Loc) : Prop where
  gl : Gl w b
  ops : OpsIs w
  one : 0 ≠ b
  map : MapAt w X.m
  mne : X.m ≠ b
theorem Gx.fr {w w' : World} {b : Nat} {X : Loc} (h : Gx w b X) (k : Fr b w w') : Gx w' b X := by
  obtain ⟨t, fr, hb⟩ := h.ops
  have hlt : 0 < w.heap.size := (Array.getElem?_eq_some_iff.1 hb).1
  exact ⟨h.gl.fr k, ⟨t, fr, (k.block _ hlt (by simpa using h.one)).trans hb⟩, h.one, World.ownsMap.kept h.map k (by simpa using h.mne), h.mne⟩
/-- A block that is known whole. -/
def Blk (w : World) (g : Nat) (t : TypeId) (cs : Array Value) : Prop := w.heap[g]? = some (.cells cs t (0, 0))
section
variable {w w' : World} {b g : Nat} {t : TypeId} {cs : Array Value}
theorem Blk.lt (h : Blk w g t cs) : g < w.heap.size := (Array.getElem?_eq_some_iff.1 h).1
theorem Blk.cell (h : Blk w g t cs) (i : Nat) : w.cell? ⟨g, i, none⟩ = cs[i]? := cell_of_row w g i cs t (0, 0) h
theorem Blk.frozen (h : Blk w g t cs) (i : Nat) : w.frozen? ⟨g, i, none⟩ = false := frozen_of_row w g i cs t h
theorem Blk.new (w : World) (t : TypeId) (cs : Array Value) : Blk (w.alloc (.cells cs t)) w.heap.size t cs := heap_alloc_new w _
theorem Blk.fr (h : Blk w g t cs) (k : Fr b w w') (hg : g ≠ b) : Blk w' g t cs := (k.block g h.lt (by simpa using hg)).trans h
theorem Blk.alloc (h : Blk w g t cs) (o : Obj) : Blk (w.alloc o) g t cs := (Below.heap_alloc w o g h.lt).trans h
theorem Blk.drewN (h : Blk w g t cs) (n : Nat) : Blk (w.drewN n) g t cs := h
theorem Blk.set_ (h : Blk w g t cs) (i : Nat) (u : Value) : Blk (w.setCell ⟨g, i, none⟩ u) g t (cs.setIfInBounds i u) := heap_setCell_same w g i cs t u h
theorem Blk.far (h : Blk w g t cs) {p : Addr} (hp : g ≠ p.block) (u : Value) : Blk (w.setCell p u) g t cs := (Below.heap_setCell w p u g hp).trans h
theorem Blk.four {a0 a1 a2 a3 : Value} (h : Blk w g t #[a0, a1, a2, a3]) : (w.cell? ⟨g, 0, none⟩ = some a0 ∧ w.cell? ⟨g, 1, none⟩ = some a1 ∧ w.cell? ⟨g, 2, none⟩ = some a2 ∧ w.cell? ⟨g, 3, none⟩ = some a3) ∧
    (w.frozen? ⟨g, 0, none⟩ = false ∧ w.frozen? ⟨g, 1, none⟩ = false ∧ w.frozen? ⟨g, 2, none⟩ = false ∧ w.frozen? ⟨g, 3, none⟩ = false) :=
  ⟨⟨h.cell 0, h.cell 1, h.cell 2, h.cell 3⟩, h.frozen 0, h.frozen 1, h.frozen 2, h.frozen 3⟩
end

theorem Fr.far {b : Nat} {w w' : World} (h : Fr b w w') {p : Addr} (hp : w.heap.size ≤ p.block) (v : Value) : Fr b w (w'.setCell p v) :=
  ⟨h.os, h.tape, h.output, by simpa [World.setCell] using h.size, fun i hi hn => (Below.heap_setCell w' p v i (by omega)).trans (h.block i hi hn)⟩
theorem Blk.st4 {w' : World} {g : Nat} {t : TypeId} {a0 a1 a2 a3 : Value} (h : Blk w' g t #[a0, a1, a2, a3]) (v0 v1 v2 v3 : Value) : Blk ((((w'.setCell ⟨g, 0, none⟩ v0).setCell ⟨g, 1, none⟩ v1).setCell ⟨g, 2, none⟩ v2).setCell ⟨g, 3, none⟩ v3) g t #[v0, v1, v2, v3] := (((h.set_ 0 v0).set_ 1 v1).set_ 2 v2).set_ 3 v3
theorem Fr.st4 {b g : Nat} {w w' : World} (h : Fr b w w') (hp : w.heap.size ≤ g) (v0 v1 v2 v3 : Value) : Fr b w ((((w'.setCell ⟨g, 0, none⟩ v0).setCell ⟨g, 1, none⟩ v1).setCell ⟨g, 2, none⟩ v2).setCell ⟨g, 3, none⟩ v3) := (((h.far hp v0).far hp v1).far hp v2).far hp v3
theorem Keep.st4 {Z : Nat → Prop} {w w' : World} {g : Nat} (h : Keep Z w w') (hp : ¬ Z g) (v0 v1 v2 v3 : Value) : Keep Z w ((((w'.setCell ⟨g, 0, none⟩ v0).setCell ⟨g, 1, none⟩ v1).setCell ⟨g, 2, none⟩ v2).setCell ⟨g, 3, none⟩ v3) := (((h.set (p := ⟨g, 0, none⟩) hp v0).set (p := ⟨g, 1, none⟩) hp v1).set (p := ⟨g, 2, none⟩) hp v2).set (p := ⟨g, 3, none⟩) hp v3
/-- The result of a call that hands a node back lies in a block of its own. -/
theorem node_result {fn : Func} {p : Tmp} (h : fn.results = #[.cell p 24]) {tmps : Array Value} {w : World} {g : Nat} {a0 a1 a2 a3 : Value} (hp : tmps.getD p undef = .pointer (some ⟨g, 0, none⟩)) (hb : Blk w g 24 #[a0, a1, a2, a3]) :
    (results fn tmps).run Tryd.prog w = .ok (.agg #[a0, a1, a2, a3]) w :=
  results_cell_row h tmps w g 24 _ (0, 0) _ hp hb Tryd.underlying24 rfl (by kernel_rfl)
theorem next_reject (E : PP.Env) (σ : PP.St) : (PP.reject E σ).next = σ.next := by unfold PP.reject PP.fail; repeat' split
                                                                                   all_goals rfl
theorem next_nameP (E : PP.Env) (σ : PP.St) : σ.next ≤ (PP.nameP E σ).1.next := by
  unfold PP.nameP; split
  · simp [PP.adv]
  · rw [next_reject]; exact Nat.le_refl _
theorem next_require (E : PP.Env) (σ : PP.St) (t : List UInt8) : σ.next ≤ (PP.require E σ t).next := by
  unfold PP.require; split
  · simp [PP.adv]
  · rw [next_reject]; exact Nat.le_refl _

section
set_option maxHeartbeats 800000
set_option maxRecDepth 100000
variable {b : Nat} {X : Loc} {E : PP.Env} {σ : PP.St}
end
end Go.Proofs.YtkeehpgnljieeaaDoor
/- The contracts of the parser's primary and unary, from those of its expression. -/
namespace Go.Proofs.YtkeehpgnljieeaaDoor
open Go.RowKit Go.Maps
open PP (Tree)

section
set_option maxHeartbeats 800000
set_option maxRecDepth 100000
variable {b : Nat} {X : Loc} {E : PP.Env} {σ : PP.St}
theorem next_of_sees {E : PP.Env} {σ : PP.St} {t : List UInt8} (hs : PP.sees E σ t = true) : σ.next < E.ts.length := by
  unfold PP.sees at hs
  rcases PP.more_cases E σ with ⟨_, _, h3⟩ | ⟨h1, _⟩ | ⟨h1, _, _⟩
  · exact h3
  · rw [h1] at hs; cases hs
  · rw [h1] at hs; cases hs
/-- A quiet contract behind draws, in a region that has drawn. -/
theorem quiet_at {P : Program} {f : FuncId} {args : Array Value} {w : World} {v : Value} (k : Nat) {n : Nat}
    (h : Calls P f args (w.drewN (k + n)) fun e w' => e = .returned v ∧ ∃ m, w' = (w.drewN (k + n)).drewN m) : Calls P f args (w.drewN (k + n)) fun e w'' => e = .returned v ∧ ∃ m, w'' = w.drewN (k + m) :=
  h.mono fun _ _ ⟨he, m, hm⟩ => ⟨he, n + m, by rw [hm, World.drewN_drewN, Nat.add_assoc]⟩
theorem next_fail (σ : PP.St) (o e : Nat) : (PP.fail σ o e).next = σ.next := by unfold PP.fail; split <;> rfl
theorem next_numP (E : PP.Env) (σ : PP.St) (l h : Int) : σ.next ≤ (PP.numP E σ l h).1.next := by
  unfold PP.numP; split
  · simp only []; split
    · rw [next_fail]; exact Nat.le_refl _
    · simp [PP.adv]
  · rw [next_reject]; exact Nat.le_refl _
end
end Go.Proofs.YtkeehpgnljieeaaDoor
/- The contract of the parser's unary. -/
namespace Go.Proofs.YtkeehpgnljieeaaDoor
open Go.RowKit Go.Maps
open PP (Tree)

/-- What the loop over the unary operators has seen. -/
def UnRel (E : PP.Env) (σ : PP.St) (w0 : World) (i : Value) (wr : World) : Prop :=
  ∃ m : Nat, wr = w0.drewN m ∧ (i = .int .i64 0 ∨ (i = .int .i64 1 ∧ PP.sees E σ [45] = false) ∨ (i = .int .i64 2 ∧ PP.sees E σ [45] = false ∧ PP.sees E σ [33] = false))

/-- Four stores into an old block, and a new block. -/
theorem st4_alloc (w : World) (o : Obj) (g : Nat) (v0 v1 v2 v3 : Value) (hg : g < w.heap.size) :
    (((((w.alloc o).setCell ⟨g, 0, none⟩ v0).setCell ⟨g, 1, none⟩ v1).setCell ⟨g, 2, none⟩ v2).setCell ⟨g, 3, none⟩ v3) = (((((w.setCell ⟨g, 0, none⟩ v0).setCell ⟨g, 1, none⟩ v1).setCell ⟨g, 2, none⟩ v2).setCell ⟨g, 3, none⟩ v3).alloc o) := by
  have hs : ∀ (W : World) j v, (W.setCell ⟨g, j, none⟩ v).heap.size = W.heap.size := fun W j v => by simp [World.setCell]
  rw [World.setCell_alloc_past (w := w) o g 0 v0 hg, World.setCell_alloc_past o g 1 v1 (by rw [hs]; exact hg), World.setCell_alloc_past o g 2 v2 (by rw [hs, hs]; exact hg), World.setCell_alloc_past o g 3 v3 (by rw [hs, hs, hs]; exact hg)]

section
set_option maxHeartbeats 800000
set_option maxRecDepth 100000
variable {b : Nat} {X : Loc} {E : PP.Env} {σ : PP.St}
end
end Go.Proofs.YtkeehpgnljieeaaDoor
/- The contract of the parser's binary, and of its expression. -/
namespace Go.Proofs.YtkeehpgnljieeaaDoor
open Go.RowKit Go.Maps
open PP (Tree)

def nextOf (w : World) (b : Nat) : Nat := match w.cell? ⟨b, 1, none⟩ with
  | some v => (intOf v).toNat
  | none => 0
theorem level_le (op : Nat) : PP.level op ≤ 11 := by
  by_cases h : op < 24
  · have : ∀ i, i < 24 → PP.level i ≤ 11 := by decide
    exact this op h
  · rw [level_big (by omega)]; omega
theorem Blk.fr2 {w w' w'' : World} {g b : Nat} {t : TypeId} {cs : Array Value} (h : Blk w g t cs) (k : Fr b w' w'') (e : w'.heap = w.heap) (hg : g ≠ b) : Blk w'' g t cs :=
  Blk.fr (w := w') (by unfold Blk; rw [e]; exact h) k hg
section
set_option maxHeartbeats 1000000
attribute [local go_sem ↓] Go.wp_at_zero Go.wp_at_succ
set_option maxRecDepth 100000
variable {b : Nat} {X : Loc} {E : PP.Env} {σ : PP.St}
end
end Go.Proofs.YtkeehpgnljieeaaDoor
/- The contract of the parser's expression; the five readers of expressions tied. -/
namespace Go.Proofs.YtkeehpgnljieeaaDoor
open Go.RowKit Go.Maps
open PP (Tree)

section
set_option maxHeartbeats 1000000
set_option maxRecDepth 100000
variable {b : Nat} {X : Loc} {E : PP.Env} {σ : PP.St}
end

section
variable {b : Nat} {X : Loc} {E : PP.Env}
end
end Go.Proofs.YtkeehpgnljieeaaDoor
/- What a reader of the parser knows midway, in one bundle: the parser's state, its tables, its own blocks, the trees that it holds. -/
namespace Go.Proofs.YtkeehpgnljieeaaDoor
open Go.RowKit Go.Maps
open PP (Tree)

abbrev OwnB := Nat × TypeId × Array Value
def NoZ : Nat → Prop := fun _ => False
section
variable {w0 W W' : World} {Z : Nat → Prop} {b : Nat} {X : Loc} {E : PP.Env} {σ σ' : PP.St} {bl : List OwnB} {ks : List (Option Addr × List Tree)}
variable {g g1 g2 : Nat} {t t1 t2 : TypeId} {cs c1 c2 : Array Value}
variable {a0 a1 a2 a3 : Value}
end
-- The small contracts, over the bundle.
section
variable {w0 : World} {Z : Nat → Prop} {b : Nat} {X : Loc} {E : PP.Env} {σ : PP.St}
end
end Go.Proofs.YtkeehpgnljieeaaDoor
