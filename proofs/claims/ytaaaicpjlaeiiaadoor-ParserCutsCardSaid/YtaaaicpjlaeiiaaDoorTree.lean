/- Trees in memory. -/
import Derived.Test.YtaaaicpjlaeiiaaDoorParA
import Derived.ProofKit
import Derived.OpenShut
namespace Go.Proofs.YtaaaicpjlaeiiaaDoor
open Go.RowKit
open PP (Tree)
open Go.Maps Go.WideMaps Go.WideElems

/-- The children of a node, in blocks of a set. -/
inductive KidsC (w : World) (Z : Nat → Prop) : Option Addr → List Tree → Prop
  | mk (A : Option Addr) (kids : List Tree) (g o : Nat) (K : Nat → Nat) (N : Nat → Int) (S : Nat → List UInt8) (AA : Nat → Option Addr) (C : Nat → Nat) (KS : Nat → List Tree)
      (hA : kids ≠ [] → A = some ⟨g, o, none⟩ ∧ Z g ∧ g < w.heap.size)
      (hk : ∀ i, i < kids.length → kids[i]? = some (.node (K i) (N i) (S i) (KS i)))
      (hc : ∀ i, i < kids.length → w.cell? ⟨g, o + i * 4, none⟩ = some (.int .u8 (K i : Int)) ∧ w.cell? ⟨g, o + i * 4 + 1, none⟩ = some (.int .i64 (N i)) ∧ w.cell? ⟨g, o + i * 4 + 2, none⟩ = some (.string ⟨(S i).toArray⟩) ∧ w.cell? ⟨g, o + i * 4 + 3, none⟩ = some (.slice (AA i) (KS i).length (C i)))
      (h : ∀ i, i < kids.length → KidsC w Z (AA i) (KS i)) : KidsC w Z A kids
theorem KidsC.nil (w : World) (Z : Nat → Prop) (A : Option Addr) : KidsC w Z A [] :=
  .mk A [] 0 0 (fun _ => 0) (fun _ => 0) (fun _ => []) (fun _ => none) (fun _ => 0) (fun _ => []) (fun h => absurd rfl h) (fun i hi => by simp at hi) (fun i hi => by simp at hi) (fun i hi => by simp at hi)
/-- What lies in the set has stayed. -/
def Keep (Z : Nat → Prop) (w w' : World) : Prop := w.heap.size ≤ w'.heap.size ∧ ∀ g, Z g → g < w.heap.size → w'.heap[g]? = w.heap[g]?
theorem Keep.refl (Z : Nat → Prop) (w : World) : Keep Z w w := ⟨Nat.le_refl _, fun _ _ _ => rfl⟩
theorem Keep.trans {Z : Nat → Prop} {w w' w'' : World} (h : Keep Z w w') (k : Keep Z w' w'') : Keep Z w w'' :=
  ⟨Nat.le_trans h.1 k.1, fun g hz hg => (k.2 g hz (Nat.lt_of_lt_of_le hg h.1)).trans (h.2 g hz hg)⟩
theorem Keep.fr {Z : Nat → Prop} {b : Nat} {w w' w'' : World} (h : Keep Z w w') (k : Fr b w' w'') (hb : ¬ Z b) : Keep Z w w'' :=
  h.trans ⟨k.size, fun g hz hg => k.block g hg (by intro e; injection e with e; subst e; exact hb hz)⟩
theorem Keep.alloc {Z : Nat → Prop} {w w' : World} (h : Keep Z w w') (o : Obj) : Keep Z w (w'.alloc o) :=
  h.trans ⟨by simp, fun g _ hg => Below.heap_alloc w' o g hg⟩
theorem Keep.drewN {Z : Nat → Prop} {w w' : World} (h : Keep Z w w') (n : Nat) : Keep Z w (w'.drewN n) := h
theorem Keep.drew {Z : Nat → Prop} {w w' : World} (h : Keep Z w w') : Keep Z w w'.drew := h
theorem Keep.set {Z : Nat → Prop} {w w' : World} (h : Keep Z w w') {p : Addr} (hp : ¬ Z p.block) (u : Value) : Keep Z w (w'.setCell p u) :=
  h.trans ⟨by simp [World.setCell], fun g hz _ => Below.heap_setCell w' p u g (by rintro rfl; exact hp hz)⟩
theorem KidsC.keep {w w' : World} {Z : Nat → Prop} {A : Option Addr} {kids : List Tree} (h : KidsC w Z A kids) (k : Keep Z w w') : KidsC w' Z A kids := by
  induction h with
  | mk A kids g o K N S AA C KS hA hk hc _ ih =>
    refine .mk A kids g o K N S AA C KS (fun hn => ?_) hk (fun i hi => ?_) ih
    · obtain ⟨h1, h2, h3⟩ := hA hn
      exact ⟨h1, h2, Nat.lt_of_lt_of_le h3 k.1⟩
    · obtain ⟨_, h2, h3⟩ := hA (by rintro rfl; simp at hi)
      have hb := k.2 g h2 h3
      obtain ⟨c0, c1, c2, c3⟩ := hc i hi
      exact ⟨(World.cell?_of_block (a := ⟨g, o + i * 4, none⟩) hb).trans c0, (World.cell?_of_block (a := ⟨g, o + i * 4 + 1, none⟩) hb).trans c1, (World.cell?_of_block (a := ⟨g, o + i * 4 + 2, none⟩) hb).trans c2, (World.cell?_of_block (a := ⟨g, o + i * 4 + 3, none⟩) hb).trans c3⟩
theorem KidsC.weak {w : World} {Z Z' : Nat → Prop} {A : Option Addr} {kids : List Tree} (h : KidsC w Z A kids) (k : ∀ g, Z g → g < w.heap.size → Z' g) : KidsC w Z' A kids := by
  induction h with
  | mk A kids g o K N S AA C KS hA hk hc _ ih =>
    refine .mk A kids g o K N S AA C KS (fun hn => ?_) hk hc ih
    obtain ⟨h1, h2, h3⟩ := hA hn
    exact ⟨h1, k g h2 h3, h3⟩
/-- A node as a value. -/
def NodeV (w : World) (Z : Nat → Prop) (v : Value) (t : Tree) : Prop :=
  ∃ k num nm A c kids, v = .agg #[.int .u8 ((k : Nat) : Int), .int .i64 num, .string ⟨(nm : List UInt8).toArray⟩, .slice A (kids : List Tree).length c] ∧ t = .node k num nm kids ∧ KidsC w Z A kids
theorem NodeV.keep {w w' : World} {Z : Nat → Prop} {v : Value} {t : Tree} (h : NodeV w Z v t) (k : Keep Z w w') : NodeV w' Z v t := by
  obtain ⟨kd, num, nm, A, c, kids, rfl, rfl, hk⟩ := h
  exact ⟨kd, num, nm, A, c, kids, rfl, rfl, hk.keep k⟩
theorem NodeV.weak {w : World} {Z Z' : Nat → Prop} {v : Value} {t : Tree} (h : NodeV w Z v t) (k : ∀ g, Z g → g < w.heap.size → Z' g) : NodeV w Z' v t := by
  obtain ⟨kd, num, nm, A, c, kids, rfl, rfl, hk⟩ := h
  exact ⟨kd, num, nm, A, c, kids, rfl, rfl, hk.weak k⟩
theorem NodeV.leaf (w : World) (Z : Nat → Prop) (k : Nat) (num : Int) (nm : List UInt8) : NodeV w Z (.agg #[.int .u8 (k : Int), .int .i64 num, .string ⟨nm.toArray⟩, .slice none 0 0]) (.node k num nm []) :=
  ⟨k, num, nm, none, 0, [], rfl, rfl, KidsC.nil w Z none⟩

/-- A new slice of one node. -/
theorem kids_one {w : World} {Z : Nat → Prop} (hz : Z w.heap.size) {k : Nat} {num : Int} {nm : List UInt8} {A : Option Addr} {c : Nat} {kids : List Tree} (h : KidsC w Z A kids) (ty : TypeId) :
    KidsC (w.alloc (.cells #[.int .u8 (k : Int), .int .i64 num, .string ⟨nm.toArray⟩, .slice A kids.length c] ty)) Z (some ⟨w.heap.size, 0, none⟩) [.node k num nm kids] := by
  have hf := (Keep.refl Z w).alloc (.cells #[.int .u8 (k : Int), .int .i64 num, .string ⟨nm.toArray⟩, .slice A kids.length c] ty)
  have hc := fun j => cell_of_row (w.alloc (.cells #[.int .u8 (k : Int), .int .i64 num, .string ⟨nm.toArray⟩, .slice A kids.length c] ty)) w.heap.size j #[.int .u8 (k : Int), .int .i64 num, .string ⟨nm.toArray⟩, .slice A kids.length c] ty (0, 0) (heap_alloc_new w _)
  refine .mk _ _ w.heap.size 0 (fun _ => k) (fun _ => num) (fun _ => nm) (fun _ => A) (fun _ => c) (fun _ => kids) (fun _ => ⟨rfl, hz, by simp⟩) (fun i hi => ?_) (fun i hi => ?_) (fun i hi => h.keep hf)
  · obtain rfl : i = 0 := by simp at hi; omega
    rfl
  · obtain rfl : i = 0 := by simp at hi; omega
    exact ⟨hc 0, hc 1, hc 2, hc 3⟩
def pickN {α : Type} (i : Nat) (x y : α) : α := if i = 0 then x else y
/-- A new slice of two nodes. -/
theorem kids_two {w : World} {Z : Nat → Prop} (hz : Z w.heap.size) {k : Nat} {num : Int} {nm : List UInt8} {A : Option Addr} {c : Nat} {kids : List Tree} (h : KidsC w Z A kids)
    {k' : Nat} {num' : Int} {nm' : List UInt8} {A' : Option Addr} {c' : Nat} {kids' : List Tree} (h' : KidsC w Z A' kids') (ty : TypeId) :
    KidsC (w.alloc (.cells #[.int .u8 (k : Int), .int .i64 num, .string ⟨nm.toArray⟩, .slice A kids.length c, .int .u8 (k' : Int), .int .i64 num', .string ⟨nm'.toArray⟩, .slice A' kids'.length c'] ty)) Z (some ⟨w.heap.size, 0, none⟩) [.node k num nm kids, .node k' num' nm' kids'] := by
  have hf := (Keep.refl Z w).alloc (.cells #[.int .u8 (k : Int), .int .i64 num, .string ⟨nm.toArray⟩, .slice A kids.length c, .int .u8 (k' : Int), .int .i64 num', .string ⟨nm'.toArray⟩, .slice A' kids'.length c'] ty)
  have hc := fun j => cell_of_row (w.alloc (.cells #[.int .u8 (k : Int), .int .i64 num, .string ⟨nm.toArray⟩, .slice A kids.length c, .int .u8 (k' : Int), .int .i64 num', .string ⟨nm'.toArray⟩, .slice A' kids'.length c'] ty)) w.heap.size j #[.int .u8 (k : Int), .int .i64 num, .string ⟨nm.toArray⟩, .slice A kids.length c, .int .u8 (k' : Int), .int .i64 num', .string ⟨nm'.toArray⟩, .slice A' kids'.length c'] ty (0, 0) (heap_alloc_new w _)
  refine .mk _ _ w.heap.size 0 (fun i => pickN i k k') (fun i => pickN i num num') (fun i => pickN i nm nm') (fun i => pickN i A A') (fun i => pickN i c c') (fun i => pickN i kids kids') (fun _ => ⟨rfl, hz, by simp⟩) (fun i hi => ?_) (fun i hi => ?_) (fun i hi => ?_)
  · rcases (show i = 0 ∨ i = 1 from by simp at hi; omega) with rfl | rfl <;> rfl
  · rcases (show i = 0 ∨ i = 1 from by simp at hi; omega) with rfl | rfl
    · exact ⟨hc 0, hc 1, hc 2, hc 3⟩
    · exact ⟨hc 4, hc 5, hc 6, hc 7⟩
  · rcases (show i = 0 ∨ i = 1 from by simp at hi; omega) with rfl | rfl
    · exact h.keep hf
    · exact h'.keep hf

/-- The table of the operators. -/
def opCells : Array Value := (PP.opTable.flatMap fun x => [Value.string ⟨x.1.toArray⟩, Value.int .i64 (x.2 : Int)]).toArray
def OpsIs (w : World) : Prop := ∃ (t : TypeId) (fr : Nat × Nat), w.heap[0]? = some (.cells opCells t fr)
theorem opCells_at (op : Nat) (h : op < 24) : opCells[op * 2]? = some (.string ⟨(PP.symbol op).toArray⟩) ∧ opCells[op * 2 + 1]? = some (.int .i64 (PP.level op : Int)) := by
  match op, h with
  | 0, _ => exact ⟨rfl, rfl⟩
  | 1, _ => exact ⟨rfl, rfl⟩
  | 2, _ => exact ⟨rfl, rfl⟩
  | 3, _ => exact ⟨rfl, rfl⟩
  | 4, _ => exact ⟨rfl, rfl⟩
  | 5, _ => exact ⟨rfl, rfl⟩
  | 6, _ => exact ⟨rfl, rfl⟩
  | 7, _ => exact ⟨rfl, rfl⟩
  | 8, _ => exact ⟨rfl, rfl⟩
  | 9, _ => exact ⟨rfl, rfl⟩
  | 10, _ => exact ⟨rfl, rfl⟩
  | 11, _ => exact ⟨rfl, rfl⟩
  | 12, _ => exact ⟨rfl, rfl⟩
  | 13, _ => exact ⟨rfl, rfl⟩
  | 14, _ => exact ⟨rfl, rfl⟩
  | 15, _ => exact ⟨rfl, rfl⟩
  | 16, _ => exact ⟨rfl, rfl⟩
  | 17, _ => exact ⟨rfl, rfl⟩
  | 18, _ => exact ⟨rfl, rfl⟩
  | 19, _ => exact ⟨rfl, rfl⟩
  | 20, _ => exact ⟨rfl, rfl⟩
  | 21, _ => exact ⟨rfl, rfl⟩
  | 22, _ => exact ⟨rfl, rfl⟩
  | 23, _ => exact ⟨rfl, rfl⟩
  | op + 24, h => omega
theorem OpsIs.cells {w : World} (h : OpsIs w) (op : Nat) (ho : op < 24) : w.cell? ⟨0, op * 2, none⟩ = some (.string ⟨(PP.symbol op).toArray⟩) ∧ w.cell? ⟨0, op * 2 + 1, none⟩ = some (.int .i64 (PP.level op : Int)) := by
  obtain ⟨t, fr, hb⟩ := h
  obtain ⟨h0, h1⟩ := opCells_at op ho
  exact ⟨(cell_of_row w _ _ opCells t fr hb).trans h0, (cell_of_row w _ _ opCells t fr hb).trans h1⟩
theorem level_big {op : Nat} (h : 24 ≤ op) : PP.level op = 0 := by
  unfold PP.level
  rw [List.getD_eq_getElem?_getD, List.getElem?_eq_none (by simpa [PP.opTable] using h)]; rfl
theorem symbol_big {op : Nat} (h : 24 ≤ op) : PP.symbol op = [] := by
  unfold PP.symbol
  rw [List.getD_eq_getElem?_getD, List.getElem?_eq_none (by simpa [PP.opTable] using h)]; rfl
theorem level_any (op : Nat) (w : World) (hO : OpsIs w) (h : op ≤ 255) :
    Calls Tryd.prog 30 #[.int .u8 (op : Int)] w fun e w' => e = .returned (.int .i64 (PP.level op : Int)) ∧ w = w' := by
  by_cases ho : op < 24
  · obtain ⟨_, h1⟩ := hO.cells op ho
    go_enter Tryd.func30, Tryd.ntmps30
    go_wp2_with fail
    go_ret
    exact ⟨rfl, rfl⟩
  · rw [level_big (by omega)]
    go_enter Tryd.func30, Tryd.ntmps30
    go_wp2_with fail
    go_ret
    exact ⟨rfl, rfl⟩
theorem symbol_any (op : Nat) (w : World) (hO : OpsIs w) (h : op ≤ 255) :
    Calls Tryd.prog 29 #[.int .u8 (op : Int)] w fun e w' => e = .returned (.string ⟨(PP.symbol op).toArray⟩) ∧ w = w' := by
  by_cases ho : op < 24
  · obtain ⟨h1, _⟩ := hO.cells op ho
    go_enter Tryd.func29, Tryd.ntmps29
    go_wp2_with fail
    go_ret
    exact ⟨rfl, rfl⟩
  · rw [symbol_big (by omega)]
    go_enter Tryd.func29, Tryd.ntmps29
    go_wp2_with fail
    go_ret
    exact ⟨rfl, rfl⟩

/-- The map from symbols to binary operators, after k of them. -/
def opsD : Nat → DataW Unit
  | 0 => .map []
  | k + 1 => (opsD k).put (.string (PP.symbol (k + 6))) (.lit (.int .u8 ((k + 6 : Nat) : Int)))
theorem opsD_none (T : List UInt8) : ∀ k, (∀ i, i < k → PP.symbol (i + 6) ≠ T) → Maps.has (opsD k) (.string T) = false
  | 0, _ => rfl
  | k + 1, h => by
    have hne : (Lit.string T) ≠ Lit.string (PP.symbol (k + 6)) := by intro e; injection e with e; exact h k (by omega) e.symm
    rw [opsD, Maps.has_put_other hne]
    exact opsD_none T k (fun i hi => h i (by omega))
theorem opsD_none2 (T : List UInt8) (z : DataW Unit) : ∀ k, (∀ i, i < k → PP.symbol (i + 6) ≠ T) → (opsD k).atKey (.string T) z = z
  | 0, _ => rfl
  | k + 1, h => by
    have hne : (Lit.string T) ≠ Lit.string (PP.symbol (k + 6)) := by intro e; injection e with e; exact h k (by omega) e.symm
    rw [opsD, Maps.atKey_put_other hne]
    exact opsD_none2 T z k (fun i hi => h i (by omega))
theorem opOf_none {T : List UInt8} (h : PP.opOf T = none) : ∀ i, i < 18 → PP.symbol (i + 6) ≠ T := by
  intro i hi e
  unfold PP.opOf at h
  rw [List.findSome?_eq_none_iff] at h
  have := h i (by simpa using hi)
  simp [e] at this
theorem opOf_some {T : List UInt8} {op : Nat} (h : PP.opOf T = some op) : 6 ≤ op ∧ op < 24 ∧ PP.symbol op = T := by
  unfold PP.opOf at h
  obtain ⟨i, hi, h2⟩ := List.exists_of_findSome?_eq_some h
  simp only [List.mem_range] at hi
  split at h2
  · rename_i h3
    injection h2 with h2
    subst h2
    exact ⟨by omega, by omega, by simpa using h3⟩
  · cases h2
theorem opsD_symbol : ∀ op, 6 ≤ op → op < 24 → Maps.has (opsD 18) (.string (PP.symbol op)) = true ∧ (opsD 18).atKey (.string (PP.symbol op)) (.lit (.int .u8 0)) = .lit (.int .u8 (op : Int)) := by
  intro op h1 h2
  match op, h1, h2 with
  | 6, _, _ => exact ⟨rfl, rfl⟩
  | 7, _, _ => exact ⟨rfl, rfl⟩
  | 8, _, _ => exact ⟨rfl, rfl⟩
  | 9, _, _ => exact ⟨rfl, rfl⟩
  | 10, _, _ => exact ⟨rfl, rfl⟩
  | 11, _, _ => exact ⟨rfl, rfl⟩
  | 12, _, _ => exact ⟨rfl, rfl⟩
  | 13, _, _ => exact ⟨rfl, rfl⟩
  | 14, _, _ => exact ⟨rfl, rfl⟩
  | 15, _, _ => exact ⟨rfl, rfl⟩
  | 16, _, _ => exact ⟨rfl, rfl⟩
  | 17, _, _ => exact ⟨rfl, rfl⟩
  | 18, _, _ => exact ⟨rfl, rfl⟩
  | 19, _, _ => exact ⟨rfl, rfl⟩
  | 20, _, _ => exact ⟨rfl, rfl⟩
  | 21, _, _ => exact ⟨rfl, rfl⟩
  | 22, _, _ => exact ⟨rfl, rfl⟩
  | 23, _, _ => exact ⟨rfl, rfl⟩
  | op + 24, _, h => omega
/-- The parser's map lies at block m. -/
def MapAt (w : World) (m : Nat) : Prop := w.ownsMap Tryd.prog 9 (plainElem Tryd.prog 5) m 18 (opsD 18)
theorem zeroByte (w : World) : (zeroValue 5).run Tryd.prog w = .ok (.int .u8 0) w := by kernel_rfl
/-- A look-up: the operator, or none. -/
theorem MapAt.look {w : World} {m : Nat} (h : MapAt w m) (T : List UInt8) (hT : T.length ≤ 65536) :
    (Instr.lookup 107 (.map (some m)) (.string ⟨T.toArray⟩) true).run Tryd.prog w = .ok (.tuple #[.int .u8 (((PP.opOf T).getD 0 : Nat) : Int), .bool (PP.opOf T).isSome]) w := by
  have hkey : keyOf Tryd.prog 9 (.string ⟨T.toArray⟩) = some (.string T) := keyOf_string_mk Tryd.underlying9 (by show T.toArray.size ≤ _; rw [List.size_toArray]; unfold maxLen; omega)
  obtain ⟨v, ps, hrun, hv⟩ := World.ownsMap.look_ok h (Maps.string_keyed Tryd.underlying9) Tryd.underlying107 (zeroByte w) (plainElem_int Tryd.underlying5 (by decide)) hkey
  obtain ⟨c, rfl, hc, hwc⟩ := plainElem_int_inv Tryd.underlying5 hv
  have hcc : (opsD 18).atKey (.string T) (.lit (.int .u8 0)) = .lit (.int .u8 c) := congrArg Prod.fst hc
  have inj : ∀ x y : Int, (DataW.lit (.int .u8 x) : DataW Unit) = .lit (.int .u8 y) → x = y := by intro x y h; cases h; rfl
  rw [hrun]
  cases ho : PP.opOf T with
  | none =>
    rw [opsD_none2 T _ 18 (opOf_none ho)] at hcc
    rw [opsD_none T 18 (opOf_none ho), ← inj _ _ hcc]; rfl
  | some op =>
    obtain ⟨h1, h2, rfl⟩ := opOf_some ho
    rw [(opsD_symbol op h1 h2).2] at hcc
    rw [(opsD_symbol op h1 h2).1, ← inj _ _ hcc]; rfl
end Go.Proofs.YtaaaicpjlaeiiaaDoor
