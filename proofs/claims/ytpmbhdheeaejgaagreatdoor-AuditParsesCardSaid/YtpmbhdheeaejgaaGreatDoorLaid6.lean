/- What the rows' list of variables gives for the trace's text: the powers of ten, the library's variables, its two errors. -/
import Derived.Test.YtpmbhdheeaejgaaGreatDoorTrB
import Derived.Test.YtpmbhdheeaejgaaGreatDoorOpenA
import Derived.ProofKit
import Derived.OpenShut
import Derived.Deep.DeepHandedRow
import Derived.Lib.LaidTab
namespace Go.Proofs.YtpmbhdheeaejgaaGreatDoor
open Go.ChangeShapes Go.WideShapes Go.ChangeAt Go.RowKit
/-- A variable of the list reads as listed. -/
theorem laid_mem {P : Program} {w : World} {n : String} {d : DataW Unit} : ∀ {l : List (String × DataW Unit)} {ps : List MemPlace}, DataW.LaidVars P w l ps → (n, d) ∈ l → ∃ g t cs fuel p, P.globalNamed n = some g ∧ (P.globals[g]?).map (·.type) = some t ∧ w.var? P n = some cs ∧ DataW.trod (fun _ => ()) P w 0 (fun _ => true) false fuel t cs.toList = some (d, p)
  | [], _, _, hm => by simp at hm
  | (n', d') :: l, ps, h, hm => by
    obtain ⟨g, t, cs, fuel, p, q, h1, h2, h3, h4, h5, _⟩ := h
    rcases List.mem_cons.1 hm with e | hm
    · injection e with e1 e2
      subst e1 e2
      exact ⟨g, t, cs, fuel, p, h1, h2, h3, h4⟩
    · exact laid_mem h5 hm
theorem blk_of_var {W : World} {n : String} {g : Nat} {cs : Array Value} (hg : Tryz.prog.globalNamed n = some g) (h : W.var? Tryz.prog n = some cs) : ∃ (t : TypeId) (fr : Nat × Nat), W.heap[g]? = some (.cells cs t fr) := by
  unfold World.var? at h
  rw [hg] at h
  simp only [Option.bind_some] at h
  split at h
  · rename_i c t fr hh
    simp only [Option.some.injEq] at h
    exact ⟨t, fr, by rw [hh, h]⟩
  · cases h
theorem gPowType : (Tryz.prog.globals[1]?).map (·.type) = some 122 := by kernel_rfl
theorem cellsPow : Tryz.prog.cellsOf 122 = 20 := by kernel_rfl
theorem cellsU64 : Tryz.prog.cellsOf 100 = 1 := by kernel_rfl
set_option maxRecDepth 100000 in
theorem pow_of {W : World} {l : List (String × DataW Unit)} (h : laidMet Tryz.prog l W) (hm : ("internal/strconv.uint64pow10", Rows.laid_internal_strconv_uint64pow10) ∈ l) : PowIs W := by
  obtain ⟨ps, hl, _⟩ := h
  obtain ⟨g', t', cs, fuel, p, hg', ht', hvar, hd⟩ := laid_mem hl hm
  obtain rfl := Option.some.inj (gPow.symm.trans hg')
  obtain rfl := Option.some.inj (gPowType.symm.trans ht')
  have hc := Lib.cells_of_tab (k := .u64) (zs := Lib.pow10Tab) Tryz.underlying122 Tryz.underlying100 cellsU64 cellsPow hd
  obtain ⟨t, fr, hb⟩ := blk_of_var gPow hvar
  refine ⟨t, fr, ?_⟩
  rw [hb]
  have : cs = powCells := by
    apply Array.ext'
    rw [hc]
    rfl
  rw [this]
theorem max_of {W : World} (h : W.ShapedOpen Tryz.prog) : MaxIs W := by
  obtain ⟨m, hm⟩ := cell_of_shapedOpen_int (zero := #[.int .i64 0]) (t := 3) (g := 0) h (of_decide_eq_true (by kernel_rfl)) (by kernel_rfl) rfl (by kernel_rfl) (by kernel_rfl) Tryz.underlying3
  refine ⟨m, hm, ?_⟩
  unfold World.cell? at hm
  rcases Nat.lt_or_ge 0 W.heap.size with h1 | h1
  · exact h1
  · rw [Array.getElem?_eq_none h1] at hm; simp at hm
theorem gSyn : Tryz.prog.globalNamed "strconv.ErrSyntax" = some 2 := by kernel_rfl
theorem gSynType : (Tryz.prog.globals[2]?).map (·.type) = some 50 := by kernel_rfl
theorem gRng : Tryz.prog.globalNamed "strconv.ErrRange" = some 3 := by kernel_rfl
theorem gRngType : (Tryz.prog.globals[3]?).map (·.type) = some 50 := by kernel_rfl
theorem vari_of {W : World} {l : List (String × DataW Unit)} {nm tn : String} {d : DataW Unit} {g : Nat} (h : laidMet Tryz.prog l W) (hg : Tryz.prog.globalNamed nm = some g) (hgt : (Tryz.prog.globals[g]?).map (·.type) = some 50) (hm : (nm, .iface tn d) ∈ l) : VarI W g := by
  obtain ⟨ps, hl, _⟩ := h
  obtain ⟨g', t', cs, fuel, p, hg', ht', hvar, hd⟩ := laid_mem hl hm
  obtain rfl := Option.some.inj (hg.symm.trans hg')
  obtain rfl := Option.some.inj (hgt.symm.trans ht')
  obtain ⟨fuel', u, v, hcs, _, _⟩ := iface_of_trod Tryz.underlying50 hd
  obtain ⟨t, fr, hb⟩ := blk_of_var hg hvar
  refine ⟨(Array.getElem?_eq_some_iff.1 hb).1, .iface u v, ?_, .inr ⟨u, v, rfl⟩⟩
  rw [cell_of_row W g 0 cs t fr hb]
  have h0 : cs.toList[0]? = some (.iface u v) := by rw [hcs]; rfl
  simpa using h0
/-- The cells of a plain datum. -/
def datCells : Nat → DataW Unit → List Value
  | 0, _ => []
  | _ + 1, .lit (.int k n) => [.int k n]
  | _ + 1, .lit (.bool b) => [.bool b]
  | _ + 1, .lit (.string z) => [.string ⟨z.toArray⟩]
  | n + 1, .agg ds => ds.flatMap (datCells n)
  | _ + 1, _ => []
def layAt (d : DataW Unit) (g : Nat) (h : Array Obj) : Array Obj := h.modify g fun
  | .cells _ t frozen => .cells (datCells 5 d).toArray t frozen
  | o => o
abbrev synS : ByteArray := ⟨#[105, 110, 118, 97, 108, 105, 100, 32, 115, 121, 110, 116, 97, 120]⟩
abbrev rngS : ByteArray := ⟨#[118, 97, 108, 117, 101, 32, 111, 117, 116, 32, 111, 102, 32, 114, 97, 110, 103, 101]⟩
/-- So many blocks has the settled world. -/
noncomputable def low : Nat := (World.holding Tryz.prog default ⟨#[], #[], []⟩).heap.size
def putAt (v : Value) (g : Nat) (h : Array Obj) : Array Obj := h.modify g fun
  | .cells _ t frozen => .cells #[v] t frozen
  | o => o
/-- A world for the witness: the settled one, the listed variables holding what their initialisers lay. -/
noncomputable def laidWorld (os : Os) : World :=
  let w0 := World.holding Tryz.prog os ⟨#[.cells #[.string synS] 157, .cells #[.string rngS] 157], #[], []⟩
  { w0 with heap := putAt (.iface 155 (.pointer (some ⟨low, 0, none⟩))) 2 (putAt (.iface 155 (.pointer (some ⟨low + 1, 0, none⟩))) 3 (layAt Rows.laid_unicode_utf8_acceptRanges 5 (layAt Rows.laid_unicode_utf8_first 4 (layAt Rows.laid_internal_strconv_uint64pow10 1 (layAt Rows.laid_math_bits_deBruijn32tab 6 (layAt Rows.laid_math_bits_deBruijn64tab 7 w0.heap)))))) }
end Go.Proofs.YtpmbhdheeaejgaaGreatDoor
