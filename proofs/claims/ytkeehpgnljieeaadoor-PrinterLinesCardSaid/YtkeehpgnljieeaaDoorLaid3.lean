/- What the rows' list of variables gives for the printers: the table of the powers of ten, besides the lexer's signs and the operators. And a tree as an argument. -/
import Derived.Test.YtkeehpgnljieeaaDoorLaid2
import Derived.Test.YtkeehpgnljieeaaDoorLawParens14
namespace Go.Proofs.YtkeehpgnljieeaaDoor
open Go.ChangeShapes Go.WideShapes Go.ChangeAt Go.RowKit
theorem gPowType : (Tryd.prog.globals[2]?).map (·.type) = some 91 := by kernel_rfl
theorem cellsPow : Tryd.prog.cellsOf 91 = 20 := by kernel_rfl
theorem cellsU64 : Tryd.prog.cellsOf 84 = 1 := by kernel_rfl
theorem laidOutN : laidOutB Tryd.prog = true := by kernel_rfl
set_option maxRecDepth 100000 in
theorem pow_of {W : World} {l : List (String × DataW Unit)} (h : laidMet Tryd.prog l W) (hm : ("internal/strconv.uint64pow10", Rows.laid_internal_strconv_uint64pow10) ∈ l) : PowIs W := by
  obtain ⟨ps, hl, _⟩ := h
  obtain ⟨g', t', cs, fuel, p, hg', ht', hvar, hd⟩ := laid_mem hl hm
  obtain rfl := Option.some.inj (gPow.symm.trans hg')
  obtain rfl := Option.some.inj (gPowType.symm.trans ht')
  have hc := Lib.cells_of_tab (k := .u64) (zs := Lib.pow10Tab) Tryd.underlying91 Tryd.underlying84 cellsU64 cellsPow hd
  obtain ⟨t, fr, hb⟩ := blk_of_var gPow hvar
  refine ⟨t, fr, ?_⟩
  rw [hb]
  have : cs = powCells := by
    apply Array.ext'
    rw [hc]
    rfl
  rw [this]
set_option maxRecDepth 100000 in
/-- A tree that is handed in. -/
theorem open_arg {H : Type} {enc : TypeId × Value → H} {W : World} {base : Nat} {v : Value} {d : DataW H} {p : List MemPlace} (hv : Value.okWide Tryd.prog W .any base 24 v) (h : DataW.Trod enc Tryd.prog W 0 (fun _ => true) true 24 v d p) :
    ∃ r : NodeR, v = .agg #[.int .u8 (r.k : Int), .int .i64 r.num, .string ⟨r.nm.toArray⟩, .slice r.A r.kids.length r.c] ∧ KidsC W (· < W.heap.size) r.A r.kids ∧ PP.bdT r.tree := by
  obtain ⟨cs, rfl, _⟩ := okWide_struct Tryd.underlying24 hv
  obtain ⟨fuel, hf⟩ := h
  obtain ⟨r, hr, hk, hb⟩ := open_node fuel _ _ hf
  refine ⟨r, ?_, hk, hb⟩
  have : cs = #[.int .u8 (r.k : Int), .int .i64 r.num, .string ⟨r.nm.toArray⟩, .slice r.A r.kids.length r.c] := Array.ext' (by simpa [NodeR.cells, Value.cells] using hr)
  rw [this]
/-- A world for the witness: as laidWorld, with the printers' tables too. -/
noncomputable def laidWorld3 (os : Os) : World :=
  { World.holding Tryd.prog os ⟨#[], #[], []⟩ with heap := layAt Rows.laid_math_bits_deBruijn32tab 3 (layAt Rows.laid_math_bits_deBruijn64tab 4 (layAt Rows.laid_internal_strconv_uint64pow10 2 (laidWorld os).heap)) }
end Go.Proofs.YtkeehpgnljieeaaDoor
