/- What the rows' list of variables gives for the assembler: the table of the formats, the powers of ten, and the library's variable. -/
import Derived.Test.YtgeagpplihecmaaDoorAsK
import Derived.ProofKit
import Derived.OpenShut
import Derived.Deep.DeepHandedRow
import Derived.Lib.LaidTab
namespace Go.Proofs.YtgeagpplihecmaaDoor
open Go.ChangeShapes Go.WideShapes Go.ChangeAt Go.RowKit
theorem own : ownKnob Tryd.prog.godebug = none := by kernel_rfl
theorem gFmt : Tryd.prog.globalNamed "ontime/isa.formats" = some 0 := by kernel_rfl
theorem gFmtType : (Tryd.prog.globals[0]?).map (·.type) = some 84 := by kernel_rfl
theorem cellsFmts : Tryd.prog.cellsOf 84 = 180 := by kernel_rfl
theorem cellsFmt : Tryd.prog.cellsOf 83 = 6 := by kernel_rfl
theorem cellsString : Tryd.prog.cellsOf 9 = 1 := by kernel_rfl
theorem cellsBool : Tryd.prog.cellsOf 4 = 1 := by kernel_rfl
theorem cellsInt : Tryd.prog.cellsOf 3 = 1 := by kernel_rfl
def fmtD (op : Nat) : DataW Unit := .agg [.lit (.string (AS.name op)), .lit (.string (AS.opers op)), .lit (.string (AS.reads op)), .lit (.bool (AS.writes op)), .lit (.int .i64 (AS.lo op)), .lit (.int .i64 (AS.hi op))]
theorem fmtD_eq : (Rows.laid_ontime_isa_formats : DataW Unit) = .agg ((List.range 30).map fmtD) := by kernel_rfl
/-- A variable of the list reads as listed. -/
theorem laid_mem {P : Program} {w : World} {n : String} {d : DataW Unit} : ∀ {l : List (String × DataW Unit)} {ps : List MemPlace}, DataW.LaidVars P w l ps → (n, d) ∈ l → ∃ g t cs fuel p, P.globalNamed n = some g ∧ (P.globals[g]?).map (·.type) = some t ∧ w.var? P n = some cs ∧ DataW.trod (fun _ => ()) P w 0 (fun _ => true) false fuel t cs.toList = some (d, p)
  | [], _, _, hm => by simp at hm
  | (n', d') :: l, ps, h, hm => by
    obtain ⟨g, t, cs, fuel, p, q, h1, h2, h3, h4, h5, _⟩ := h
    rcases List.mem_cons.1 hm with e | hm
    · injection e with e1 e2
      subst e1 e2
      exact ⟨g, t, cs, fuel, p, h1, h2, h3, h4⟩
    · exact laid_mem h5 hm
theorem blk_of_var {W : World} {n : String} {g : Nat} {cs : Array Value} (hg : Tryd.prog.globalNamed n = some g) (h : W.var? Tryd.prog n = some cs) : ∃ (t : TypeId) (fr : Nat × Nat), W.heap[g]? = some (.cells cs t fr) := by
  unfold World.var? at h
  rw [hg] at h
  simp only [Option.bind_some] at h
  split at h
  · rename_i c t fr hh
    simp only [Option.some.injEq] at h
    exact ⟨t, fr, by rw [hh, h]⟩
  · cases h
theorem cells_of_fmts {W : World} {base : Nat} {sp : Nat → Bool} {held : Bool} {fuel : Nat} {cs : List Value} {p : List MemPlace} {enc : TypeId × Value → Unit}
    (h : DataW.trod enc Tryd.prog W base sp held fuel 84 cs = some (.agg ((List.range 30).map fmtD), p)) : cs = (List.range 30).flatMap fmtRow := by
  cases fuel with
  | zero => simp [DataW.trod] at h
  | succ fuel =>
    simp only [DataW.trod, Tryd.underlying84, cellsFmts, cellsFmt] at h
    split at h
    · rename_i hl
      obtain ⟨xs, hm, hx⟩ := Option.map_eq_some_iff.1 h
      have hxs : xs.map (·.1) = (List.range 30).map fmtD := by
        have := congrArg Prod.fst hx
        simpa using this
      have hxl : xs.length = 30 := by simpa using Lib.mapM_length hm
      have hat : ∀ i, i < 30 → ∀ j, j < 6 → cs[i * 6 + j]? = (fmtRow i)[j]? := by
        intro i hi
        obtain ⟨b, hb, hf⟩ := Lib.mapM_at hm i i (by simp [hi])
        obtain ⟨ys, n, _, hbb, _, hyl, hfs⟩ := DataW.trod_struct Tryd.underlying83 hf
        have hy2 : ys.length = 6 := hyl
        have f0 := hfs 0 _ rfl
        have f1 := hfs 1 _ rfl
        have f2 := hfs 2 _ rfl
        have f3 := hfs 3 _ rfl
        have f4 := hfs 4 _ rfl
        have f5 := hfs 5 _ rfl
        obtain ⟨y0, y1, y2, y3, y4, y5, rfl⟩ : ∃ y0 y1 y2 y3 y4 y5, ys = [y0, y1, y2, y3, y4, y5] := by
          match ys, hy2 with
          | [a, b, c, d, e, f], _ => exact ⟨a, b, c, d, e, f, rfl⟩
        simp only [List.getElem?_cons_zero, List.getElem?_cons_succ] at f0 f1 f2 f3 f4 f5
        obtain ⟨s0, hc0, rfl, _⟩ := DataW.trod_string Tryd.underlying9 f0
        obtain ⟨s1, hc1, rfl, _⟩ := DataW.trod_string Tryd.underlying9 f1
        obtain ⟨s2, hc2, rfl, _⟩ := DataW.trod_string Tryd.underlying9 f2
        obtain ⟨b3, hc3, rfl, _⟩ := DataW.trod_bool Tryd.underlying4 f3
        obtain ⟨k4, hc4, rfl, _⟩ := DataW.trod_int Tryd.underlying3 f4
        obtain ⟨k5, hc5, rfl, _⟩ := DataW.trod_int Tryd.underlying3 f5
        have h2 : (xs.map (·.1))[i]? = some (DataW.agg [.lit (.string s0.data.toList), .lit (.string s1.data.toList), .lit (.string s2.data.toList), .lit (.bool b3), .lit (.int .i64 k4), .lit (.int .i64 k5)] : DataW Unit) := by
          rw [List.getElem?_map, hb, hbb]; rfl
        rw [hxs, List.getElem?_map, List.getElem?_range hi] at h2
        have h3 := Option.some.inj h2
        unfold fmtD at h3
        injection h3 with h3
        simp only [List.cons.injEq, DataW.lit.injEq, Lit.string.injEq, Lit.int.injEq, Lit.bool.injEq, and_true, true_and] at h3
        obtain ⟨z0, z1, z2, z3, z4, z5⟩ := h3
        have g0 := congrArg (·[0]?) hc0
        have g1 := congrArg (·[0]?) hc1
        have g2 := congrArg (·[0]?) hc2
        have g3 := congrArg (·[0]?) hc3
        have g4 := congrArg (·[0]?) hc4
        have g5 := congrArg (·[0]?) hc5
        intro j hj
        have hj6 : j = 0 ∨ j = 1 ∨ j = 2 ∨ j = 3 ∨ j = 4 ∨ j = 5 := by omega
        rcases hj6 with rfl | rfl | rfl | rfl | rfl | rfl
        · simp only [fmtRow, z0]; simpa [cellsString, List.getElem?_take, List.getElem?_drop] using g0
        · simp only [fmtRow, z1]; simpa [cellsString, List.getElem?_take, List.getElem?_drop] using g1
        · simp only [fmtRow, z2]; simpa [cellsString, List.getElem?_take, List.getElem?_drop] using g2
        · simp only [fmtRow, z3]; simpa [cellsBool, List.getElem?_take, List.getElem?_drop] using g3
        · simp only [fmtRow, z4]; simpa [cellsInt, List.getElem?_take, List.getElem?_drop] using g4
        · simp only [fmtRow, z5]; simpa [cellsInt, List.getElem?_take, List.getElem?_drop] using g5
      have hrl : ((List.range 30).flatMap fmtRow).length = 180 := by decide +kernel
      apply List.ext_getElem?
      intro q
      by_cases hq : q < 180
      · have h1 := hat (q / 6) (by omega) (q % 6) (by omega)
        have h2 := fmtRow_at (List.range 30) (q / 6) (q / 6) (q % 6) (by rw [List.getElem?_range (by omega)]) (by omega)
        rw [show q / 6 * 6 + q % 6 = q from by omega] at h1 h2
        rw [h1, h2]
      · rw [List.getElem?_eq_none (by omega), List.getElem?_eq_none (by omega)]
    · cases h
theorem fmt_of {W : World} {l : List (String × DataW Unit)} (h : laidMet Tryd.prog l W) (hm : ("ontime/isa.formats", Rows.laid_ontime_isa_formats) ∈ l) : FmtIs W := by
  obtain ⟨ps, hl, _⟩ := h
  obtain ⟨g', t', cs, fuel, p, hg', ht', hvar, hd⟩ := laid_mem hl hm
  obtain rfl := Option.some.inj (gFmt.symm.trans hg')
  obtain rfl := Option.some.inj (gFmtType.symm.trans ht')
  rw [fmtD_eq] at hd
  have hc := cells_of_fmts hd
  obtain ⟨t, fr, hb⟩ := blk_of_var gFmt hvar
  refine ⟨t, fr, ?_⟩
  rw [hb]
  have : cs = fmtCells := by
    apply Array.ext'
    rw [hc]
    rfl
  rw [this]
theorem gPowType : (Tryd.prog.globals[2]?).map (·.type) = some 129 := by kernel_rfl
theorem cellsPow : Tryd.prog.cellsOf 129 = 20 := by kernel_rfl
theorem cellsU64 : Tryd.prog.cellsOf 121 = 1 := by kernel_rfl
set_option maxRecDepth 100000 in
theorem pow_of {W : World} {l : List (String × DataW Unit)} (h : laidMet Tryd.prog l W) (hm : ("internal/strconv.uint64pow10", Rows.laid_internal_strconv_uint64pow10) ∈ l) : PowIs W := by
  obtain ⟨ps, hl, _⟩ := h
  obtain ⟨g', t', cs, fuel, p, hg', ht', hvar, hd⟩ := laid_mem hl hm
  obtain rfl := Option.some.inj (gPow.symm.trans hg')
  obtain rfl := Option.some.inj (gPowType.symm.trans ht')
  have hc := Lib.cells_of_tab (k := .u64) (zs := Lib.pow10Tab) Tryd.underlying129 Tryd.underlying121 cellsU64 cellsPow hd
  obtain ⟨t, fr, hb⟩ := blk_of_var gPow hvar
  refine ⟨t, fr, ?_⟩
  rw [hb]
  have : cs = powCells := by
    apply Array.ext'
    rw [hc]
    rfl
  rw [this]
theorem max_of {W : World} (h : W.ShapedOpen Tryd.prog) : MaxIs W := by
  obtain ⟨m, hm⟩ := cell_of_shapedOpen_int (zero := #[.int .i64 0]) (t := 3) (g := 1) h (of_decide_eq_true (by kernel_rfl)) (by kernel_rfl) rfl (by kernel_rfl) (by kernel_rfl) Tryd.underlying3
  refine ⟨m, hm, ?_⟩
  unfold World.cell? at hm
  rcases Nat.lt_or_ge 1 W.heap.size with h1 | h1
  · exact h1
  · rw [Array.getElem?_eq_none h1] at hm; simp at hm
section
variable {H : Type} {enc : TypeId × Value → H} {P : Program}
theorem post_of_below {f : Func} {s : ChangeSpec} {apart fresh handsOn again : Bool} {W W' : World} {args : Array Value} {v : Value} {ds gs : List (DataW H)} {before pa pv : List MemPlace}
    (hW : DataW.Whole enc P f.params.toList s.vars apart W args.toList ds gs before)
    (hres : ∀ (b : Nat) (sp : Nat → Bool) (hd : Bool), DataW.TrodAll enc P W' b sp hd f.resultTypes.toList (v.resultList f.resultTypes.size) (s.fn H (ds ++ gs)).results [])
    (hargs : ∀ sp : Nat → Bool, (∀ p ∈ before, sp p.block = true) → DataW.TrodAll enc P W' 0 sp true f.params.toList args.toList (s.fn H (ds ++ gs)).args pa)
    (hvars : ∀ sp : Nat → Bool, (∀ p ∈ before, sp p.block = true) → DataW.TrodVars enc P W' sp s.vars (s.fn H (ds ++ gs)).vars pv)
    (hps : before = pa ++ pv) (hb : Below W.heap.size W W')
    (hok : ∀ (j : Nat) (t : TypeId) (r : Value), f.resultTypes[j]? = some t → (v.resultList f.resultTypes.size)[j]? = some r → Value.okWide P W' .any 0 t r) :
    s.post enc P f apart fresh handsOn again W args v W' := by
  have hlt : ∀ p ∈ before, p.block < W.heap.size := fun p hp => hW.lt p hp
  have hold : ∀ p ∈ before, (fun b => decide (b < W.heap.size)) p.block = true := fun p hp => by simpa using hlt p hp
  refine ⟨ds, gs, before, [], pa, pv, hW, hres _ _ _, hargs _ hold, hvars _ hold, World.keptBut_mono (fun p hp => ⟨hp, ?_⟩) (hb.frame (· ∈ before)), fun _ => ?_⟩
  · rw [hps, List.mem_append] at hp
    exact Or.inr hp
  · obtain ⟨_, _, _, _, _, hz, hn⟩ := hW
    refine ⟨hok, _, _, ([] ++ pa) ++ pv, ⟨[] ++ pa, pv, trodAll_append (hargs _ (fun _ _ => rfl)) (hres _ _ _), hvars _ (fun _ _ => rfl), rfl, ?_, ?_⟩, ?_⟩
    · intro b off hp
      have hin : MemPlace.cell b off ∈ before := by rw [hps]; simpa using hp
      rw [hb.frozen (hlt _ hin)]
      exact hz b off hin
    · intro ha
      have := hn ha
      rw [hps] at this
      simpa using this
    · intro p hp _
      rw [hps]
      simpa using hp
end

/-- The cells of a plain datum. -/
def datCells : Nat → DataW Unit → List Value
  | 0, _ => []
  | _ + 1, .lit (.int k n) => [.int k n]
  | _ + 1, .lit (.bool b) => [.bool b]
  | _ + 1, .lit (.string z) => [.string ⟨z.toArray⟩]
  | n + 1, .agg ds => ds.flatMap (datCells n)
  | _ + 1, _ => []
def layAt (d : DataW Unit) (g : Nat) (h : Array Obj) : Array Obj := h.modify g fun
  | .cells _ t frozen => .cells (datCells 5 d).toArray t frozen
  | o => o
/-- A world for the witness: the settled one, the listed tables holding what their initialisers lay. -/
noncomputable def laidWorld (os : Os) : World :=
  { World.holding Tryd.prog os ⟨#[], #[], []⟩ with heap := layAt Rows.laid_unicode_utf8_acceptRanges 4 (layAt Rows.laid_unicode_utf8_first 3 (layAt Rows.laid_internal_strconv_uint64pow10 2 (layAt Rows.laid_math_bits_deBruijn32tab 5 (layAt Rows.laid_math_bits_deBruijn64tab 6 (layAt Rows.laid_ontime_isa_formats 0 (World.holding Tryd.prog os ⟨#[], #[], []⟩).heap))))) }
end Go.Proofs.YtgeagpplihecmaaDoor
