/- What the rows' list of variables gives: the lexer's signs and the operators' table in memory. And the last step of a row whose call leaves all old memory alone. -/
import Derived.Test.YtkeehpgnljieeaaDoorKC
import Derived.ProofKit
import Derived.OpenShut
import Derived.Deep.DeepHandedRow
import Derived.Lib.LaidTab
namespace Go.Proofs.YtkeehpgnljieeaaDoor
open Go.ChangeShapes Go.WideShapes Go.ChangeAt Go.RowKit

theorem own : ownKnob Tryd.prog.godebug = none := by kernel_rfl
theorem gSigns : Tryd.prog.globalNamed "ontime/lexer.signs" = some 1 := by kernel_rfl
theorem gSignsType : (Tryd.prog.globals[1]?).map (·.type) = some 78 := by kernel_rfl
theorem cellsSigns : Tryd.prog.cellsOf 78 = 28 := by kernel_rfl
theorem cellsString : Tryd.prog.cellsOf 9 = 1 := by kernel_rfl
theorem gOps : Tryd.prog.globalNamed "ontime/word.operators" = some 0 := by kernel_rfl
theorem gOpsType : (Tryd.prog.globals[0]?).map (·.type) = some 76 := by kernel_rfl
theorem cellsOps : Tryd.prog.cellsOf 76 = 48 := by kernel_rfl
theorem cellsOp : Tryd.prog.cellsOf 75 = 2 := by kernel_rfl
theorem cellsInt : Tryd.prog.cellsOf 3 = 1 := by kernel_rfl

/-- An array of strings that reads as a list of texts holds these texts, cell for cell. -/
theorem cells_of_texts {H : Type} {enc : TypeId × Value → H} {P : Program} {w : World} {base : Nat} {sp : Nat → Bool} {held : Bool} {fuel : Nat} {t e : TypeId} {n : Nat} {cs : List Value} {zs : List (List UInt8)} {p : List MemPlace}
    (ht : P.underlying t = some (.array n e)) (he : P.underlying e = some .string) (hce : P.cellsOf e = 1) (hct : P.cellsOf t = n)
    (h : DataW.trod enc P w base sp held fuel t cs = some (.agg (zs.map fun z => .lit (.string z)), p)) : cs = zs.map fun z => Value.string ⟨z.toArray⟩ := by
  cases fuel with
  | zero => simp [DataW.trod] at h
  | succ fuel =>
    simp only [DataW.trod, ht, hce, hct, Nat.mul_one] at h
    split at h
    · rename_i hl
      obtain ⟨xs, hm, hx⟩ := Option.map_eq_some_iff.1 h
      have hxs : xs.map (·.1) = zs.map fun z => (DataW.lit (.string z) : DataW H) := by
        have := congrArg Prod.fst hx
        simpa using this
      have hxl : xs.length = n := by simpa using Lib.mapM_length hm
      have hzl : zs.length = n := by
        have := congrArg List.length hxs
        simp at this
        omega
      apply List.ext_getElem?
      intro i
      by_cases hi : i < n
      · obtain ⟨b, hb, hf⟩ := Lib.mapM_at hm i i (by simp [hi])
        obtain ⟨z, hc, rfl, _⟩ := DataW.trod_string he hf
        have h1 : cs[i]? = some (.string z) := by
          have := congrArg (·[0]?) hc
          simpa [List.getElem?_take, List.getElem?_drop] using this
        have h2 : (xs.map (·.1))[i]? = some (DataW.lit (.string z.data.toList) : DataW H) := by simp [hb]
        rw [hxs] at h2
        simp only [List.getElem?_map, Option.map_eq_some_iff, DataW.lit.injEq, Lit.string.injEq] at h2
        obtain ⟨z', hz', rfl⟩ := h2
        simp [h1, hz']
      · rw [List.getElem?_eq_none (by omega), List.getElem?_eq_none (by simp; omega)]
    · cases h

/-- A variable of the list reads as listed. -/
theorem laid_mem {P : Program} {w : World} {n : String} {d : DataW Unit} : ∀ {l : List (String × DataW Unit)} {ps : List MemPlace}, DataW.LaidVars P w l ps → (n, d) ∈ l → ∃ g t cs fuel p, P.globalNamed n = some g ∧ (P.globals[g]?).map (·.type) = some t ∧ w.var? P n = some cs ∧ DataW.trod (fun _ => ()) P w 0 (fun _ => true) false fuel t cs.toList = some (d, p)
  | [], _, _, hm => by simp at hm
  | (n', d') :: l, ps, h, hm => by
    obtain ⟨g, t, cs, fuel, p, q, h1, h2, h3, h4, h5, _⟩ := h
    rcases List.mem_cons.1 hm with e | hm
    · injection e with e1 e2
      subst e1 e2
      exact ⟨g, t, cs, fuel, p, h1, h2, h3, h4⟩
    · exact laid_mem h5 hm
theorem blk_of_var {W : World} {n : String} {g : Nat} {cs : Array Value} (hg : Tryd.prog.globalNamed n = some g) (h : W.var? Tryd.prog n = some cs) : ∃ (t : TypeId) (fr : Nat × Nat), W.heap[g]? = some (.cells cs t fr) := by
  unfold World.var? at h
  rw [hg] at h
  simp only [Option.bind_some] at h
  split at h
  · rename_i c t fr hh
    simp only [Option.some.injEq] at h
    exact ⟨t, fr, by rw [hh, h]⟩
  · cases h
theorem signs_of {W : World} {l : List (String × DataW Unit)} (h : laidMet Tryd.prog l W) (hm : ("ontime/lexer.signs", Rows.laid_ontime_lexer_signs) ∈ l) : SignsIs W := by
  obtain ⟨ps, hl, _⟩ := h
  obtain ⟨g', t', cs, fuel, p, hg', ht', hvar, hd⟩ := laid_mem hl hm
  obtain rfl := Option.some.inj (gSigns.symm.trans hg')
  obtain rfl := Option.some.inj (gSignsType.symm.trans ht')
  have hc := cells_of_texts (zs := PL.signs) Tryd.underlying78 Tryd.underlying9 cellsString cellsSigns hd
  obtain ⟨t, fr, hb⟩ := blk_of_var gSigns hvar
  refine ⟨t, fr, ?_⟩
  rw [hb]
  have : cs = signCells := by
    apply Array.ext'
    rw [hc]
    rfl
  rw [this]
/-- A table of pairs. -/
theorem pairs_at : ∀ {zs : List (List UInt8 × Int)} {i : Nat} {z : List UInt8 × Int} (_ : zs[i]? = some z), (zs.flatMap fun z => [Value.string ⟨z.1.toArray⟩, Value.int .i64 z.2])[i * 2]? = some (.string ⟨z.1.toArray⟩) ∧ (zs.flatMap fun z => [Value.string ⟨z.1.toArray⟩, Value.int .i64 z.2])[i * 2 + 1]? = some (.int .i64 z.2)
  | [], i, z, h => by simp at h
  | y :: ys, 0, z, h => by
    simp at h; subst h
    exact ⟨rfl, rfl⟩
  | y :: ys, i + 1, z, h => by
    have := pairs_at (zs := ys) (i := i) (z := z) (by simpa using h)
    rw [List.flatMap_cons]
    refine ⟨?_, ?_⟩
    · rw [List.getElem?_append_right (by simp; omega), show (i + 1) * 2 - [Value.string ⟨y.1.toArray⟩, Value.int .i64 y.2].length = i * 2 from by simp; omega]; exact this.1
    · rw [List.getElem?_append_right (by simp; omega), show (i + 1) * 2 + 1 - [Value.string ⟨y.1.toArray⟩, Value.int .i64 y.2].length = i * 2 + 1 from by simp; omega]; exact this.2
theorem cells_of_pairs {W : World} {base : Nat} {sp : Nat → Bool} {held : Bool} {fuel : Nat} {cs : List Value} {zs : List (List UInt8 × Int)} {p : List MemPlace} {enc : TypeId × Value → Unit}
    (h : DataW.trod enc Tryd.prog W base sp held fuel 76 cs = some (.agg (zs.map fun z => .agg [.lit (.string z.1), .lit (.int .i64 z.2)]), p)) : cs = zs.flatMap fun z => [Value.string ⟨z.1.toArray⟩, Value.int .i64 z.2] := by
  cases fuel with
  | zero => simp [DataW.trod] at h
  | succ fuel =>
    simp only [DataW.trod, Tryd.underlying76, cellsOps, cellsOp] at h
    split at h
    · rename_i hl
      obtain ⟨xs, hm, hx⟩ := Option.map_eq_some_iff.1 h
      have hxs : xs.map (·.1) = zs.map fun z => (DataW.agg [.lit (.string z.1), .lit (.int .i64 z.2)] : DataW Unit) := by
        have := congrArg Prod.fst hx
        simpa using this
      have hxl : xs.length = 24 := by simpa using Lib.mapM_length hm
      have hzl : zs.length = 24 := by
        have := congrArg List.length hxs
        simp at this
        omega
      have hat : ∀ i, i < 24 → ∃ z, zs[i]? = some z ∧ cs[i * 2]? = some (.string ⟨z.1.toArray⟩) ∧ cs[i * 2 + 1]? = some (.int .i64 z.2) := by
        intro i hi
        obtain ⟨b, hb, hf⟩ := Lib.mapM_at hm i i (by simp [hi])
        obtain ⟨ys, n, _, hbb, _, hyl, hfs⟩ := DataW.trod_struct Tryd.underlying75 hf
        have hy2 : ys.length = 2 := hyl
        have f0 := hfs 0 _ rfl
        have f1 := hfs 1 _ rfl
        obtain ⟨y0, y1, rfl⟩ : ∃ y0 y1, ys = [y0, y1] := by
          match ys, hy2 with
          | [a, b], _ => exact ⟨a, b, rfl⟩
        simp only [List.getElem?_cons_zero, List.getElem?_cons_succ] at f0 f1
        obtain ⟨s, hc0, rfl, _⟩ := DataW.trod_string Tryd.underlying9 f0
        obtain ⟨k, hc1, rfl, _⟩ := DataW.trod_int Tryd.underlying3 f1
        have h2 : (xs.map (·.1))[i]? = some (DataW.agg [.lit (.string s.data.toList), .lit (.int .i64 k)] : DataW Unit) := by
          rw [List.getElem?_map, hb, hbb]; rfl
        rw [hxs] at h2
        obtain ⟨z, hz, hzz⟩ := Option.map_eq_some_iff.1 (by rw [← List.getElem?_map]; exact h2)
        injection hzz with hzz
        simp only [List.cons.injEq, DataW.lit.injEq, Lit.string.injEq, Lit.int.injEq, and_true, true_and] at hzz
        refine ⟨z, hz, ?_, ?_⟩
        · have := congrArg (·[0]?) hc0
          rw [hzz.1]
          simpa [cellsString, List.getElem?_take, List.getElem?_drop] using this
        · have := congrArg (·[0]?) hc1
          rw [hzz.2]
          simpa [cellsInt, List.getElem?_take, List.getElem?_drop] using this
      have hrl : ∀ l : List (List UInt8 × Int), (l.flatMap fun z => [Value.string ⟨z.1.toArray⟩, Value.int .i64 z.2]).length = l.length * 2 := by
        intro l
        induction l with
        | nil => rfl
        | cons a l ih => rw [List.flatMap_cons, List.length_append, ih]; simp; omega
      apply List.ext_getElem?
      intro j
      by_cases hj : j < 48
      · obtain ⟨z, hz, h0, h1⟩ := hat (j / 2) (by omega)
        obtain ⟨p0, p1⟩ := pairs_at hz
        rcases Nat.mod_two_eq_zero_or_one j with e | e
        · rw [show j = j / 2 * 2 from by omega, h0, p0]
        · rw [show j = j / 2 * 2 + 1 from by omega, h1, p1]
      · rw [List.getElem?_eq_none (by omega), List.getElem?_eq_none (by rw [hrl]; omega)]
    · cases h
theorem ops_of {W : World} {l : List (String × DataW Unit)} (h : laidMet Tryd.prog l W) (hm : ("ontime/word.operators", Rows.laid_ontime_word_operators) ∈ l) : OpsIs W := by
  obtain ⟨ps, hl, _⟩ := h
  obtain ⟨g', t', cs, fuel, p, hg', ht', hvar, hd⟩ := laid_mem hl hm
  obtain rfl := Option.some.inj (gOps.symm.trans hg')
  obtain rfl := Option.some.inj (gOpsType.symm.trans ht')
  have hc := cells_of_pairs (zs := PP.opTable.map fun x => (x.1, (x.2 : Int))) hd
  obtain ⟨t, fr, hb⟩ := blk_of_var gOps hvar
  refine ⟨t, fr, ?_⟩
  rw [hb]
  have : cs = opCells := by
    apply Array.ext'
    rw [hc]
    rfl
  rw [this]

section
variable {H : Type} {enc : TypeId × Value → H} {P : Program}
theorem post_of_below {f : Func} {s : ChangeSpec} {apart fresh handsOn again : Bool} {W W' : World} {args : Array Value} {v : Value} {ds gs : List (DataW H)} {before pa pv : List MemPlace}
    (hW : DataW.Whole enc P f.params.toList s.vars apart W args.toList ds gs before)
    (hres : ∀ (b : Nat) (sp : Nat → Bool) (hd : Bool), DataW.TrodAll enc P W' b sp hd f.resultTypes.toList (v.resultList f.resultTypes.size) (s.fn H (ds ++ gs)).results [])
    (hargs : ∀ sp : Nat → Bool, (∀ p ∈ before, sp p.block = true) → DataW.TrodAll enc P W' 0 sp true f.params.toList args.toList (s.fn H (ds ++ gs)).args pa)
    (hvars : ∀ sp : Nat → Bool, (∀ p ∈ before, sp p.block = true) → DataW.TrodVars enc P W' sp s.vars (s.fn H (ds ++ gs)).vars pv)
    (hps : before = pa ++ pv) (hb : Below W.heap.size W W')
    (hok : ∀ (j : Nat) (t : TypeId) (r : Value), f.resultTypes[j]? = some t → (v.resultList f.resultTypes.size)[j]? = some r → Value.okWide P W' .any 0 t r) :
    s.post enc P f apart fresh handsOn again W args v W' := by
  have hlt : ∀ p ∈ before, p.block < W.heap.size := fun p hp => hW.lt p hp
  have hold : ∀ p ∈ before, (fun b => decide (b < W.heap.size)) p.block = true := fun p hp => by simpa using hlt p hp
  refine ⟨ds, gs, before, [], pa, pv, hW, hres _ _ _, hargs _ hold, hvars _ hold, World.keptBut_mono (fun p hp => ⟨hp, ?_⟩) (hb.frame (· ∈ before)), fun _ => ?_⟩
  · rw [hps, List.mem_append] at hp
    exact Or.inr hp
  · obtain ⟨_, _, _, _, _, hz, hn⟩ := hW
    refine ⟨hok, _, _, ([] ++ pa) ++ pv, ⟨[] ++ pa, pv, trodAll_append (hargs _ (fun _ _ => rfl)) (hres _ _ _), hvars _ (fun _ _ => rfl), rfl, ?_, ?_⟩, ?_⟩
    · intro b off hp
      have hin : MemPlace.cell b off ∈ before := by rw [hps]; simpa using hp
      rw [hb.frozen (hlt _ hin)]
      exact hz b off hin
    · intro ha
      have := hn ha
      rw [hps] at this
      simpa using this
    · intro p hp _
      rw [hps]
      simpa using hp
end

/-- The cells of a plain datum. -/
def datCells : Nat → DataW Unit → List Value
  | 0, _ => []
  | _ + 1, .lit (.int k n) => [.int k n]
  | _ + 1, .lit (.string z) => [.string ⟨z.toArray⟩]
  | n + 1, .agg ds => ds.flatMap (datCells n)
  | _ + 1, _ => []
def layAt (d : DataW Unit) (g : Nat) (h : Array Obj) : Array Obj := h.modify g fun
  | .cells _ t frozen => .cells (datCells 5 d).toArray t frozen
  | o => o
/-- A world for the witness: the settled one, the listed tables holding what their initialisers lay. -/
noncomputable def laidWorld (os : Os) : World :=
  { World.holding Tryd.prog os ⟨#[], #[], []⟩ with heap := layAt Rows.laid_ontime_word_operators 0 (layAt Rows.laid_ontime_lexer_signs 1 (World.holding Tryd.prog os ⟨#[], #[], []⟩).heap) }
end Go.Proofs.YtkeehpgnljieeaaDoor
