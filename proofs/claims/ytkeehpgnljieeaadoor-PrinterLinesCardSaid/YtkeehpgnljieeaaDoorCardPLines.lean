/- PrinterLines holds for every tree: the text of a block has as many lines as its statements and closing braces, every line ends with a line feed, braces are balanced, and the indentation is the number of enclosing blocks. Conditions: none but the tied tables (and, by the card, a tree that a machine can hold). -/
import Derived.Test.YtkeehpgnljieeaaDoorCards
import Derived.Test.YtkeehpgnljieeaaDoorTie
import Derived.Test.YtkeehpgnljieeaaDoorLaid3
import Derived.Test.YtkeehpgnljieeaaDoorLawPLines
namespace Go.Proofs.YtkeehpgnljieeaaDoor.printerLines
open Go.ChangeShapes Go.WideShapes Go.ChangeAt Go.RowKit
open Go.WideMaps Go.WideElems
open Go.ChangeMaps (open_string shut_string)

set_option maxRecDepth 100000 in
theorem contract (H : Type) (enc : TypeId × Value → H) (W : World) (base : Nat) (args : Array Value) (ds gs : List (DataW H)) (before : List MemPlace)
    (hval : ∀ (j : Nat) t v, Tryd.f3.params[j]? = some t → args[j]? = some v → Value.okWide Tryd.prog W .any base t v)
    (hW : DataW.Whole enc Tryd.prog Tryd.f3.params.toList Rows.printerLinesSpec.vars false W args.toList ds gs before) (hL : laidMetH Tryd.prog Rows.printerLinesRow.laid W) :
    Calls Tryd.prog 3 args W fun e W' => ∃ v, e = .returned v ∧ Rows.printerLinesSpec.post enc Tryd.prog Tryd.f3 false true false false W args v W' := by
  have hW' := hW
  obtain ⟨p, q, hA0, hV, rfl, hfz, hnd⟩ := hW
  have hA : DataW.TrodAll enc Tryd.prog W 0 (fun _ => true) true Tryd.f3.params.toList args.toList ds p := hA0
  rw [Tryd.params3] at hA hval
  obtain ⟨v0, vs0, d0, ds0, p0, q0, hargs, rfl, rfl, h0, r0⟩ := trodAll_cons hA
  obtain ⟨rfl, rfl, rfl⟩ := trodAll_nil r0
  obtain rfl : args = #[v0] := by cases args; simp_all
  obtain ⟨rfl, rfl⟩ := trodVars_none hV
  have hk0k := h0
  obtain ⟨r0n, rfl, hks0, hbd0⟩ := open_arg (hval 0 24 v0 rfl rfl) h0
  clear hA0
  simp only [List.append_nil] at hW'
  have hlt0 : ∀ x ∈ p0, x.block < W.heap.size := fun x hx => by simpa using hW'.lt x (by simp [hx])
  refine (lines14_walk  ⟨hks0, ops_of (show laidMet Tryd.prog Rows.printerLinesRow.laid W from hL) (by simp [Rows.printerLinesRow]), pow_of (show laidMet Tryd.prog Rows.printerLinesRow.laid W from hL) (by simp [Rows.printerLinesRow]), signs_of (show laidMet Tryd.prog Rows.printerLinesRow.laid W from hL) (by simp [Rows.printerLinesRow])⟩ hbd0 ).mono fun e W' ⟨he, hb⟩ => ?_
  subst he
  exact ⟨_, rfl, post_of_below (pa := p0) (pv := []) hW' (fun _ _ _ => trodAll_cons_mk (shut_bool Tryd.underlying4 _) trodAll_mk0)
    (fun sp hsp => by
      have := trodAll_cons_mk (WideElems.Trod_stays (sp' := sp) laidOutN (by kernel_rfl) (of_decide_eq_true (by kernel_rfl)) hk0k (fun x hx => hb.same (hlt0 x hx)) (fun x hx => hsp x (by simp [hx]))) trodAll_mk0
      rw [List.append_nil] at this
      exact this) (fun _ _ => rfl) (by simp)
    hb (ok_one (by kernel_rfl) rfl (okWide_bool_mk Tryd.underlying4 _))⟩

theorem laid_met (os : Os) : laidMet Tryd.prog Rows.printerLinesRow.laid ((laidWorld3 os).forCall (fun _ _ => 0) ⟨#[], #[.agg #[.int .u8 0, .int .i64 0, .string ⟨#[]⟩, .slice none 0 0]], []⟩).memory :=
  laidMet_of_run' 8 (by kernel_rfl) (by kernel_rfl)
theorem reads (os : Os) {H : Type} (enc : TypeId × Value → H) : ∃ places, DataW.whole enc Tryd.prog ((laidWorld3 os).forCall (fun _ _ => 0) ⟨#[], #[.agg #[.int .u8 0, .int .i64 0, .string ⟨#[]⟩, .slice none 0 0]], []⟩).memory Tryd.f3.params.toList Rows.printerLinesSpec.vars false #[Value.agg #[.int .u8 0, .int .i64 0, .string ⟨#[]⟩, .slice none 0 0]].toList 8 = some ([.agg [.lit (.int .u8 0), .lit (.int .i64 0), .lit (.string []), .nil]], [], places) :=
  ⟨[], by kernel_rfl⟩

set_option maxRecDepth 100000 in
theorem lifted (os : Os) (started : os.Started) (H : Type) (enc : TypeId × Value → H) (F : Stop.Interp) :
    ReturnsInHanded {} Tryd.checked os 3 .any ((OpenSpec.ofChange Rows.printerLinesSpec).preRow enc Tryd.prog Tryd.f3 Rows.printerLinesRow.domain false Rows.printerLinesRow.laid) (((OpenSpec.ofChange Rows.printerLinesSpec).at F).post enc Tryd.prog Tryd.f3 false true false false) := by
  obtain ⟨places, hx⟩ := reads os enc
  refine returnsInHanded_of_row (C := Tryd.checked) (s := OpenSpec.ofChange Rows.printerLinesSpec) own started (by kernel_rfl) Tryd.func3
    (witness_row_at (enc := enc) (C := Tryd.checked) false (laidWorld3 os) #[.agg #[.int .u8 0, .int .i64 0, .string ⟨#[]⟩, .slice none 0 0]] rfl (by kernel_rfl) (by kernel_rfl) (by kernel_rfl)
      (OpenSpec.preRow_of_cond 8 hx (by kernel_rfl) (fun k hk => by cases hk) (by kernel_rfl) (laid_met os))) ?_
  intro W base args ds gs before hval hW _ _ _ hL _ _
  exact contract H enc W base args ds gs before hval hW hL

theorem said : Rows.PrinterLinesSaid :=
  OpenClaim.holds_of_cond 3 Tryd.f3 rfl rfl rfl rfl rfl rfl rfl ⟨rfl, rfl, rfl, rfl, rfl⟩ rfl rfl rfl rfl rfl (by kernel_rfl) Tryd.func3 (by kernel_rfl)
    (of_decide_eq_true (by kernel_rfl)) (by unfold Func.isWrapper; first | (rw [if_pos (by decide +kernel)]; kernel_rfl) | (rw [if_neg (by decide +kernel)]; exact ⟨rfl, rfl⟩))
    (fun os started H enc _ F => by rw [OpenClaim.pre_eq_preRow]; exact lifted os started H enc F)

theorem plain (f : FuncId) (fn : Func) (hf : Tryd.pinned.checked.prog.funcNamed "ontime/ontimelaw14.PrinterLines" = some f) (hfn : Tryd.pinned.checked.prog.funcs[f]? = some fn) :
    false = Tryd.pinned.checked.prog.looks [] ∧ ∀ (j : Nat) t, fn.params[j]? = some t → Tryd.pinned.checked.prog.wantsStandIn t = false := by
  obtain rfl : f = 3 := Option.some.inj ((show Tryd.prog.funcNamed "ontime/ontimelaw14.PrinterLines" = some 3 by kernel_rfl).symm.trans hf) |>.symm
  obtain rfl : fn = Tryd.f3 := (Option.some.inj (Tryd.func3.symm.trans hfn)).symm
  refine ⟨by kernel_rfl, fun j t ht => ?_⟩
  rw [Tryd.params3] at ht
  obtain rfl : t = 24 := by simpa using Array.mem_of_getElem? ht
  exact (show Tryd.prog.wantsStandIn 24 = false by kernel_rfl)

theorem card : Rows.PrinterLinesCardSaid :=
  Claim7.holds_tied_plain_at .later [] _ _ _ _ said (fun _ h => by cases h) (by kernel_rfl) (fun _ h => by cases h) printerLines_row_tie rfl ⟨rfl, rfl⟩ (by kernel_rfl) rfl plain (by kernel_rfl)
end Go.Proofs.YtkeehpgnljieeaaDoor.printerLines
