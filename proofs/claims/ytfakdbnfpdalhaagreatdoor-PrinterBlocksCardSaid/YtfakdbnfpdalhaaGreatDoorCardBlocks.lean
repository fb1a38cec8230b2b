/- PrinterBlocks holds for every two trees: the parser reads the text of a block as that block, and the texts of two blocks are joined. Conditions: none but the tied tables (and, by the card, trees without a ring). -/
import Derived.Test.YtfakdbnfpdalhaaGreatDoorCards
import Derived.Test.YtfakdbnfpdalhaaGreatDoorTie
import Derived.Test.YtfakdbnfpdalhaaGreatDoorLaid3
import Derived.Test.YtfakdbnfpdalhaaGreatDoorLawBlocks
namespace Go.Proofs.YtfakdbnfpdalhaaGreatDoor.printerBlocks
open Go.ChangeShapes Go.WideShapes Go.ChangeAt Go.RowKit
open Go.WideMaps Go.WideElems
open Go.ChangeMaps (open_string shut_string)

set_option maxRecDepth 100000 in
theorem contract (H : Type) (enc : TypeId × Value → H) (W : World) (base : Nat) (args : Array Value) (ds gs : List (DataW H)) (before : List MemPlace)
    (hval : ∀ (j : Nat) t v, Tryz.f5.params[j]? = some t → args[j]? = some v → Value.okWide Tryz.prog W .any base t v)
    (hW : DataW.Whole enc Tryz.prog Tryz.f5.params.toList Rows.printerBlocksSpec.vars false W args.toList ds gs before) (hL : laidMetH Tryz.prog Rows.printerBlocksRow.laid W) :
    Calls Tryz.prog 5 args W fun e W' => ∃ v, e = .returned v ∧ Rows.printerBlocksSpec.post enc Tryz.prog Tryz.f5 false true false false W args v W' := by
  have hW' := hW
  obtain ⟨p, q, hA0, hV, rfl, hfz, hnd⟩ := hW
  have hA : DataW.TrodAll enc Tryz.prog W 0 (fun _ => true) true Tryz.f5.params.toList args.toList ds p := hA0
  rw [Tryz.params5] at hA hval
  obtain ⟨v0, vs0, d0, ds0, p0, q0, hargs, rfl, rfl, h0, r0⟩ := trodAll_cons hA
  obtain ⟨v1, vs1, d1, ds1, p1, q1, rfl, rfl, rfl, h1, r1⟩ := trodAll_cons r0
  obtain ⟨rfl, rfl, rfl⟩ := trodAll_nil r1
  obtain rfl : args = #[v0, v1] := by cases args; simp_all
  obtain ⟨rfl, rfl⟩ := trodVars_none hV
  have hk0k := h0
  obtain ⟨r0n, rfl, hks0, hbd0⟩ := open_arg (hval 0 36 v0 rfl rfl) h0
  have hk1k := h1
  obtain ⟨r1n, rfl, hks1, hbd1⟩ := open_arg (hval 1 36 v1 rfl rfl) h1
  clear hA0
  simp only [List.append_nil] at hW'
  have hlt0 : ∀ x ∈ p0, x.block < W.heap.size := fun x hx => by simpa using hW'.lt x (by simp [hx])
  have hlt1 : ∀ x ∈ p1, x.block < W.heap.size := fun x hx => by simpa using hW'.lt x (by simp [hx])
  refine (blocks14_walk  ⟨hks0, ops_of (show laidMet Tryz.prog Rows.printerBlocksRow.laid W from hL) (by simp [Rows.printerBlocksRow]), pow_of (show laidMet Tryz.prog Rows.printerBlocksRow.laid W from hL) (by simp [Rows.printerBlocksRow]), signs_of (show laidMet Tryz.prog Rows.printerBlocksRow.laid W from hL) (by simp [Rows.printerBlocksRow])⟩ hbd0 ⟨hks1, ops_of (show laidMet Tryz.prog Rows.printerBlocksRow.laid W from hL) (by simp [Rows.printerBlocksRow]), pow_of (show laidMet Tryz.prog Rows.printerBlocksRow.laid W from hL) (by simp [Rows.printerBlocksRow]), signs_of (show laidMet Tryz.prog Rows.printerBlocksRow.laid W from hL) (by simp [Rows.printerBlocksRow])⟩ hbd1 ).mono fun e W' ⟨he, hb⟩ => ?_
  subst he
  exact ⟨_, rfl, post_of_below (pa := p0 ++ p1) (pv := []) hW' (fun _ _ _ => trodAll_cons_mk (shut_bool Tryz.underlying4 _) trodAll_mk0)
    (fun sp hsp => by
      have := trodAll_cons_mk (WideElems.Trod_stays (sp' := sp) laidOutN (by kernel_rfl) (of_decide_eq_true (by kernel_rfl)) hk0k (fun x hx => hb.same (hlt0 x hx)) (fun x hx => hsp x (by simp [hx]))) (trodAll_cons_mk (WideElems.Trod_stays (sp' := sp) laidOutN (by kernel_rfl) (of_decide_eq_true (by kernel_rfl)) hk1k (fun x hx => hb.same (hlt1 x hx)) (fun x hx => hsp x (by simp [hx]))) trodAll_mk0)
      simp only [List.append_nil] at this
      exact this) (fun _ _ => rfl) (by simp)
    hb (ok_one (by kernel_rfl) rfl (okWide_bool_mk Tryz.underlying4 _))⟩

theorem laid_met (os : Os) : laidMet Tryz.prog Rows.printerBlocksRow.laid ((laidWorld3 os).forCall (fun _ _ => 0) ⟨#[], #[.agg #[.int .u8 0, .int .i64 0, .string ⟨#[]⟩, .slice none 0 0], .agg #[.int .u8 0, .int .i64 0, .string ⟨#[]⟩, .slice none 0 0]], []⟩).memory :=
  laidMet_of_run' 8 (by kernel_rfl) (by kernel_rfl)
theorem reads (os : Os) {H : Type} (enc : TypeId × Value → H) : ∃ places, DataW.whole enc Tryz.prog ((laidWorld3 os).forCall (fun _ _ => 0) ⟨#[], #[.agg #[.int .u8 0, .int .i64 0, .string ⟨#[]⟩, .slice none 0 0], .agg #[.int .u8 0, .int .i64 0, .string ⟨#[]⟩, .slice none 0 0]], []⟩).memory Tryz.f5.params.toList Rows.printerBlocksSpec.vars false #[Value.agg #[.int .u8 0, .int .i64 0, .string ⟨#[]⟩, .slice none 0 0], Value.agg #[.int .u8 0, .int .i64 0, .string ⟨#[]⟩, .slice none 0 0]].toList 8 = some ([.agg [.lit (.int .u8 0), .lit (.int .i64 0), .lit (.string []), .nil], .agg [.lit (.int .u8 0), .lit (.int .i64 0), .lit (.string []), .nil]], [], places) :=
  ⟨[], by kernel_rfl⟩

set_option maxRecDepth 100000 in
theorem lifted (os : Os) (started : os.Started) (H : Type) (enc : TypeId × Value → H) (F : Stop.Interp) :
    ReturnsInHanded {} Tryz.checked os 5 .any ((OpenSpec.ofChange Rows.printerBlocksSpec).preRow enc Tryz.prog Tryz.f5 Rows.printerBlocksRow.domain false Rows.printerBlocksRow.laid) (((OpenSpec.ofChange Rows.printerBlocksSpec).at F).post enc Tryz.prog Tryz.f5 false true false false) := by
  obtain ⟨places, hx⟩ := reads os enc
  refine returnsInHanded_of_row (C := Tryz.checked) (s := OpenSpec.ofChange Rows.printerBlocksSpec) own started (by kernel_rfl) Tryz.func5
    (witness_row_at (enc := enc) (C := Tryz.checked) false (laidWorld3 os) #[.agg #[.int .u8 0, .int .i64 0, .string ⟨#[]⟩, .slice none 0 0], .agg #[.int .u8 0, .int .i64 0, .string ⟨#[]⟩, .slice none 0 0]] rfl (by kernel_rfl) (by kernel_rfl) (by kernel_rfl)
      (OpenSpec.preRow_of_cond 8 hx (by kernel_rfl) (fun k hk => by cases hk) (by kernel_rfl) (laid_met os))) ?_
  intro W base args ds gs before hval hW _ _ _ hL _ _
  exact contract H enc W base args ds gs before hval hW hL

theorem said : Rows.PrinterBlocksSaid :=
  OpenClaim.holds_of_cond 5 Tryz.f5 rfl rfl rfl rfl rfl rfl rfl ⟨rfl, rfl, rfl, rfl, rfl⟩ rfl rfl rfl rfl rfl (by kernel_rfl) Tryz.func5 (by kernel_rfl)
    (of_decide_eq_true (by kernel_rfl)) (by unfold Func.isWrapper; first | (rw [if_pos (by decide +kernel)]; kernel_rfl) | (rw [if_neg (by decide +kernel)]; exact ⟨rfl, rfl⟩))
    (fun os started H enc _ F => by rw [OpenClaim.pre_eq_preRow]; exact lifted os started H enc F)

theorem plain (f : FuncId) (fn : Func) (hf : Tryz.pinned.checked.prog.funcNamed "ontime/ontimelaw14.PrinterBlocks" = some f) (hfn : Tryz.pinned.checked.prog.funcs[f]? = some fn) :
    false = Tryz.pinned.checked.prog.looks [] ∧ ∀ (j : Nat) t, fn.params[j]? = some t → Tryz.pinned.checked.prog.wantsStandIn t = false := by
  obtain rfl : f = 5 := Option.some.inj ((show Tryz.prog.funcNamed "ontime/ontimelaw14.PrinterBlocks" = some 5 by kernel_rfl).symm.trans hf) |>.symm
  obtain rfl : fn = Tryz.f5 := (Option.some.inj (Tryz.func5.symm.trans hfn)).symm
  refine ⟨by kernel_rfl, fun j t ht => ?_⟩
  rw [Tryz.params5] at ht
  obtain rfl : t = 36 := by simpa using Array.mem_of_getElem? ht
  exact (show Tryz.prog.wantsStandIn 36 = false by kernel_rfl)

theorem card : Rows.PrinterBlocksCardSaid :=
  Claim7.holds_tied_plain_at .later [] _ _ _ _ said (fun _ h => by cases h) (by kernel_rfl) (fun _ h => by cases h) printerBlocks_row_tie rfl ⟨rfl, rfl⟩ (by kernel_rfl) rfl plain (by kernel_rfl)
end Go.Proofs.YtfakdbnfpdalhaaGreatDoor.printerBlocks
