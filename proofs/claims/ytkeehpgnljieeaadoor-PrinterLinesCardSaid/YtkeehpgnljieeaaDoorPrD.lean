/- The contract of the printer's expression at a binary operator. -/
import Derived.Test.YtkeehpgnljieeaaDoorPrC
import Derived.Deep.DeepCutAuto
import Derived.StillTailTactics
namespace Go.Proofs.YtkeehpgnljieeaaDoor
open Go.RowKit
open PP (Tree)
theorem skip_if {c : Bool} {A B : Prop} (hc : c = false) (h : B) : if c = true then A else B := by
  rw [if_neg (by rw [hc]; decide)]; exact h
theorem quiet_flip {P : Program} {f : FuncId} {args : Array Value} {w : World} {v : Value} (h : Calls P f args w fun e w' => e = .returned v ∧ w = w') : Calls P f args w fun e w'' => e = .returned v ∧ w'' = w :=
  h.mono fun _ _ ⟨h1, h2⟩ => ⟨h1, h2.symm⟩
section
variable {B b : Nat}
set_option maxHeartbeats 8000000
set_option maxRecDepth 100000
theorem expr_bin {k : Nat} {a d : Tree} (h1 : 6 ≤ k) (h2 : k ≤ 23) (hEa : ExprOk B b a) (hEd : ExprOk B b d) (hka : a.kind ≤ 255) (hkd : d.kind ≤ 255) : ExprOk B b (.node k 0 [] [a, d]) := by
  intro w0 W bs i bl k0 num' nm A c kids ht hk h hl
  injection ht with e1 e2 e3 e4
  subst e1 e2 e3 e4
  have hP : PP.prE (.node k 0 [] [a, d]) = PP.wrapP (PP.bin a.kind && decide (PP.level a.kind < PP.level k)) (PP.prE a) ++ [32] ++ PP.symbol k ++ [32] ++ PP.wrapP (PP.bin d.kind && decide (PP.level d.kind ≤ PP.level k)) (PP.prE d) := by simp [PP.prE]
  rw [hP] at hl ⊢
  obtain ⟨g, o, k1, num1, nm1, A1, c1, ks1, k2, num2, nm2, A2, c2, ks2, rfl, rfl, K1, rfl, K2⟩ := hk.two
  change bs.length + (PP.wrapP (PP.bin k1 && decide (PP.level k1 < PP.level k)) (PP.prE (.node k1 num1 nm1 ks1)) ++ [32] ++ PP.symbol k ++ [32] ++ PP.wrapP (PP.bin k2 && decide (PP.level k2 ≤ PP.level k)) (PP.prE (.node k2 num2 nm2 ks2))).length ≤ _ at hl
  simp only [List.length_append, List.length_cons, List.length_nil] at hl
  have HEa := Lib.hid hEa
  have HEd := Lib.hid hEd
  have HK1 := Lib.hid K1
  have HK2 := Lib.hid K2
  have hgB := K1.lt
  have hk_k1 : k1 ≤ 255 := hka
  have hk_k2 : k2 ≤ 255 := hkd
  clear hka hkd
  have hi := h.alloc #[.int .u8 (k : Int), .int .i64 0, .string ⟨#[]⟩, .slice (some ⟨g, o, none⟩) 2 c] 24 (by decide) rfl
  have hbin := printer_binary k (W.alloc (.cells #[.int .u8 (k : Int), .int .i64 0, .string ⟨#[]⟩, .slice (some ⟨g, o, none⟩) 2 c] 24)) (by omega)
  rw [show PP.bin k = true from by simp [PP.bin]; omega] at hbin
  have HB := Lib.hid hbin
  have HL := Lib.hid (level_any k (W.alloc (.cells #[.int .u8 (k : Int), .int .i64 0, .string ⟨#[]⟩, .slice (some ⟨g, o, none⟩) 2 c] 24)) hi.ops' (by omega))
  have n1 : ((k : Int) == 1) = false := by simp; omega
  have n2 : ((k : Int) == 2) = false := by simp; omega
  have n3 : ((k : Int) == 3) = false := by simp; omega
  have n4 : ((k : Int) == 4) = false := by simp; omega
  have n5 : ((k : Int) == 5) = false := by simp; omega
  have HI := Lib.hid hi
  have y1 := (K1.below hi.be).c0
  have y2 := (K1.below hi.be).c1
  have y3 := (K1.below hi.be).c2
  have y4 := (K1.below hi.be).c3
  have z1 := (K2.below hi.be).c0
  have z2 := (K2.below hi.be).c1
  have z3 := (K2.below hi.be).c2
  have z4 := (K2.below hi.be).c3
  have hg : g < (W.alloc (.cells #[.int .u8 (k : Int), .int .i64 0, .string ⟨#[]⟩, .slice (some ⟨g, o, none⟩) 2 c] 24)).heap.size := Nat.lt_of_lt_of_le hgB hi.size
  clear hP hk hEa hEd K1 K2 h hi hbin
  go_enter Tryd.func22, Tryd.ntmps22
  go_upto_region 15 with (first | (go_at_call 37; refine HB.out.mono ?_; rintro e w' ⟨rfl, rfl⟩) | (go_at_call 38; refine HL.out.mono ?_; rintro e w' ⟨rfl, rfl⟩))
  have x3 := HI.out.b0.four.1.2.2.2
  generalize W.alloc (.cells #[.int .u8 (k : Int), .int .i64 0, .string ⟨#[]⟩, .slice (some ⟨g, o, none⟩) 2 c] 24) = w6 at *
  have hlt := HI.out.b0.lt
  have HqA := Lib.hid (((HI.out.alloc #[.int .u8 (k1 : Int), .int .i64 num1, .string ⟨nm1.toArray⟩, .slice A1 ks1.length c1] 24 (by decide) rfl).alloc #[.int .u8 (k2 : Int), .int .i64 num2, .string ⟨nm2.toArray⟩, .slice A2 ks2.length c2] 24 (by decide) (n := w6.heap.size + 1) (by simp)).swap.drew)
  have HqB := Lib.hid (((HI.out.alloc #[.int .u8 (k2 : Int), .int .i64 num2, .string ⟨nm2.toArray⟩, .slice A2 ks2.length c2] 24 (by decide) rfl).alloc #[.int .u8 (k1 : Int), .int .i64 num1, .string ⟨nm1.toArray⟩, .slice A1 ks1.length c1] 24 (by decide) (n := w6.heap.size + 1) (by simp)).drew)
  go_cut [5, 6] (fun s5 s6 wx => ∃ L R : Nat, s5 = .pointer (some ⟨L, 0, none⟩) ∧ s6 = .pointer (some ⟨R, 0, none⟩) ∧ PInv w0 B b bs i ((L, 24, #[.int .u8 (k1 : Int), .int .i64 num1, .string ⟨nm1.toArray⟩, .slice A1 ks1.length c1]) :: (R, 24, #[.int .u8 (k2 : Int), .int .i64 num2, .string ⟨nm2.toArray⟩, .slice A2 ks2.length c2]) :: (W.heap.size, 24, #[.int .u8 (k : Int), .int .i64 0, .string ⟨#[]⟩, .slice (some ⟨g, o, none⟩) 2 c]) :: bl) wx)
  case first =>
    go_region
    all_goals (go_wp2_with fail; go_meet; first | exact ⟨_, _, rfl, rfl, HqA.out⟩ | exact ⟨_, _, rfl, rfl, HqB.out⟩)
  case rest =>
    obtain ⟨L, R, rfl, rfl, hq⟩ := hcut
    clear HqA HqB HI HB HL y1 y2 y3 y4 z1 z2 z3 z4 x3 hg hlt
    have Hq := Lib.hid hq
    clear hq
    go_upto_region 16 with fail
    go_cut [4] (fun s4 wx => s4 = .int .i64 (PP.level k : Int) ∧ PInv w0 B b (bs ++ PP.wrapP (PP.bin k1 && decide (PP.level k1 < PP.level k)) (PP.prE (.node k1 num1 nm1 ks1))) i ((L, 24, #[.int .u8 (k1 : Int), .int .i64 num1, .string ⟨nm1.toArray⟩, .slice A1 ks1.length c1]) :: (R, 24, #[.int .u8 (k2 : Int), .int .i64 num2, .string ⟨nm2.toArray⟩, .slice A2 ks2.length c2]) :: (W.heap.size, 24, #[.int .u8 (k : Int), .int .i64 0, .string ⟨#[]⟩, .slice (some ⟨g, o, none⟩) 2 c]) :: bl) wx)
    case first =>
      have hq := Hq.out
      clear Hq
      generalize wc = wq at *
      cases hbl : PP.bin k1 with
      | true =>
        have X := Lib.hid hq.b0.four.1
        have Xd := Lib.hid hq.drew.b0.four.1
        have hbi := printer_binary k1 wq.drew hk_k1
        rw [hbl] at hbi
        have HBI := Lib.hid hbi
        have HLV := Lib.hid (level_any k1 wq.drew hq.drew.ops' hk_k1)
        rw [hbl, Bool.true_and] at hl
        have HO := Lib.hid (operand_of (c := c1) HEa.out (decide (PP.level k1 < PP.level k)) rfl HK1.out.ks hq.drew (by omega))
        clear hbi hq
        refine wp_region_still_tail 12 (by kernel_rfl) (by kernel_rfl) ?_
        show wpStill _ _ wq.drew (fun a' => wpList _ _ _ _ a' wq.drew) _ _
        obtain ⟨x0, x1, x2, x3⟩ := Xd.out
        generalize wq.drew = wd at *
        simp only [List.take_succ_cons, List.take_zero, List.drop_succ_cons, List.drop_zero]
        iterate 4 still_step
        still_call (quiet_flip HBI.out)
        still_step
        iterate 2 still_step
        still_call (quiet_flip HLV.out)
        iterate 3 still_step
        refine wpStill_nil ?_
        clear x0 x1 x2 x3
        go_wp2_with fail
        refine HO.out.mono ?_
        rintro e wl ⟨rfl, hpl⟩
        clear X Xd HBI HLV HO
        go_wp2_with fail
        go_meet
        first | exact ⟨rfl, hpl⟩ | exact ⟨rfl, by rw [hbl]; exact hpl⟩ | exact ⟨rfl, by simpa [hbl] using hpl⟩
      | false =>
        have X := Lib.hid hq.b0.four.1
        have Xd := Lib.hid hq.drew.b0.four.1
        have hbi := printer_binary k1 wq.drew hk_k1
        have HBI := Lib.hid hbi
        have HLV := Lib.hid (level_any k1 wq.drew hq.drew.ops' hk_k1)
        rw [hbl, Bool.false_and] at hl
        have HO := Lib.hid (operand_of (c := c1) HEa.out false rfl HK1.out.ks hq.drew (by omega))
        clear hbi hq
        have HBF := Lib.hid hbl
        clear hbl
        refine wp_region_still_tail 12 (by kernel_rfl) (by kernel_rfl) ?_
        show wpStill _ _ wq.drew (fun a' => wpList _ _ _ _ a' wq.drew) _ _
        obtain ⟨x0, x1, x2, x3⟩ := Xd.out
        generalize wq.drew = wd at *
        simp only [List.take_succ_cons, List.take_zero, List.drop_succ_cons, List.drop_zero]
        iterate 4 still_step
        still_call (quiet_flip HBI.out)
        still_step
        iterate 5 (refine wpStill_step (fun K hK => ?_); refine skip_if (by rw [HBF.out]; kernel_rfl) ?_; simp only [Act.put, List.setIfInBounds_toArray, List.set_cons_zero, List.set_cons_succ]; refine hK _ ?_; clear hK K)
        rw [HBF.out]
        still_step
        refine wpStill_nil ?_
        clear x0 x1 x2 x3
        go_wp2_with fail
        refine HO.out.mono ?_
        rintro e wl ⟨rfl, hpl⟩
        have hbl := HBF.out
        clear X Xd HBI HLV HO
        go_wp2_with fail
        go_meet
        first | exact ⟨rfl, hpl⟩ | exact ⟨rfl, by rw [hbl]; exact hpl⟩ | exact ⟨rfl, by simpa [hbl] using hpl⟩
    case rest =>
      obtain ⟨rfl, hpl⟩ := hcut
      generalize hTA : PP.wrapP (PP.bin k1 && decide (PP.level k1 < PP.level k)) (PP.prE (.node k1 num1 nm1 ks1)) = TA at *
      have HTA := Lib.hid hTA
      clear hTA
      have HS := Lib.hid (wByte 32 32 rfl hpl (by simp only [List.length_append]; omega))
      clear hpl Hq
      go_wp2_with fail
      refine HS.out.mono ?_
      rintro e wt ⟨rfl, hpt⟩
      have Y := Lib.hid hpt.b2.four.1.1
      have Yd := Lib.hid hpt.drew.b2.four.1.1
      have HSY := Lib.hid (symbol_any k wt.drew hpt.drew.ops' (by omega))
      have HW := Lib.hid (wStr (PP.symbol k) hpt.drew (by simp only [List.length_append, List.length_cons, List.length_nil]; omega))
      clear hpt HS
      go_wp2_with fail
      go_region_held3 (fun V => V.cell? ⟨W.heap.size, 0, none⟩ = some (.int .u8 (k : Int)))
        (with_reducible first | exact Y.out | exact Yd.out | exact hpu.b2.four.1.1)
        (first | (go_at_call 35; refine HSY.out.mono ?_; rintro e w7 ⟨rfl, rfl⟩) | (go_at_call 33; (with_reducible refine HW.out.mono ?_); rintro e wu ⟨⟨v, rfl⟩, hpu⟩))
      have HS2 := Lib.hid (wByte 32 32 rfl hpu (by simp only [List.length_append, List.length_cons, List.length_nil]; omega))
      clear hpu Y Yd HSY HW
      go_wp2_with fail
      refine HS2.out.mono ?_
      rintro e wq ⟨rfl, hq⟩
      clear HS2
      go_wp2_with fail
      cases hbl : PP.bin k2 with
      | true =>
        have X := Lib.hid hq.b1.four.1
        have Xd := Lib.hid hq.drew.b1.four.1
        have hbi := printer_binary k2 wq.drew hk_k2
        rw [hbl] at hbi
        have HBI := Lib.hid hbi
        have HLV := Lib.hid (level_any k2 wq.drew hq.drew.ops' hk_k2)
        rw [hbl, Bool.true_and] at hl
        have HO := Lib.hid (operand_of (c := c2) HEd.out (decide (PP.level k2 ≤ PP.level k)) rfl HK2.out.ks hq.drew (by simp only [List.length_append, List.length_cons, List.length_nil]; omega))
        clear hbi hq
        refine wp_region_still_tail 12 (by kernel_rfl) (by kernel_rfl) ?_
        show wpStill _ _ wq.drew (fun a' => wpList _ _ _ _ a' wq.drew) _ _
        obtain ⟨x0, x1, x2, x3⟩ := Xd.out
        generalize wq.drew = wd at *
        simp only [List.take_succ_cons, List.take_zero, List.drop_succ_cons, List.drop_zero]
        iterate 4 still_step
        still_call (quiet_flip HBI.out)
        still_step
        iterate 2 still_step
        still_call (quiet_flip HLV.out)
        iterate 3 still_step
        refine wpStill_nil ?_
        clear x0 x1 x2 x3
        go_wp2_with fail
        refine HO.out.mono ?_
        rintro e wl ⟨rfl, hpl⟩
        have HP := Lib.hid hpl
        have HBL := Lib.hid hbl
        clear hpl hbl HBI HLV HO X Xd
        go_wp2_with fail
        go_end0
        exact ⟨rfl, by
          have := HP.out.drop.drop.drop
          show PInv w0 B b (bs ++ (PP.wrapP (PP.bin k1 && decide (PP.level k1 < PP.level k)) (PP.prE (.node k1 num1 nm1 ks1)) ++ [32] ++ PP.symbol k ++ [32] ++ PP.wrapP (PP.bin k2 && decide (PP.level k2 ≤ PP.level k)) (PP.prE (.node k2 num2 nm2 ks2)))) i bl _
          rw [HTA.out, HBL.out]
          simpa using this⟩
      | false =>
        have X := Lib.hid hq.b1.four.1
        have Xd := Lib.hid hq.drew.b1.four.1
        have hbi := printer_binary k2 wq.drew hk_k2
        have HBI := Lib.hid hbi
        have HLV := Lib.hid (level_any k2 wq.drew hq.drew.ops' hk_k2)
        rw [hbl, Bool.false_and] at hl
        have HO := Lib.hid (operand_of (c := c2) HEd.out false rfl HK2.out.ks hq.drew (by simp only [List.length_append, List.length_cons, List.length_nil]; omega))
        clear hbi hq
        have HBF := Lib.hid hbl
        clear hbl
        refine wp_region_still_tail 12 (by kernel_rfl) (by kernel_rfl) ?_
        show wpStill _ _ wq.drew (fun a' => wpList _ _ _ _ a' wq.drew) _ _
        obtain ⟨x0, x1, x2, x3⟩ := Xd.out
        generalize wq.drew = wd at *
        simp only [List.take_succ_cons, List.take_zero, List.drop_succ_cons, List.drop_zero]
        iterate 4 still_step
        still_call (quiet_flip HBI.out)
        still_step
        iterate 5 (refine wpStill_step (fun K hK => ?_); refine skip_if (by rw [HBF.out]; kernel_rfl) ?_; simp only [Act.put, List.setIfInBounds_toArray, List.set_cons_zero, List.set_cons_succ]; refine hK _ ?_; clear hK K)
        rw [HBF.out]
        still_step
        refine wpStill_nil ?_
        clear x0 x1 x2 x3
        go_wp2_with fail
        refine HO.out.mono ?_
        rintro e wl ⟨rfl, hpl⟩
        have hbl := HBF.out
        have HP := Lib.hid hpl
        have HBL := Lib.hid hbl
        clear hpl hbl HBI HLV HO X Xd
        go_wp2_with fail
        go_end0
        exact ⟨rfl, by
          have := HP.out.drop.drop.drop
          show PInv w0 B b (bs ++ (PP.wrapP (PP.bin k1 && decide (PP.level k1 < PP.level k)) (PP.prE (.node k1 num1 nm1 ks1)) ++ [32] ++ PP.symbol k ++ [32] ++ PP.wrapP (PP.bin k2 && decide (PP.level k2 ≤ PP.level k)) (PP.prE (.node k2 num2 nm2 ks2)))) i bl _
          rw [HTA.out, HBL.out]
          simpa using this⟩
end
end Go.Proofs.YtkeehpgnljieeaaDoor
