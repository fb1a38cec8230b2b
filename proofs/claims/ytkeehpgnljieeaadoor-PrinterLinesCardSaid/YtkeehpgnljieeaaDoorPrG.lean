/- The contract of the printer's statement, case by case (printed by genprs.py). -/
import Derived.Test.YtkeehpgnljieeaaDoorPrF
import Derived.Deep.DeepCutAuto
namespace Go.Proofs.YtkeehpgnljieeaaDoor
open Go.RowKit
open PP (Tree)
section
variable {B b : Nat}
set_option maxHeartbeats 4000000
set_option maxRecDepth 100000
theorem prstmt_assign {a1 : Tree} {a2 : Tree} (hE1 : PP.okT a1 101 = true) (hs1 : a1.size ≤ 1000000) (hE2 : PP.okT a2 101 = true) (hs2 : a2.size ≤ 1000000) : PrStmtOk B b (.node 40 0 [] [a1, a2]) := by
  intro w0 W bs ind bl k0 num0 nm0 A c kids ht hk h hd hl
  injection ht with e1 e2 e3 e4
  subst e1 e2 e3 e4
  have hP : PP.prS (.node 40 0 [] [a1, a2]) ind = PP.lineP ind [PP.prE a1, PP.sEq, PP.prE a2, PP.sSemi] := by simp [PP.prS]
  rw [hP] at hl ⊢
  clear hP
  obtain ⟨g, o, k1, num1, nm1, A1, c1, ks1, k2, num2, nm2, A2, c2, ks2, rfl, ha1, K1, ha2, K2⟩ := hk.two
  simp only [PP.Tree.depth, PP.depthL] at hd
  have HK1 := Lib.hid K1
  have HA1 := Lib.hid ha1
  have HK2 := Lib.hid K2
  have HA2 := Lib.hid ha2
  have hgB := K1.lt
  have hi := h.alloc #[.int .u8 40, .int .i64 0, .string ⟨#[]⟩, .slice (some ⟨g, o, none⟩) 2 c] 24 (by decide) rfl
  clear hk h K1 ha1 K2 ha2
  go_enter Tryd.func14, Tryd.ntmps14
  go_wp2_with fail
  generalize W.alloc (.cells #[.int .u8 40, .int .i64 0, .string ⟨#[]⟩, .slice (some ⟨g, o, none⟩) 2 c] 24) = w6 at *
  have hP := hi.drew
  go_region_held3 (fun V => V.cell? ⟨W.heap.size, 3, none⟩ = some (.slice (some ⟨g, o, none⟩) 2 c) ∧ V.cell? ⟨g, o, none⟩ = some (.int .u8 (k1 : Int)) ∧ V.cell? ⟨g, o + 1, none⟩ = some (.int .i64 num1) ∧ V.cell? ⟨g, o + 2, none⟩ = some (.string ⟨nm1.toArray⟩) ∧ V.cell? ⟨g, o + 3, none⟩ = some (.slice A1 ks1.length c1) ∧ V.cell? ⟨g, o + 4, none⟩ = some (.int .u8 (k2 : Int)) ∧ V.cell? ⟨g, o + 4 + 1, none⟩ = some (.int .i64 num2) ∧ V.cell? ⟨g, o + 4 + 2, none⟩ = some (.string ⟨nm2.toArray⟩) ∧ V.cell? ⟨g, o + 4 + 3, none⟩ = some (.slice A2 ks2.length c2))
    (with_reducible first | exact ⟨hi.b0.four.1.2.2.2, (HK1.out.below hi.be).c0, (HK1.out.below hi.be).c1, (HK1.out.below hi.be).c2, (HK1.out.below hi.be).c3, (HK2.out.below hi.be).c0, (HK2.out.below hi.be).c1, (HK2.out.below hi.be).c2, (HK2.out.below hi.be).c3⟩ | exact ⟨hP.b0.four.1.2.2.2, (HK1.out.below hP.be).c0, (HK1.out.below hP.be).c1, (HK1.out.below hP.be).c2, (HK1.out.below hP.be).c3, (HK2.out.below hP.be).c0, (HK2.out.below hP.be).c1, (HK2.out.below hP.be).c2, (HK2.out.below hP.be).c3⟩ | exact ⟨(hP.more _).b0.four.1.2.2.2, (HK1.out.below (hP.more _).be).c0, (HK1.out.below (hP.more _).be).c1, (HK1.out.below (hP.more _).be).c2, (HK1.out.below (hP.more _).be).c3, (HK2.out.below (hP.more _).be).c0, (HK2.out.below (hP.more _).be).c1, (HK2.out.below (hP.more _).be).c2, (HK2.out.below (hP.more _).be).c3⟩ | exact ⟨hQ.b0.four.1.2.2.2, (HK1.out.below hQ.be).c0, (HK1.out.below hQ.be).c1, (HK1.out.below hQ.be).c2, (HK1.out.below hQ.be).c3, (HK2.out.below hQ.be).c0, (HK2.out.below hQ.be).c1, (HK2.out.below hQ.be).c2, (HK2.out.below hQ.be).c3⟩)
    (first | (go_at_call 30; (with_reducible refine (text_any (c := c1) hE1 HA1.out (HK1.out.below hP.be).ks hP.size hP.ops' hP.pow' hs1).mono ?_); rintro e w7 ⟨rfl, hb7⟩; replace hP := hP.below hb7; clear hb7) | (go_at_call 30; (with_reducible refine (text_any (c := c2) hE2 HA2.out (HK2.out.below hP.be).ks hP.size hP.ops' hP.pow' hs2).mono ?_); rintro e w7 ⟨rfl, hb7⟩; replace hP := hP.below hb7; clear hb7) | (go_at_call 29; refine (line_any [PP.prE a1, PP.sEq, PP.prE a2, PP.sSemi] ind (c := 4) rfl (hP.alloc (strVals [PP.prE a1, PP.sEq, PP.prE a2, PP.sSemi]) 9 (by decide) rfl) (by omega) (by simp) (by omega)).mono ?_; rintro e w9 ⟨rfl, hQ⟩; replace hQ := hQ.drop))
  all_goals
    have HP := Lib.hid hQ
    clear hQ hP hi
    go_wp2_with fail
    go_end0
    exact ⟨rfl, HP.out.drop⟩
theorem prstmt_for {a1 : Tree} {num : Int} (hn0 : 0 ≤ num) (hn1 : num ≤ 2147483647) {nm : List UInt8} (hB1 : PrBlockOk B b a1) : PrStmtOk B b (.node 42 num nm [a1]) := by
  intro w0 W bs ind bl k0 num0 nm0 A c kids ht hk h hd hl
  injection ht with e1 e2 e3 e4
  subst e1 e2 e3 e4
  have hP : PP.prS (.node 42 num nm [a1]) ind = PP.lineP ind [PP.sFor, nm, PP.sLt, PP.dec num.toNat, PP.sOb] ++ PP.prB a1 (ind + 1) ++ PP.lineP ind [PP.sCb] := by simp [PP.prS]
  rw [hP] at hl ⊢
  clear hP
  obtain ⟨g, o, k1, num1, nm1, A1, c1, ks1, rfl, ha1, K1⟩ := hk.one
  simp only [PP.Tree.depth, PP.depthL] at hd
  simp only [List.length_append] at hl
  have HK1 := Lib.hid K1
  have HA1 := Lib.hid ha1
  have hgB := K1.lt
  have hi := h.alloc #[.int .u8 42, .int .i64 num, .string ⟨nm.toArray⟩, .slice (some ⟨g, o, none⟩) 1 c] 24 (by decide) rfl
  clear hk h K1 ha1
  go_enter Tryd.func14, Tryd.ntmps14
  go_wp2_with fail
  generalize W.alloc (.cells #[.int .u8 42, .int .i64 num, .string ⟨nm.toArray⟩, .slice (some ⟨g, o, none⟩) 1 c] 24) = w6 at *
  have hP := hi.drew
  go_region_held3 (fun V => V.cell? ⟨W.heap.size, 1, none⟩ = some (.int .i64 num) ∧ V.cell? ⟨W.heap.size, 2, none⟩ = some (.string ⟨nm.toArray⟩))
    (with_reducible first | exact ⟨hi.b0.four.1.2.1, hi.b0.four.1.2.2.1⟩ | exact ⟨hP.b0.four.1.2.1, hP.b0.four.1.2.2.1⟩ | exact ⟨(hP.more _).b0.four.1.2.1, (hP.more _).b0.four.1.2.2.1⟩ | exact ⟨hQ.b0.four.1.2.1, hQ.b0.four.1.2.2.1⟩)
    (first | (go_at_call 32; (with_reducible refine (itoa_any num hn0 hn1 _ hP.pow').mono ?_); rintro e w7 ⟨rfl, hb7⟩; replace hP := hP.below hb7; clear hb7) | (go_at_call 29; refine (line_any [PP.sFor, nm, PP.sLt, PP.dec num.toNat, PP.sOb] ind (c := 5) rfl (hP.alloc (strVals [PP.sFor, nm, PP.sLt, PP.dec num.toNat, PP.sOb]) 9 (by decide) rfl) (by omega) (by simp) (by omega)).mono ?_; rintro e w9 ⟨rfl, hQ⟩; replace hQ := hQ.drop))
  all_goals
    clear hP hi
    have x3 := hQ.b0.four.1.2.2.2
    have y0 := (HK1.out.below hQ.be).c0
    have y1 := (HK1.out.below hQ.be).c1
    have y2 := (HK1.out.below hQ.be).c2
    have y3 := (HK1.out.below hQ.be).c3
    have hg : g < _ := Nat.lt_of_lt_of_le hgB hQ.size
    have HC := Lib.hid (hB1 w0 _ _ ind _ _ _ _ _ c1 _ HA1.out HK1.out.ks hQ (by omega) (by simp only [List.length_append]; omega))
    clear hQ
    go_wp2_with fail
    refine HC.out.mono ?_
    rintro e wb1 ⟨rfl, hpb1⟩
    clear HC x3 y0 y1 y2 y3 hg
    have HC := Lib.hid (line_any [PP.sCb] ind (c := 1) rfl (hpb1.alloc (strVals [PP.sCb]) 9 (by decide) rfl) (by omega) (by simp) (by simp only [List.length_append]; omega))
    clear hpb1
    go_wp2_with fail
    refine HC.out.mono ?_
    rintro e wl2 ⟨rfl, hpl2⟩
    replace hpl2 := hpl2.drop
    clear HC
    have HP := Lib.hid hpl2
    clear hpl2
    go_wp2_with fail
    go_end0
    exact ⟨rfl, by have := HP.out.drop; simpa using this⟩
theorem prstmt_while {a1 : Tree} {a2 : Tree} {num : Int} (hn0 : 0 ≤ num) (hn1 : num ≤ 2147483647) (hE1 : PP.okT a1 101 = true) (hs1 : a1.size ≤ 1000000) (hB2 : PrBlockOk B b a2) : PrStmtOk B b (.node 43 num [] [a1, a2]) := by
  intro w0 W bs ind bl k0 num0 nm0 A c kids ht hk h hd hl
  injection ht with e1 e2 e3 e4
  subst e1 e2 e3 e4
  have hP : PP.prS (.node 43 num [] [a1, a2]) ind = PP.lineP ind [PP.sWhile, PP.prE a1, PP.sBound, PP.dec num.toNat, PP.sOb] ++ PP.prB a2 (ind + 1) ++ PP.lineP ind [PP.sCb] := by simp [PP.prS]
  rw [hP] at hl ⊢
  clear hP
  obtain ⟨g, o, k1, num1, nm1, A1, c1, ks1, k2, num2, nm2, A2, c2, ks2, rfl, ha1, K1, ha2, K2⟩ := hk.two
  simp only [PP.Tree.depth, PP.depthL] at hd
  simp only [List.length_append] at hl
  have HK1 := Lib.hid K1
  have HA1 := Lib.hid ha1
  have HK2 := Lib.hid K2
  have HA2 := Lib.hid ha2
  have hgB := K1.lt
  have hi := h.alloc #[.int .u8 43, .int .i64 num, .string ⟨#[]⟩, .slice (some ⟨g, o, none⟩) 2 c] 24 (by decide) rfl
  clear hk h K1 ha1 K2 ha2
  go_enter Tryd.func14, Tryd.ntmps14
  go_wp2_with fail
  generalize W.alloc (.cells #[.int .u8 43, .int .i64 num, .string ⟨#[]⟩, .slice (some ⟨g, o, none⟩) 2 c] 24) = w6 at *
  have hP := hi.drew
  go_region_held3 (fun V => V.cell? ⟨W.heap.size, 3, none⟩ = some (.slice (some ⟨g, o, none⟩) 2 c) ∧ V.cell? ⟨W.heap.size, 1, none⟩ = some (.int .i64 num) ∧ V.cell? ⟨g, o, none⟩ = some (.int .u8 (k1 : Int)) ∧ V.cell? ⟨g, o + 1, none⟩ = some (.int .i64 num1) ∧ V.cell? ⟨g, o + 2, none⟩ = some (.string ⟨nm1.toArray⟩) ∧ V.cell? ⟨g, o + 3, none⟩ = some (.slice A1 ks1.length c1))
    (with_reducible first | exact ⟨hi.b0.four.1.2.2.2, hi.b0.four.1.2.1, (HK1.out.below hi.be).c0, (HK1.out.below hi.be).c1, (HK1.out.below hi.be).c2, (HK1.out.below hi.be).c3⟩ | exact ⟨hP.b0.four.1.2.2.2, hP.b0.four.1.2.1, (HK1.out.below hP.be).c0, (HK1.out.below hP.be).c1, (HK1.out.below hP.be).c2, (HK1.out.below hP.be).c3⟩ | exact ⟨(hP.more _).b0.four.1.2.2.2, (hP.more _).b0.four.1.2.1, (HK1.out.below (hP.more _).be).c0, (HK1.out.below (hP.more _).be).c1, (HK1.out.below (hP.more _).be).c2, (HK1.out.below (hP.more _).be).c3⟩ | exact ⟨hQ.b0.four.1.2.2.2, hQ.b0.four.1.2.1, (HK1.out.below hQ.be).c0, (HK1.out.below hQ.be).c1, (HK1.out.below hQ.be).c2, (HK1.out.below hQ.be).c3⟩)
    (first | (go_at_call 30; (with_reducible refine (text_any (c := c1) hE1 HA1.out (HK1.out.below hP.be).ks hP.size hP.ops' hP.pow' hs1).mono ?_); rintro e w7 ⟨rfl, hb7⟩; replace hP := hP.below hb7; clear hb7) | (go_at_call 32; (with_reducible refine (itoa_any num hn0 hn1 _ hP.pow').mono ?_); rintro e w7 ⟨rfl, hb7⟩; replace hP := hP.below hb7; clear hb7) | (go_at_call 29; refine (line_any [PP.sWhile, PP.prE a1, PP.sBound, PP.dec num.toNat, PP.sOb] ind (c := 5) rfl (hP.alloc (strVals [PP.sWhile, PP.prE a1, PP.sBound, PP.dec num.toNat, PP.sOb]) 9 (by decide) rfl) (by omega) (by simp) (by omega)).mono ?_; rintro e w9 ⟨rfl, hQ⟩; replace hQ := hQ.drop))
  all_goals
    clear hP hi
    have x3 := hQ.b0.four.1.2.2.2
    have y0 := (HK2.out.below hQ.be).c0
    have y1 := (HK2.out.below hQ.be).c1
    have y2 := (HK2.out.below hQ.be).c2
    have y3 := (HK2.out.below hQ.be).c3
    have hg : g < _ := Nat.lt_of_lt_of_le hgB hQ.size
    have HC := Lib.hid (hB2 w0 _ _ ind _ _ _ _ _ c2 _ HA2.out HK2.out.ks hQ (by omega) (by simp only [List.length_append]; omega))
    clear hQ
    go_wp2_with fail
    refine HC.out.mono ?_
    rintro e wb1 ⟨rfl, hpb1⟩
    clear HC x3 y0 y1 y2 y3 hg
    have HC := Lib.hid (line_any [PP.sCb] ind (c := 1) rfl (hpb1.alloc (strVals [PP.sCb]) 9 (by decide) rfl) (by omega) (by simp) (by simp only [List.length_append]; omega))
    clear hpb1
    go_wp2_with fail
    refine HC.out.mono ?_
    rintro e wl2 ⟨rfl, hpl2⟩
    replace hpl2 := hpl2.drop
    clear HC
    have HP := Lib.hid hpl2
    clear hpl2
    go_wp2_with fail
    go_end0
    exact ⟨rfl, by have := HP.out.drop; simpa using this⟩
theorem prstmt_in {a1 : Tree} {num : Int} (hn0 : 0 ≤ num) (hn1 : num ≤ 2147483647) (hE1 : PP.okT a1 101 = true) (hs1 : a1.size ≤ 1000000) : PrStmtOk B b (.node 44 num [] [a1]) := by
  intro w0 W bs ind bl k0 num0 nm0 A c kids ht hk h hd hl
  injection ht with e1 e2 e3 e4
  subst e1 e2 e3 e4
  have hP : PP.prS (.node 44 num [] [a1]) ind = PP.lineP ind [PP.sIn, PP.prE a1, PP.sComma, PP.dec num.toNat, PP.sSemi] := by simp [PP.prS]
  rw [hP] at hl ⊢
  clear hP
  obtain ⟨g, o, k1, num1, nm1, A1, c1, ks1, rfl, ha1, K1⟩ := hk.one
  simp only [PP.Tree.depth, PP.depthL] at hd
  have HK1 := Lib.hid K1
  have HA1 := Lib.hid ha1
  have hgB := K1.lt
  have hi := h.alloc #[.int .u8 44, .int .i64 num, .string ⟨#[]⟩, .slice (some ⟨g, o, none⟩) 1 c] 24 (by decide) rfl
  clear hk h K1 ha1
  go_enter Tryd.func14, Tryd.ntmps14
  go_wp2_with fail
  generalize W.alloc (.cells #[.int .u8 44, .int .i64 num, .string ⟨#[]⟩, .slice (some ⟨g, o, none⟩) 1 c] 24) = w6 at *
  have hP := hi.drew
  go_region_held3 (fun V => V.cell? ⟨W.heap.size, 3, none⟩ = some (.slice (some ⟨g, o, none⟩) 1 c) ∧ V.cell? ⟨W.heap.size, 1, none⟩ = some (.int .i64 num) ∧ V.cell? ⟨g, o, none⟩ = some (.int .u8 (k1 : Int)) ∧ V.cell? ⟨g, o + 1, none⟩ = some (.int .i64 num1) ∧ V.cell? ⟨g, o + 2, none⟩ = some (.string ⟨nm1.toArray⟩) ∧ V.cell? ⟨g, o + 3, none⟩ = some (.slice A1 ks1.length c1))
    (with_reducible first | exact ⟨hi.b0.four.1.2.2.2, hi.b0.four.1.2.1, (HK1.out.below hi.be).c0, (HK1.out.below hi.be).c1, (HK1.out.below hi.be).c2, (HK1.out.below hi.be).c3⟩ | exact ⟨hP.b0.four.1.2.2.2, hP.b0.four.1.2.1, (HK1.out.below hP.be).c0, (HK1.out.below hP.be).c1, (HK1.out.below hP.be).c2, (HK1.out.below hP.be).c3⟩ | exact ⟨(hP.more _).b0.four.1.2.2.2, (hP.more _).b0.four.1.2.1, (HK1.out.below (hP.more _).be).c0, (HK1.out.below (hP.more _).be).c1, (HK1.out.below (hP.more _).be).c2, (HK1.out.below (hP.more _).be).c3⟩ | exact ⟨hQ.b0.four.1.2.2.2, hQ.b0.four.1.2.1, (HK1.out.below hQ.be).c0, (HK1.out.below hQ.be).c1, (HK1.out.below hQ.be).c2, (HK1.out.below hQ.be).c3⟩)
    (first | (go_at_call 30; (with_reducible refine (text_any (c := c1) hE1 HA1.out (HK1.out.below hP.be).ks hP.size hP.ops' hP.pow' hs1).mono ?_); rintro e w7 ⟨rfl, hb7⟩; replace hP := hP.below hb7; clear hb7) | (go_at_call 32; (with_reducible refine (itoa_any num hn0 hn1 _ hP.pow').mono ?_); rintro e w7 ⟨rfl, hb7⟩; replace hP := hP.below hb7; clear hb7) | (go_at_call 29; refine (line_any [PP.sIn, PP.prE a1, PP.sComma, PP.dec num.toNat, PP.sSemi] ind (c := 5) rfl (hP.alloc (strVals [PP.sIn, PP.prE a1, PP.sComma, PP.dec num.toNat, PP.sSemi]) 9 (by decide) rfl) (by omega) (by simp) (by omega)).mono ?_; rintro e w9 ⟨rfl, hQ⟩; replace hQ := hQ.drop))
  all_goals
    have HP := Lib.hid hQ
    clear hQ hP hi
    go_wp2_with fail
    go_end0
    exact ⟨rfl, HP.out.drop⟩
theorem prstmt_out {a1 : Tree} {num : Int} (hn0 : 0 ≤ num) (hn1 : num ≤ 2147483647) (hE1 : PP.okT a1 101 = true) (hs1 : a1.size ≤ 1000000) : PrStmtOk B b (.node 45 num [] [a1]) := by
  intro w0 W bs ind bl k0 num0 nm0 A c kids ht hk h hd hl
  injection ht with e1 e2 e3 e4
  subst e1 e2 e3 e4
  have hP : PP.prS (.node 45 num [] [a1]) ind = PP.lineP ind [PP.sOut, PP.prE a1, PP.sComma, PP.dec num.toNat, PP.sSemi] := by simp [PP.prS]
  rw [hP] at hl ⊢
  clear hP
  obtain ⟨g, o, k1, num1, nm1, A1, c1, ks1, rfl, ha1, K1⟩ := hk.one
  simp only [PP.Tree.depth, PP.depthL] at hd
  have HK1 := Lib.hid K1
  have HA1 := Lib.hid ha1
  have hgB := K1.lt
  have hi := h.alloc #[.int .u8 45, .int .i64 num, .string ⟨#[]⟩, .slice (some ⟨g, o, none⟩) 1 c] 24 (by decide) rfl
  clear hk h K1 ha1
  go_enter Tryd.func14, Tryd.ntmps14
  go_wp2_with fail
  generalize W.alloc (.cells #[.int .u8 45, .int .i64 num, .string ⟨#[]⟩, .slice (some ⟨g, o, none⟩) 1 c] 24) = w6 at *
  have hP := hi.drew
  go_region_held3 (fun V => V.cell? ⟨W.heap.size, 3, none⟩ = some (.slice (some ⟨g, o, none⟩) 1 c) ∧ V.cell? ⟨W.heap.size, 1, none⟩ = some (.int .i64 num) ∧ V.cell? ⟨g, o, none⟩ = some (.int .u8 (k1 : Int)) ∧ V.cell? ⟨g, o + 1, none⟩ = some (.int .i64 num1) ∧ V.cell? ⟨g, o + 2, none⟩ = some (.string ⟨nm1.toArray⟩) ∧ V.cell? ⟨g, o + 3, none⟩ = some (.slice A1 ks1.length c1))
    (with_reducible first | exact ⟨hi.b0.four.1.2.2.2, hi.b0.four.1.2.1, (HK1.out.below hi.be).c0, (HK1.out.below hi.be).c1, (HK1.out.below hi.be).c2, (HK1.out.below hi.be).c3⟩ | exact ⟨hP.b0.four.1.2.2.2, hP.b0.four.1.2.1, (HK1.out.below hP.be).c0, (HK1.out.below hP.be).c1, (HK1.out.below hP.be).c2, (HK1.out.below hP.be).c3⟩ | exact ⟨(hP.more _).b0.four.1.2.2.2, (hP.more _).b0.four.1.2.1, (HK1.out.below (hP.more _).be).c0, (HK1.out.below (hP.more _).be).c1, (HK1.out.below (hP.more _).be).c2, (HK1.out.below (hP.more _).be).c3⟩ | exact ⟨hQ.b0.four.1.2.2.2, hQ.b0.four.1.2.1, (HK1.out.below hQ.be).c0, (HK1.out.below hQ.be).c1, (HK1.out.below hQ.be).c2, (HK1.out.below hQ.be).c3⟩)
    (first | (go_at_call 30; (with_reducible refine (text_any (c := c1) hE1 HA1.out (HK1.out.below hP.be).ks hP.size hP.ops' hP.pow' hs1).mono ?_); rintro e w7 ⟨rfl, hb7⟩; replace hP := hP.below hb7; clear hb7) | (go_at_call 32; (with_reducible refine (itoa_any num hn0 hn1 _ hP.pow').mono ?_); rintro e w7 ⟨rfl, hb7⟩; replace hP := hP.below hb7; clear hb7) | (go_at_call 29; refine (line_any [PP.sOut, PP.prE a1, PP.sComma, PP.dec num.toNat, PP.sSemi] ind (c := 5) rfl (hP.alloc (strVals [PP.sOut, PP.prE a1, PP.sComma, PP.dec num.toNat, PP.sSemi]) 9 (by decide) rfl) (by omega) (by simp) (by omega)).mono ?_; rintro e w9 ⟨rfl, hQ⟩; replace hQ := hQ.drop))
  all_goals
    have HP := Lib.hid hQ
    clear hQ hP hi
    go_wp2_with fail
    go_end0
    exact ⟨rfl, HP.out.drop⟩
end
end Go.Proofs.YtkeehpgnljieeaaDoor
