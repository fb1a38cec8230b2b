/- The contract of the printer's statement, case by case (printed by genprs.py). -/
import Derived.Test.YtkeehpgnljieeaaDoorPrF
import Derived.Deep.DeepCutAuto
namespace Go.Proofs.YtkeehpgnljieeaaDoor
open Go.RowKit
open PP (Tree)
section
variable {B b : Nat}
set_option maxHeartbeats 4000000
set_option maxRecDepth 100000
theorem prstmt_if {a1 : Tree} {a2 : Tree} {a3 : Tree} (hE1 : PP.okT a1 101 = true) (hs1 : a1.size ≤ 1000000) (hB2 : PrBlockOk B b a2) (hB3 : PrBlockOk B b a3) : PrStmtOk B b (.node 41 0 [] [a1, a2, a3]) := by
  intro w0 W bs ind bl k0 num0 nm0 A c kids ht hk h hd hl
  injection ht with e1 e2 e3 e4
  subst e1 e2 e3 e4
  have hP : PP.prS (.node 41 0 [] [a1, a2, a3]) ind = PP.lineP ind [PP.sIf, PP.prE a1, PP.sOb] ++ PP.prB a2 (ind + 1) ++ PP.lineP ind [PP.sElse] ++ PP.prB a3 (ind + 1) ++ PP.lineP ind [PP.sCb] := by simp [PP.prS]
  rw [hP] at hl ⊢
  clear hP
  obtain ⟨g, o, k1, num1, nm1, A1, c1, ks1, k2, num2, nm2, A2, c2, ks2, k3, num3, nm3, A3, c3, ks3, rfl, ha1, K1, ha2, K2, ha3, K3⟩ := hk.three
  simp only [PP.Tree.depth, PP.depthL] at hd
  simp only [List.length_append] at hl
  have HK1 := Lib.hid K1
  have HA1 := Lib.hid ha1
  have HK2 := Lib.hid K2
  have HA2 := Lib.hid ha2
  have HK3 := Lib.hid K3
  have HA3 := Lib.hid ha3
  have hgB := K1.lt
  have hi := h.alloc #[.int .u8 41, .int .i64 0, .string ⟨#[]⟩, .slice (some ⟨g, o, none⟩) 3 c] 24 (by decide) rfl
  clear hk h K1 ha1 K2 ha2 K3 ha3
  go_enter Tryd.func14, Tryd.ntmps14
  go_upto_region 5 with fail
  generalize W.alloc (.cells #[.int .u8 41, .int .i64 0, .string ⟨#[]⟩, .slice (some ⟨g, o, none⟩) 3 c] 24) = w6 at *
  have x3 := hi.b0.four.1.2.2.2
  have y0 := (HK1.out.below hi.be).c0
  have y1 := (HK1.out.below hi.be).c1
  have y2 := (HK1.out.below hi.be).c2
  have y3 := (HK1.out.below hi.be).c3
  have hg : g < _ := Nat.lt_of_lt_of_le hgB hi.size
  have HC := Lib.hid (text_any (c := c1) hE1 HA1.out (HK1.out.below hi.be).ks hi.size hi.ops' hi.pow' hs1)
  have HQ := Lib.hid hi
  clear hi
  go_wp2_with fail
  refine HC.out.mono ?_
  rintro e wt ⟨rfl, hbt⟩
  have hpt := HQ.out.below hbt
  clear HC HQ hbt x3 y0 y1 y2 y3 hg
  have HC := Lib.hid (line_any [PP.sIf, PP.prE a1, PP.sOb] ind (c := 3) rfl (hpt.alloc (strVals [PP.sIf, PP.prE a1, PP.sOb]) 9 (by decide) rfl) (by omega) (by simp) (by omega))
  clear hpt
  go_wp2_with fail
  refine HC.out.mono ?_
  rintro e wl1 ⟨rfl, hpl1⟩
  replace hpl1 := hpl1.drop
  clear HC
  have x3 := hpl1.b0.four.1.2.2.2
  have y0 := (HK2.out.below hpl1.be).c0
  have y1 := (HK2.out.below hpl1.be).c1
  have y2 := (HK2.out.below hpl1.be).c2
  have y3 := (HK2.out.below hpl1.be).c3
  have hg : g < _ := Nat.lt_of_lt_of_le hgB hpl1.size
  have HC := Lib.hid (hB2 w0 _ _ ind _ _ _ _ _ c2 _ HA2.out HK2.out.ks hpl1 (by omega) (by simp only [List.length_append]; omega))
  clear hpl1
  go_wp2_with fail
  refine HC.out.mono ?_
  rintro e wb2 ⟨rfl, hpb2⟩
  clear HC x3 y0 y1 y2 y3 hg
  have HC := Lib.hid (line_any [PP.sElse] ind (c := 1) rfl (hpb2.alloc (strVals [PP.sElse]) 9 (by decide) rfl) (by omega) (by simp) (by simp only [List.length_append]; omega))
  clear hpb2
  go_wp2_with fail
  refine HC.out.mono ?_
  rintro e wl3 ⟨rfl, hpl3⟩
  replace hpl3 := hpl3.drop
  clear HC
  have x3 := hpl3.b0.four.1.2.2.2
  have y0 := (HK3.out.below hpl3.be).c0
  have y1 := (HK3.out.below hpl3.be).c1
  have y2 := (HK3.out.below hpl3.be).c2
  have y3 := (HK3.out.below hpl3.be).c3
  have hg : g < _ := Nat.lt_of_lt_of_le hgB hpl3.size
  have HC := Lib.hid (hB3 w0 _ _ ind _ _ _ _ _ c3 _ HA3.out HK3.out.ks hpl3 (by omega) (by simp only [List.length_append]; omega))
  clear hpl3
  go_wp2_with fail
  refine HC.out.mono ?_
  rintro e wb4 ⟨rfl, hpb4⟩
  clear HC x3 y0 y1 y2 y3 hg
  have HC := Lib.hid (line_any [PP.sCb] ind (c := 1) rfl (hpb4.alloc (strVals [PP.sCb]) 9 (by decide) rfl) (by omega) (by simp) (by simp only [List.length_append]; omega))
  clear hpb4
  go_wp2_with fail
  refine HC.out.mono ?_
  rintro e wl5 ⟨rfl, hpl5⟩
  replace hpl5 := hpl5.drop
  clear HC
  have HP := Lib.hid hpl5
  clear hpl5
  go_wp2_with fail
  go_end0
  exact ⟨rfl, by have := HP.out.drop; simpa using this⟩
theorem prstmt_lock {a1 : Tree} {nm : List UInt8} (hB1 : PrBlockOk B b a1) : PrStmtOk B b (.node 46 0 nm [a1]) := by
  intro w0 W bs ind bl k0 num0 nm0 A c kids ht hk h hd hl
  injection ht with e1 e2 e3 e4
  subst e1 e2 e3 e4
  have hP : PP.prS (.node 46 0 nm [a1]) ind = PP.lineP ind [PP.sLock, nm, PP.sOb] ++ PP.prB a1 (ind + 1) ++ PP.lineP ind [PP.sCb] := by simp [PP.prS]
  rw [hP] at hl ⊢
  clear hP
  obtain ⟨g, o, k1, num1, nm1, A1, c1, ks1, rfl, ha1, K1⟩ := hk.one
  simp only [PP.Tree.depth, PP.depthL] at hd
  simp only [List.length_append] at hl
  have HK1 := Lib.hid K1
  have HA1 := Lib.hid ha1
  have hgB := K1.lt
  have hi := h.alloc #[.int .u8 46, .int .i64 0, .string ⟨nm.toArray⟩, .slice (some ⟨g, o, none⟩) 1 c] 24 (by decide) rfl
  clear hk h K1 ha1
  go_enter Tryd.func14, Tryd.ntmps14
  go_upto_region 23 with fail
  generalize W.alloc (.cells #[.int .u8 46, .int .i64 0, .string ⟨nm.toArray⟩, .slice (some ⟨g, o, none⟩) 1 c] 24) = w6 at *
  have x2 := hi.b0.four.1.2.2.1
  have HC := Lib.hid (line_any [PP.sLock, nm, PP.sOb] ind (c := 3) rfl (hi.alloc (strVals [PP.sLock, nm, PP.sOb]) 9 (by decide) rfl) (by omega) (by simp) (by omega))
  clear hi
  go_wp2_with fail
  refine HC.out.mono ?_
  rintro e wl1 ⟨rfl, hpl1⟩
  replace hpl1 := hpl1.drop
  clear HC
  clear x2
  have x3 := hpl1.b0.four.1.2.2.2
  have y0 := (HK1.out.below hpl1.be).c0
  have y1 := (HK1.out.below hpl1.be).c1
  have y2 := (HK1.out.below hpl1.be).c2
  have y3 := (HK1.out.below hpl1.be).c3
  have hg : g < _ := Nat.lt_of_lt_of_le hgB hpl1.size
  have HC := Lib.hid (hB1 w0 _ _ ind _ _ _ _ _ c1 _ HA1.out HK1.out.ks hpl1 (by omega) (by simp only [List.length_append]; omega))
  clear hpl1
  go_wp2_with fail
  refine HC.out.mono ?_
  rintro e wb2 ⟨rfl, hpb2⟩
  clear HC x3 y0 y1 y2 y3 hg
  have HC := Lib.hid (line_any [PP.sCb] ind (c := 1) rfl (hpb2.alloc (strVals [PP.sCb]) 9 (by decide) rfl) (by omega) (by simp) (by simp only [List.length_append]; omega))
  clear hpb2
  go_wp2_with fail
  refine HC.out.mono ?_
  rintro e wl3 ⟨rfl, hpl3⟩
  replace hpl3 := hpl3.drop
  clear HC
  have HP := Lib.hid hpl3
  clear hpl3
  go_wp2_with fail
  go_end0
  exact ⟨rfl, by have := HP.out.drop; simpa using this⟩
end
end Go.Proofs.YtkeehpgnljieeaaDoor
