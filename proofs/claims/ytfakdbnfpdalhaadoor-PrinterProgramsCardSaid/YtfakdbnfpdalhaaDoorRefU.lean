/- The contract of the reference printer's Stmt, case by case. -/
import Derived.Test.YtfakdbnfpdalhaaDoorRefT
namespace Go.Proofs.YtfakdbnfpdalhaaDoor
open Go.RowKit
open PP (Tree)
theorem bracesP_len (t : Tree) (i : Nat) : (bracesP t i).length = (PP.prB t (i + 1)).length + i + 3 := by simp [bracesP, tabs_len]; omega
section
set_option maxHeartbeats 4000000
set_option maxRecDepth 100000
theorem rstmt_assign {a b : Tree} (Ra : RExprOk a) (Rb : RExprOk b) : RStmtOk (.node 40 0 [] [a, b]) := by
  intro w B k0 num0 nm0 A c kids i ht hk hB hi hlen
  injection ht with e1 e2 e3 e4
  subst e1 e2 e3 e4
  have hT : PP.prS (.node 40 0 [] [a, b]) i = PP.tabs i ++ (PP.prE a ++ PP.sEq ++ PP.prE b ++ PP.sSemi) ++ [10] := by simp [PP.prS, PP.lineP]
  rw [hT] at hlen ⊢
  have hl := hlen
  simp only [List.length_append, tabs_len, List.length_cons, List.length_nil, PP.sEq, PP.sSemi] at hl
  clear hT hlen
  obtain ⟨g, o, k1, num1, nm1, A1, c1, ks1, k2, num2, nm2, A2, c2, ks2, rfl, hk1, K1, hk2, K2⟩ := hk.two
  have hb : Below w.heap.size w (w.alloc (.cells #[.int .u8 40, .int .i64 0, .string ⟨#[]⟩, .slice (some ⟨g, o, none⟩) 2 c] 24)) := (Below.refl _ _).alloc (Nat.le_refl _) _
  have hblk := Blk.new w 24 #[.int .u8 40, .int .i64 0, .string ⟨#[]⟩, .slice (some ⟨g, o, none⟩) 2 c]
  simp only [PP.Tree.depth, PP.depthL] at hi
  have HK1 := Lib.hid (K1.below (hb.mono hB))
  have HK2 := Lib.hid (K2.below (hb.mono hB))
  have hs1 := size_mk (PP.prE a)
  have hs2 := size_mk (PP.prE b)
  have hsT := size_mk (PP.tabs i)
  rw [tabs_len] at hsT
  have hc1 := fun w' hk hB => Ra w' B k1 num1 nm1 A1 c1 ks1 hk1 hk hB
  have hc2 := fun w' hk hB => Rb w' B k2 num2 nm2 A2 c2 ks2 hk2 hk hB
  have hcT := fun w' => tabs14 i w' (by omega)
  clear Ra hk1 Rb hk2 hi
  go_enter Tryd.func36, Tryd.ntmps36
  go_upto_region 4 with fail
  generalize w.alloc (.cells #[.int .u8 40, .int .i64 0, .string ⟨#[]⟩, .slice (some ⟨g, o, none⟩) 2 c] 24) = w6 at *
  have q1 : ∀ d os, Calls Tryd.prog 12 #[.agg #[.int .u8 (k1 : Int), .int .i64 num1, .string ⟨nm1.toArray⟩, .slice A1 ks1.length c1]] (Sort.grow (redrawn w6 d) os) fun e w'' => e = .returned (.string ⟨(PP.prE a).toArray⟩) ∧ ∃ p : Regrown, w'' = Sort.grow (redrawn w6 p.d) p.os :=
    fun d os => Calls.regrown_of (hc1 _ (HK1.out.below ((below_regrown w6 d os).mono (Nat.le_trans hB hb.size))).ks (Nat.le_trans hB (Nat.le_trans hb.size (below_regrown w6 d os).size)))
  have q2 : ∀ d os, Calls Tryd.prog 12 #[.agg #[.int .u8 (k2 : Int), .int .i64 num2, .string ⟨nm2.toArray⟩, .slice A2 ks2.length c2]] (Sort.grow (redrawn w6 d) os) fun e w'' => e = .returned (.string ⟨(PP.prE b).toArray⟩) ∧ ∃ p : Regrown, w'' = Sort.grow (redrawn w6 p.d) p.os :=
    fun d os => Calls.regrown_of (hc2 _ (HK2.out.below ((below_regrown w6 d os).mono (Nat.le_trans hB hb.size))).ks (Nat.le_trans hB (Nat.le_trans hb.size (below_regrown w6 d os).size)))
  have z3 := cell_regrown hblk.four.1.2.2.2
  have y10 := cell_regrown HK1.out.c0
  have y11 := cell_regrown HK1.out.c1
  have y12 := cell_regrown HK1.out.c2
  have y13 := cell_regrown HK1.out.c3
  have y20 := cell_regrown HK2.out.c0
  have y21 := cell_regrown HK2.out.c1
  have y22 := cell_regrown HK2.out.c2
  have y23 := cell_regrown HK2.out.c3
  have HB := Lib.hid hb
  have GT1 : Hid ((⟨(PP.prE a).toArray⟩ : ByteArray).data.toList = PP.prE a) := Lib.hid rfl
  generalize (⟨(PP.prE a).toArray⟩ : ByteArray) = T1 at *
  have GT2 : Hid ((⟨(PP.prE b).toArray⟩ : ByteArray).data.toList = PP.prE b) := Lib.hid rfl
  generalize (⟨(PP.prE b).toArray⟩ : ByteArray) = T2 at *
  have GTT : Hid ((⟨(PP.tabs i).toArray⟩ : ByteArray).data.toList = PP.tabs i) := Lib.hid rfl
  generalize (⟨(PP.tabs i).toArray⟩ : ByteArray) = TT at *
  have n1 : ¬ 9223372036854775807 < T1.size + 3 := by omega
  have n2 : ¬ 9223372036854775807 < T1.size + 3 + T2.size := by omega
  have n3 : ¬ 9223372036854775807 < T1.size + 3 + T2.size + 1 := by omega
  have hend : T1.size + 3 + T2.size + 1 ≤ 2000000000000 := by omega
  have htt : TT.size ≤ 2000000000000 := by omega
  have HCT := Lib.hid hcT
  clear hs1 hs2 hsT hl hc1 hc2 hb hblk hk hcT K1 K2
  have HE := Lib.hid hend
  have HTT := Lib.hid htt
  clear hend htt
  refine wp_region_quiet_below (by kernel_rfl) (by kernel_rfl) ?_
  repeat (quiet_step (with_reducible first | exact q1 _ _ | exact q2 _ _))
  refine wpQuiet_nil ?_
  intro _ hw'
  obtain ⟨⟨dq, osq⟩, hw''⟩ := hw'
  subst hw''
  clear q1 q2 z3 y10 y11 y12 y13 y20 y21 y22 y23 n1 n2 n3
  have hE := HE.out
  have hTT := HTT.out
  go_wp2_with fail
  refine (HCT.out _).mono ?_
  rintro e w7 ⟨rfl, rfl⟩
  go_wp2_with fail
  go_ret
  refine ⟨str_eq ?_, HB.out.trans ((below_regrown w6 dq osq).mono HB.out.size)⟩
  simp [ByteArray.data_append, GT1.out, GT2.out, GTT.out, PP.sEq, PP.sSemi]
theorem rstmt_if {a b f : Tree} (Ra : RExprOk a) (Rb : RLinesOk b) (Rf : RLinesOk f) : RStmtOk (.node 41 0 [] [a, b, f]) := by
  intro w B k0 num0 nm0 A c kids i ht hk hB hi hlen
  injection ht with e1 e2 e3 e4
  subst e1 e2 e3 e4
  have hT : PP.prS (.node 41 0 [] [a, b, f]) i = PP.tabs i ++ (PP.sIf ++ PP.prE a ++ [32] ++ bracesP b i ++ [32, 101, 108, 115, 101, 32] ++ bracesP f i) ++ [10] := by simp [PP.prS, PP.lineP, bracesP, PP.sOb, PP.sCb, PP.sElse]
  rw [hT] at hlen ⊢
  have hl := hlen
  simp only [List.length_append, tabs_len, List.length_cons, List.length_nil, PP.sIf] at hl
  clear hT hlen
  obtain ⟨g, o, k1, num1, nm1, A1, c1, ks1, k2, num2, nm2, A2, c2, ks2, k3, num3, nm3, A3, c3, ks3, rfl, hk1, K1, hk2, K2, hk3, K3⟩ := hk.three
  have hb : Below w.heap.size w (w.alloc (.cells #[.int .u8 41, .int .i64 0, .string ⟨#[]⟩, .slice (some ⟨g, o, none⟩) 3 c] 24)) := (Below.refl _ _).alloc (Nat.le_refl _) _
  have hblk := Blk.new w 24 #[.int .u8 41, .int .i64 0, .string ⟨#[]⟩, .slice (some ⟨g, o, none⟩) 3 c]
  simp only [PP.Tree.depth, PP.depthL] at hi
  have HK1 := Lib.hid (K1.below (hb.mono hB))
  have HK2 := Lib.hid (K2.below (hb.mono hB))
  have HK3 := Lib.hid (K3.below (hb.mono hB))
  have hs1 := size_mk (PP.prE a)
  have hs2 := size_mk (bracesP b i)
  have hz2 := bracesP_len b i
  have hs3 := size_mk (bracesP f i)
  have hz3 := bracesP_len f i
  have hsT := size_mk (PP.tabs i)
  rw [tabs_len] at hsT
  have hc1 := fun w' hk hB => Ra w' B k1 num1 nm1 A1 c1 ks1 hk1 hk hB
  have hc2 := fun w' hk hB => braces14 Rb w' B k2 num2 nm2 A2 c2 ks2 i hk2 hk hB (by omega) (by omega)
  have hc3 := fun w' hk hB => braces14 Rf w' B k3 num3 nm3 A3 c3 ks3 i hk3 hk hB (by omega) (by omega)
  have hcT := fun w' => tabs14 i w' (by omega)
  clear Ra hk1 Rb hk2 Rf hk3 hi
  go_enter Tryd.func36, Tryd.ntmps36
  go_upto_region 6 with fail
  generalize w.alloc (.cells #[.int .u8 41, .int .i64 0, .string ⟨#[]⟩, .slice (some ⟨g, o, none⟩) 3 c] 24) = w6 at *
  have q1 : ∀ d os, Calls Tryd.prog 12 #[.agg #[.int .u8 (k1 : Int), .int .i64 num1, .string ⟨nm1.toArray⟩, .slice A1 ks1.length c1]] (Sort.grow (redrawn w6 d) os) fun e w'' => e = .returned (.string ⟨(PP.prE a).toArray⟩) ∧ ∃ p : Regrown, w'' = Sort.grow (redrawn w6 p.d) p.os :=
    fun d os => Calls.regrown_of (hc1 _ (HK1.out.below ((below_regrown w6 d os).mono (Nat.le_trans hB hb.size))).ks (Nat.le_trans hB (Nat.le_trans hb.size (below_regrown w6 d os).size)))
  have q2 : ∀ d os, Calls Tryd.prog 70 #[.agg #[.int .u8 (k2 : Int), .int .i64 num2, .string ⟨nm2.toArray⟩, .slice A2 ks2.length c2], .int .i64 (i : Int)] (Sort.grow (redrawn w6 d) os) fun e w'' => e = .returned (.string ⟨(bracesP b i).toArray⟩) ∧ ∃ p : Regrown, w'' = Sort.grow (redrawn w6 p.d) p.os :=
    fun d os => Calls.regrown_of (hc2 _ (HK2.out.below ((below_regrown w6 d os).mono (Nat.le_trans hB hb.size))).ks (Nat.le_trans hB (Nat.le_trans hb.size (below_regrown w6 d os).size)))
  have q3 : ∀ d os, Calls Tryd.prog 70 #[.agg #[.int .u8 (k3 : Int), .int .i64 num3, .string ⟨nm3.toArray⟩, .slice A3 ks3.length c3], .int .i64 (i : Int)] (Sort.grow (redrawn w6 d) os) fun e w'' => e = .returned (.string ⟨(bracesP f i).toArray⟩) ∧ ∃ p : Regrown, w'' = Sort.grow (redrawn w6 p.d) p.os :=
    fun d os => Calls.regrown_of (hc3 _ (HK3.out.below ((below_regrown w6 d os).mono (Nat.le_trans hB hb.size))).ks (Nat.le_trans hB (Nat.le_trans hb.size (below_regrown w6 d os).size)))
  have z3 := cell_regrown hblk.four.1.2.2.2
  have y10 := cell_regrown HK1.out.c0
  have y11 := cell_regrown HK1.out.c1
  have y12 := cell_regrown HK1.out.c2
  have y13 := cell_regrown HK1.out.c3
  have y20 := cell_regrown HK2.out.c0
  have y21 := cell_regrown HK2.out.c1
  have y22 := cell_regrown HK2.out.c2
  have y23 := cell_regrown HK2.out.c3
  have y30 := cell_regrown HK3.out.c0
  have y31 := cell_regrown HK3.out.c1
  have y32 := cell_regrown HK3.out.c2
  have y33 := cell_regrown HK3.out.c3
  have HB := Lib.hid hb
  have GT1 : Hid ((⟨(PP.prE a).toArray⟩ : ByteArray).data.toList = PP.prE a) := Lib.hid rfl
  generalize (⟨(PP.prE a).toArray⟩ : ByteArray) = T1 at *
  have GT2 : Hid ((⟨(bracesP b i).toArray⟩ : ByteArray).data.toList = bracesP b i) := Lib.hid rfl
  generalize (⟨(bracesP b i).toArray⟩ : ByteArray) = T2 at *
  have GT3 : Hid ((⟨(bracesP f i).toArray⟩ : ByteArray).data.toList = bracesP f i) := Lib.hid rfl
  generalize (⟨(bracesP f i).toArray⟩ : ByteArray) = T3 at *
  have GTT : Hid ((⟨(PP.tabs i).toArray⟩ : ByteArray).data.toList = PP.tabs i) := Lib.hid rfl
  generalize (⟨(PP.tabs i).toArray⟩ : ByteArray) = TT at *
  have n1 : ¬ 9223372036854775807 < 3 + T1.size := by omega
  have n2 : ¬ 9223372036854775807 < 3 + T1.size + 1 := by omega
  have n3 : ¬ 9223372036854775807 < 3 + T1.size + 1 + T2.size := by omega
  have n4 : ¬ 9223372036854775807 < 3 + T1.size + 1 + T2.size + 6 := by omega
  have n5 : ¬ 9223372036854775807 < 3 + T1.size + 1 + T2.size + 6 + T3.size := by omega
  have hend : 3 + T1.size + 1 + T2.size + 6 + T3.size ≤ 2000000000000 := by omega
  have htt : TT.size ≤ 2000000000000 := by omega
  have HCT := Lib.hid hcT
  clear hs1 hs2 hs3 hz2 hz3 hsT hl hc1 hc2 hc3 hb hblk hk hcT K1 K2 K3
  have HE := Lib.hid hend
  have HTT := Lib.hid htt
  clear hend htt
  refine wp_region_quiet_below (by kernel_rfl) (by kernel_rfl) ?_
  repeat (quiet_step (with_reducible first | exact q1 _ _ | exact q2 _ _ | exact q3 _ _))
  refine wpQuiet_nil ?_
  intro _ hw'
  obtain ⟨⟨dq, osq⟩, hw''⟩ := hw'
  subst hw''
  clear q1 q2 q3 z3 y10 y11 y12 y13 y20 y21 y22 y23 y30 y31 y32 y33 n1 n2 n3 n4 n5
  have hE := HE.out
  have hTT := HTT.out
  go_wp2_with fail
  refine (HCT.out _).mono ?_
  rintro e w7 ⟨rfl, rfl⟩
  go_wp2_with fail
  go_ret
  refine ⟨str_eq ?_, HB.out.trans ((below_regrown w6 dq osq).mono HB.out.size)⟩
  simp [ByteArray.data_append, GT1.out, GT2.out, GT3.out, GTT.out, PP.sIf]
theorem rstmt_for {a : Tree} {m : Nat} {nm : List UInt8} (Ra : RLinesOk a) (hm : m ≤ 1000) : RStmtOk (.node 42 (m : Int) nm [a]) := by
  intro w B k0 num0 nm0 A c kids i ht hk hB hi hlen
  injection ht with e1 e2 e3 e4
  subst e1 e2 e3 e4
  have hT : PP.prS (.node 42 (m : Int) nm [a]) i = PP.tabs i ++ (PP.sFor ++ nm ++ PP.sLt ++ PP.dec m ++ [32] ++ bracesP a i) ++ [10] := by simp [PP.prS, PP.lineP, bracesP, PP.sOb, PP.sCb]
  rw [hT] at hlen ⊢
  have hl := hlen
  simp only [List.length_append, tabs_len, List.length_cons, List.length_nil, PP.sFor, PP.sLt] at hl
  clear hT hlen
  obtain ⟨g, o, k1, num1, nm1, A1, c1, ks1, rfl, hk1, K1⟩ := hk.one
  have hb : Below w.heap.size w (w.alloc (.cells #[.int .u8 42, .int .i64 (m : Int), .string ⟨nm.toArray⟩, .slice (some ⟨g, o, none⟩) 1 c] 24)) := (Below.refl _ _).alloc (Nat.le_refl _) _
  have hblk := Blk.new w 24 #[.int .u8 42, .int .i64 (m : Int), .string ⟨nm.toArray⟩, .slice (some ⟨g, o, none⟩) 1 c]
  simp only [PP.Tree.depth, PP.depthL] at hi
  have HK1 := Lib.hid (K1.below (hb.mono hB))
  have hsN := size_mk nm
  have hsD := size_mk (PP.dec m)
  have hsD2 := PP.dec_len m
  have hs1 := size_mk (bracesP a i)
  have hz1 := bracesP_len a i
  have hsT := size_mk (PP.tabs i)
  rw [tabs_len] at hsT
  have hc1 := fun w' hk hB => braces14 Ra w' B k1 num1 nm1 A1 c1 ks1 i hk1 hk hB (by omega) (by omega)
  have hcT := fun w' => tabs14 i w' (by omega)
  have hcD := fun w' => decimal14 m w' (by omega)
  clear Ra hk1 hi
  go_enter Tryd.func36, Tryd.ntmps36
  go_upto_region 8 with fail
  generalize w.alloc (.cells #[.int .u8 42, .int .i64 (m : Int), .string ⟨nm.toArray⟩, .slice (some ⟨g, o, none⟩) 1 c] 24) = w6 at *
  have q1 : ∀ d os, Calls Tryd.prog 70 #[.agg #[.int .u8 (k1 : Int), .int .i64 num1, .string ⟨nm1.toArray⟩, .slice A1 ks1.length c1], .int .i64 (i : Int)] (Sort.grow (redrawn w6 d) os) fun e w'' => e = .returned (.string ⟨(bracesP a i).toArray⟩) ∧ ∃ p : Regrown, w'' = Sort.grow (redrawn w6 p.d) p.os :=
    fun d os => Calls.regrown_of (hc1 _ (HK1.out.below ((below_regrown w6 d os).mono (Nat.le_trans hB hb.size))).ks (Nat.le_trans hB (Nat.le_trans hb.size (below_regrown w6 d os).size)))
  have qD : ∀ d os, Calls Tryd.prog 30 #[.int .i64 (m : Int)] (Sort.grow (redrawn w6 d) os) fun e w'' => e = .returned (.string ⟨(PP.dec m).toArray⟩) ∧ ∃ p : Regrown, w'' = Sort.grow (redrawn w6 p.d) p.os :=
    fun d os => Calls.regrown_of ((hcD _).mono fun _ _ ⟨h1, h2⟩ => ⟨h1, h2 ▸ Below.refl _ _⟩)
  have z1 := cell_regrown hblk.four.1.2.1
  have z2 := cell_regrown hblk.four.1.2.2.1
  have z3 := cell_regrown hblk.four.1.2.2.2
  have y10 := cell_regrown HK1.out.c0
  have y11 := cell_regrown HK1.out.c1
  have y12 := cell_regrown HK1.out.c2
  have y13 := cell_regrown HK1.out.c3
  have HB := Lib.hid hb
  have GNMV : Hid ((⟨(nm).toArray⟩ : ByteArray).data.toList = nm) := Lib.hid rfl
  generalize (⟨(nm).toArray⟩ : ByteArray) = NMV at *
  have GDV : Hid ((⟨(PP.dec m).toArray⟩ : ByteArray).data.toList = PP.dec m) := Lib.hid rfl
  generalize (⟨(PP.dec m).toArray⟩ : ByteArray) = DV at *
  have GT1 : Hid ((⟨(bracesP a i).toArray⟩ : ByteArray).data.toList = bracesP a i) := Lib.hid rfl
  generalize (⟨(bracesP a i).toArray⟩ : ByteArray) = T1 at *
  have GTT : Hid ((⟨(PP.tabs i).toArray⟩ : ByteArray).data.toList = PP.tabs i) := Lib.hid rfl
  generalize (⟨(PP.tabs i).toArray⟩ : ByteArray) = TT at *
  have n1 : ¬ 9223372036854775807 < 4 + NMV.size := by omega
  have n2 : ¬ 9223372036854775807 < 4 + NMV.size + 3 := by omega
  have n3 : ¬ 9223372036854775807 < 4 + NMV.size + 3 + DV.size := by omega
  have n4 : ¬ 9223372036854775807 < 4 + NMV.size + 3 + DV.size + 1 := by omega
  have n5 : ¬ 9223372036854775807 < 4 + NMV.size + 3 + DV.size + 1 + T1.size := by omega
  have hend : 4 + NMV.size + 3 + DV.size + 1 + T1.size ≤ 2000000000000 := by omega
  have htt : TT.size ≤ 2000000000000 := by omega
  have HCT := Lib.hid hcT
  clear hsN hsD hsD2 hs1 hz1 hsT hl hc1 hcD hb hblk hk hcT K1
  have HE := Lib.hid hend
  have HTT := Lib.hid htt
  clear hend htt
  refine wp_region_quiet_below (by kernel_rfl) (by kernel_rfl) ?_
  repeat (quiet_step (with_reducible first | exact q1 _ _ | exact qD _ _))
  refine wpQuiet_nil ?_
  intro _ hw'
  obtain ⟨⟨dq, osq⟩, hw''⟩ := hw'
  subst hw''
  clear q1 qD z1 z2 z3 y10 y11 y12 y13 n1 n2 n3 n4 n5
  have hE := HE.out
  have hTT := HTT.out
  go_wp2_with fail
  refine (HCT.out _).mono ?_
  rintro e w7 ⟨rfl, rfl⟩
  go_wp2_with fail
  go_ret
  refine ⟨str_eq ?_, HB.out.trans ((below_regrown w6 dq osq).mono HB.out.size)⟩
  simp [ByteArray.data_append, GNMV.out, GDV.out, GT1.out, GTT.out, PP.sFor, PP.sLt]
theorem rstmt_while {a b : Tree} {m : Nat} (Ra : RExprOk a) (Rb : RLinesOk b) (hm : m ≤ 1000) : RStmtOk (.node 43 (m : Int) [] [a, b]) := by
  intro w B k0 num0 nm0 A c kids i ht hk hB hi hlen
  injection ht with e1 e2 e3 e4
  subst e1 e2 e3 e4
  have hT : PP.prS (.node 43 (m : Int) [] [a, b]) i = PP.tabs i ++ (PP.sWhile ++ PP.prE a ++ PP.sBound ++ PP.dec m ++ [32] ++ bracesP b i) ++ [10] := by simp [PP.prS, PP.lineP, bracesP, PP.sOb, PP.sCb]
  rw [hT] at hlen ⊢
  have hl := hlen
  simp only [List.length_append, tabs_len, List.length_cons, List.length_nil, PP.sBound, PP.sWhile] at hl
  clear hT hlen
  obtain ⟨g, o, k1, num1, nm1, A1, c1, ks1, k2, num2, nm2, A2, c2, ks2, rfl, hk1, K1, hk2, K2⟩ := hk.two
  have hb : Below w.heap.size w (w.alloc (.cells #[.int .u8 43, .int .i64 (m : Int), .string ⟨#[]⟩, .slice (some ⟨g, o, none⟩) 2 c] 24)) := (Below.refl _ _).alloc (Nat.le_refl _) _
  have hblk := Blk.new w 24 #[.int .u8 43, .int .i64 (m : Int), .string ⟨#[]⟩, .slice (some ⟨g, o, none⟩) 2 c]
  simp only [PP.Tree.depth, PP.depthL] at hi
  have HK1 := Lib.hid (K1.below (hb.mono hB))
  have HK2 := Lib.hid (K2.below (hb.mono hB))
  have hs1 := size_mk (PP.prE a)
  have hsD := size_mk (PP.dec m)
  have hsD2 := PP.dec_len m
  have hs2 := size_mk (bracesP b i)
  have hz2 := bracesP_len b i
  have hsT := size_mk (PP.tabs i)
  rw [tabs_len] at hsT
  have hc1 := fun w' hk hB => Ra w' B k1 num1 nm1 A1 c1 ks1 hk1 hk hB
  have hc2 := fun w' hk hB => braces14 Rb w' B k2 num2 nm2 A2 c2 ks2 i hk2 hk hB (by omega) (by omega)
  have hcT := fun w' => tabs14 i w' (by omega)
  have hcD := fun w' => decimal14 m w' (by omega)
  clear Ra hk1 Rb hk2 hi
  go_enter Tryd.func36, Tryd.ntmps36
  go_upto_region 10 with fail
  generalize w.alloc (.cells #[.int .u8 43, .int .i64 (m : Int), .string ⟨#[]⟩, .slice (some ⟨g, o, none⟩) 2 c] 24) = w6 at *
  have q1 : ∀ d os, Calls Tryd.prog 12 #[.agg #[.int .u8 (k1 : Int), .int .i64 num1, .string ⟨nm1.toArray⟩, .slice A1 ks1.length c1]] (Sort.grow (redrawn w6 d) os) fun e w'' => e = .returned (.string ⟨(PP.prE a).toArray⟩) ∧ ∃ p : Regrown, w'' = Sort.grow (redrawn w6 p.d) p.os :=
    fun d os => Calls.regrown_of (hc1 _ (HK1.out.below ((below_regrown w6 d os).mono (Nat.le_trans hB hb.size))).ks (Nat.le_trans hB (Nat.le_trans hb.size (below_regrown w6 d os).size)))
  have q2 : ∀ d os, Calls Tryd.prog 70 #[.agg #[.int .u8 (k2 : Int), .int .i64 num2, .string ⟨nm2.toArray⟩, .slice A2 ks2.length c2], .int .i64 (i : Int)] (Sort.grow (redrawn w6 d) os) fun e w'' => e = .returned (.string ⟨(bracesP b i).toArray⟩) ∧ ∃ p : Regrown, w'' = Sort.grow (redrawn w6 p.d) p.os :=
    fun d os => Calls.regrown_of (hc2 _ (HK2.out.below ((below_regrown w6 d os).mono (Nat.le_trans hB hb.size))).ks (Nat.le_trans hB (Nat.le_trans hb.size (below_regrown w6 d os).size)))
  have qD : ∀ d os, Calls Tryd.prog 30 #[.int .i64 (m : Int)] (Sort.grow (redrawn w6 d) os) fun e w'' => e = .returned (.string ⟨(PP.dec m).toArray⟩) ∧ ∃ p : Regrown, w'' = Sort.grow (redrawn w6 p.d) p.os :=
    fun d os => Calls.regrown_of ((hcD _).mono fun _ _ ⟨h1, h2⟩ => ⟨h1, h2 ▸ Below.refl _ _⟩)
  have z1 := cell_regrown hblk.four.1.2.1
  have z3 := cell_regrown hblk.four.1.2.2.2
  have y10 := cell_regrown HK1.out.c0
  have y11 := cell_regrown HK1.out.c1
  have y12 := cell_regrown HK1.out.c2
  have y13 := cell_regrown HK1.out.c3
  have y20 := cell_regrown HK2.out.c0
  have y21 := cell_regrown HK2.out.c1
  have y22 := cell_regrown HK2.out.c2
  have y23 := cell_regrown HK2.out.c3
  have HB := Lib.hid hb
  have GT1 : Hid ((⟨(PP.prE a).toArray⟩ : ByteArray).data.toList = PP.prE a) := Lib.hid rfl
  generalize (⟨(PP.prE a).toArray⟩ : ByteArray) = T1 at *
  have GDV : Hid ((⟨(PP.dec m).toArray⟩ : ByteArray).data.toList = PP.dec m) := Lib.hid rfl
  generalize (⟨(PP.dec m).toArray⟩ : ByteArray) = DV at *
  have GT2 : Hid ((⟨(bracesP b i).toArray⟩ : ByteArray).data.toList = bracesP b i) := Lib.hid rfl
  generalize (⟨(bracesP b i).toArray⟩ : ByteArray) = T2 at *
  have GTT : Hid ((⟨(PP.tabs i).toArray⟩ : ByteArray).data.toList = PP.tabs i) := Lib.hid rfl
  generalize (⟨(PP.tabs i).toArray⟩ : ByteArray) = TT at *
  have n1 : ¬ 9223372036854775807 < 6 + T1.size := by omega
  have n2 : ¬ 9223372036854775807 < 6 + T1.size + 7 := by omega
  have n3 : ¬ 9223372036854775807 < 6 + T1.size + 7 + DV.size := by omega
  have n4 : ¬ 9223372036854775807 < 6 + T1.size + 7 + DV.size + 1 := by omega
  have n5 : ¬ 9223372036854775807 < 6 + T1.size + 7 + DV.size + 1 + T2.size := by omega
  have hend : 6 + T1.size + 7 + DV.size + 1 + T2.size ≤ 2000000000000 := by omega
  have htt : TT.size ≤ 2000000000000 := by omega
  have HCT := Lib.hid hcT
  clear hsD hsD2 hs1 hs2 hz2 hsT hl hc1 hc2 hcD hb hblk hk hcT K1 K2
  have HE := Lib.hid hend
  have HTT := Lib.hid htt
  clear hend htt
  refine wp_region_quiet_below (by kernel_rfl) (by kernel_rfl) ?_
  repeat (quiet_step (with_reducible first | exact q1 _ _ | exact q2 _ _ | exact qD _ _))
  refine wpQuiet_nil ?_
  intro _ hw'
  obtain ⟨⟨dq, osq⟩, hw''⟩ := hw'
  subst hw''
  clear q1 q2 qD z1 z3 y10 y11 y12 y13 y20 y21 y22 y23 n1 n2 n3 n4 n5
  have hE := HE.out
  have hTT := HTT.out
  go_wp2_with fail
  refine (HCT.out _).mono ?_
  rintro e w7 ⟨rfl, rfl⟩
  go_wp2_with fail
  go_ret
  refine ⟨str_eq ?_, HB.out.trans ((below_regrown w6 dq osq).mono HB.out.size)⟩
  simp [ByteArray.data_append, GT1.out, GDV.out, GT2.out, GTT.out, PP.sBound, PP.sWhile]
theorem rstmt_in {a : Tree} {m : Nat} (Ra : RExprOk a) (hm : m ≤ 1000) : RStmtOk (.node 44 (m : Int) [] [a]) := by
  intro w B k0 num0 nm0 A c kids i ht hk hB hi hlen
  injection ht with e1 e2 e3 e4
  subst e1 e2 e3 e4
  have hT : PP.prS (.node 44 (m : Int) [] [a]) i = PP.tabs i ++ (PP.sIn ++ PP.prE a ++ PP.sComma ++ PP.dec m ++ PP.sSemi) ++ [10] := by simp [PP.prS, PP.lineP]
  rw [hT] at hlen ⊢
  have hl := hlen
  simp only [List.length_append, tabs_len, List.length_cons, List.length_nil, PP.sComma, PP.sIn, PP.sSemi] at hl
  clear hT hlen
  obtain ⟨g, o, k1, num1, nm1, A1, c1, ks1, rfl, hk1, K1⟩ := hk.one
  have hb : Below w.heap.size w (w.alloc (.cells #[.int .u8 44, .int .i64 (m : Int), .string ⟨#[]⟩, .slice (some ⟨g, o, none⟩) 1 c] 24)) := (Below.refl _ _).alloc (Nat.le_refl _) _
  have hblk := Blk.new w 24 #[.int .u8 44, .int .i64 (m : Int), .string ⟨#[]⟩, .slice (some ⟨g, o, none⟩) 1 c]
  simp only [PP.Tree.depth, PP.depthL] at hi
  have HK1 := Lib.hid (K1.below (hb.mono hB))
  have hs1 := size_mk (PP.prE a)
  have hsD := size_mk (PP.dec m)
  have hsD2 := PP.dec_len m
  have hsT := size_mk (PP.tabs i)
  rw [tabs_len] at hsT
  have hc1 := fun w' hk hB => Ra w' B k1 num1 nm1 A1 c1 ks1 hk1 hk hB
  have hcT := fun w' => tabs14 i w' (by omega)
  have hcD := fun w' => decimal14 m w' (by omega)
  clear Ra hk1 hi
  go_enter Tryd.func36, Tryd.ntmps36
  go_upto_region 12 with fail
  generalize w.alloc (.cells #[.int .u8 44, .int .i64 (m : Int), .string ⟨#[]⟩, .slice (some ⟨g, o, none⟩) 1 c] 24) = w6 at *
  have q1 : ∀ d os, Calls Tryd.prog 12 #[.agg #[.int .u8 (k1 : Int), .int .i64 num1, .string ⟨nm1.toArray⟩, .slice A1 ks1.length c1]] (Sort.grow (redrawn w6 d) os) fun e w'' => e = .returned (.string ⟨(PP.prE a).toArray⟩) ∧ ∃ p : Regrown, w'' = Sort.grow (redrawn w6 p.d) p.os :=
    fun d os => Calls.regrown_of (hc1 _ (HK1.out.below ((below_regrown w6 d os).mono (Nat.le_trans hB hb.size))).ks (Nat.le_trans hB (Nat.le_trans hb.size (below_regrown w6 d os).size)))
  have qD : ∀ d os, Calls Tryd.prog 30 #[.int .i64 (m : Int)] (Sort.grow (redrawn w6 d) os) fun e w'' => e = .returned (.string ⟨(PP.dec m).toArray⟩) ∧ ∃ p : Regrown, w'' = Sort.grow (redrawn w6 p.d) p.os :=
    fun d os => Calls.regrown_of ((hcD _).mono fun _ _ ⟨h1, h2⟩ => ⟨h1, h2 ▸ Below.refl _ _⟩)
  have z1 := cell_regrown hblk.four.1.2.1
  have z3 := cell_regrown hblk.four.1.2.2.2
  have y10 := cell_regrown HK1.out.c0
  have y11 := cell_regrown HK1.out.c1
  have y12 := cell_regrown HK1.out.c2
  have y13 := cell_regrown HK1.out.c3
  have HB := Lib.hid hb
  have GT1 : Hid ((⟨(PP.prE a).toArray⟩ : ByteArray).data.toList = PP.prE a) := Lib.hid rfl
  generalize (⟨(PP.prE a).toArray⟩ : ByteArray) = T1 at *
  have GDV : Hid ((⟨(PP.dec m).toArray⟩ : ByteArray).data.toList = PP.dec m) := Lib.hid rfl
  generalize (⟨(PP.dec m).toArray⟩ : ByteArray) = DV at *
  have GTT : Hid ((⟨(PP.tabs i).toArray⟩ : ByteArray).data.toList = PP.tabs i) := Lib.hid rfl
  generalize (⟨(PP.tabs i).toArray⟩ : ByteArray) = TT at *
  have n1 : ¬ 9223372036854775807 < 3 + T1.size := by omega
  have n2 : ¬ 9223372036854775807 < 3 + T1.size + 2 := by omega
  have n3 : ¬ 9223372036854775807 < 3 + T1.size + 2 + DV.size := by omega
  have n4 : ¬ 9223372036854775807 < 3 + T1.size + 2 + DV.size + 1 := by omega
  have hend : 3 + T1.size + 2 + DV.size + 1 ≤ 2000000000000 := by omega
  have htt : TT.size ≤ 2000000000000 := by omega
  have HCT := Lib.hid hcT
  clear hsD hsD2 hs1 hsT hl hc1 hcD hb hblk hk hcT K1
  have HE := Lib.hid hend
  have HTT := Lib.hid htt
  clear hend htt
  refine wp_region_quiet_below (by kernel_rfl) (by kernel_rfl) ?_
  repeat (quiet_step (with_reducible first | exact q1 _ _ | exact qD _ _))
  refine wpQuiet_nil ?_
  intro _ hw'
  obtain ⟨⟨dq, osq⟩, hw''⟩ := hw'
  subst hw''
  clear q1 qD z1 z3 y10 y11 y12 y13 n1 n2 n3 n4
  have hE := HE.out
  have hTT := HTT.out
  go_wp2_with fail
  refine (HCT.out _).mono ?_
  rintro e w7 ⟨rfl, rfl⟩
  go_wp2_with fail
  go_ret
  refine ⟨str_eq ?_, HB.out.trans ((below_regrown w6 dq osq).mono HB.out.size)⟩
  simp [ByteArray.data_append, GT1.out, GDV.out, GTT.out, PP.sComma, PP.sIn, PP.sSemi]
theorem rstmt_out {a : Tree} {m : Nat} (Ra : RExprOk a) (hm : m ≤ 1000) : RStmtOk (.node 45 (m : Int) [] [a]) := by
  intro w B k0 num0 nm0 A c kids i ht hk hB hi hlen
  injection ht with e1 e2 e3 e4
  subst e1 e2 e3 e4
  have hT : PP.prS (.node 45 (m : Int) [] [a]) i = PP.tabs i ++ (PP.sOut ++ PP.prE a ++ PP.sComma ++ PP.dec m ++ PP.sSemi) ++ [10] := by simp [PP.prS, PP.lineP]
  rw [hT] at hlen ⊢
  have hl := hlen
  simp only [List.length_append, tabs_len, List.length_cons, List.length_nil, PP.sComma, PP.sOut, PP.sSemi] at hl
  clear hT hlen
  obtain ⟨g, o, k1, num1, nm1, A1, c1, ks1, rfl, hk1, K1⟩ := hk.one
  have hb : Below w.heap.size w (w.alloc (.cells #[.int .u8 45, .int .i64 (m : Int), .string ⟨#[]⟩, .slice (some ⟨g, o, none⟩) 1 c] 24)) := (Below.refl _ _).alloc (Nat.le_refl _) _
  have hblk := Blk.new w 24 #[.int .u8 45, .int .i64 (m : Int), .string ⟨#[]⟩, .slice (some ⟨g, o, none⟩) 1 c]
  simp only [PP.Tree.depth, PP.depthL] at hi
  have HK1 := Lib.hid (K1.below (hb.mono hB))
  have hs1 := size_mk (PP.prE a)
  have hsD := size_mk (PP.dec m)
  have hsD2 := PP.dec_len m
  have hsT := size_mk (PP.tabs i)
  rw [tabs_len] at hsT
  have hc1 := fun w' hk hB => Ra w' B k1 num1 nm1 A1 c1 ks1 hk1 hk hB
  have hcT := fun w' => tabs14 i w' (by omega)
  have hcD := fun w' => decimal14 m w' (by omega)
  clear Ra hk1 hi
  go_enter Tryd.func36, Tryd.ntmps36
  go_upto_region 14 with fail
  generalize w.alloc (.cells #[.int .u8 45, .int .i64 (m : Int), .string ⟨#[]⟩, .slice (some ⟨g, o, none⟩) 1 c] 24) = w6 at *
  have q1 : ∀ d os, Calls Tryd.prog 12 #[.agg #[.int .u8 (k1 : Int), .int .i64 num1, .string ⟨nm1.toArray⟩, .slice A1 ks1.length c1]] (Sort.grow (redrawn w6 d) os) fun e w'' => e = .returned (.string ⟨(PP.prE a).toArray⟩) ∧ ∃ p : Regrown, w'' = Sort.grow (redrawn w6 p.d) p.os :=
    fun d os => Calls.regrown_of (hc1 _ (HK1.out.below ((below_regrown w6 d os).mono (Nat.le_trans hB hb.size))).ks (Nat.le_trans hB (Nat.le_trans hb.size (below_regrown w6 d os).size)))
  have qD : ∀ d os, Calls Tryd.prog 30 #[.int .i64 (m : Int)] (Sort.grow (redrawn w6 d) os) fun e w'' => e = .returned (.string ⟨(PP.dec m).toArray⟩) ∧ ∃ p : Regrown, w'' = Sort.grow (redrawn w6 p.d) p.os :=
    fun d os => Calls.regrown_of ((hcD _).mono fun _ _ ⟨h1, h2⟩ => ⟨h1, h2 ▸ Below.refl _ _⟩)
  have z1 := cell_regrown hblk.four.1.2.1
  have z3 := cell_regrown hblk.four.1.2.2.2
  have y10 := cell_regrown HK1.out.c0
  have y11 := cell_regrown HK1.out.c1
  have y12 := cell_regrown HK1.out.c2
  have y13 := cell_regrown HK1.out.c3
  have HB := Lib.hid hb
  have GT1 : Hid ((⟨(PP.prE a).toArray⟩ : ByteArray).data.toList = PP.prE a) := Lib.hid rfl
  generalize (⟨(PP.prE a).toArray⟩ : ByteArray) = T1 at *
  have GDV : Hid ((⟨(PP.dec m).toArray⟩ : ByteArray).data.toList = PP.dec m) := Lib.hid rfl
  generalize (⟨(PP.dec m).toArray⟩ : ByteArray) = DV at *
  have GTT : Hid ((⟨(PP.tabs i).toArray⟩ : ByteArray).data.toList = PP.tabs i) := Lib.hid rfl
  generalize (⟨(PP.tabs i).toArray⟩ : ByteArray) = TT at *
  have n1 : ¬ 9223372036854775807 < 4 + T1.size := by omega
  have n2 : ¬ 9223372036854775807 < 4 + T1.size + 2 := by omega
  have n3 : ¬ 9223372036854775807 < 4 + T1.size + 2 + DV.size := by omega
  have n4 : ¬ 9223372036854775807 < 4 + T1.size + 2 + DV.size + 1 := by omega
  have hend : 4 + T1.size + 2 + DV.size + 1 ≤ 2000000000000 := by omega
  have htt : TT.size ≤ 2000000000000 := by omega
  have HCT := Lib.hid hcT
  clear hsD hsD2 hs1 hsT hl hc1 hcD hb hblk hk hcT K1
  have HE := Lib.hid hend
  have HTT := Lib.hid htt
  clear hend htt
  refine wp_region_quiet_below (by kernel_rfl) (by kernel_rfl) ?_
  repeat (quiet_step (with_reducible first | exact q1 _ _ | exact qD _ _))
  refine wpQuiet_nil ?_
  intro _ hw'
  obtain ⟨⟨dq, osq⟩, hw''⟩ := hw'
  subst hw''
  clear q1 qD z1 z3 y10 y11 y12 y13 n1 n2 n3 n4
  have hE := HE.out
  have hTT := HTT.out
  go_wp2_with fail
  refine (HCT.out _).mono ?_
  rintro e w7 ⟨rfl, rfl⟩
  go_wp2_with fail
  go_ret
  refine ⟨str_eq ?_, HB.out.trans ((below_regrown w6 dq osq).mono HB.out.size)⟩
  simp [ByteArray.data_append, GT1.out, GDV.out, GTT.out, PP.sComma, PP.sOut, PP.sSemi]
theorem rstmt_lock {a : Tree} {nm : List UInt8} (Ra : RLinesOk a) : RStmtOk (.node 46 0 nm [a]) := by
  intro w B k0 num0 nm0 A c kids i ht hk hB hi hlen
  injection ht with e1 e2 e3 e4
  subst e1 e2 e3 e4
  have hT : PP.prS (.node 46 0 nm [a]) i = PP.tabs i ++ (PP.sLock ++ nm ++ [32] ++ bracesP a i) ++ [10] := by simp [PP.prS, PP.lineP, bracesP, PP.sOb, PP.sCb]
  rw [hT] at hlen ⊢
  have hl := hlen
  simp only [List.length_append, tabs_len, List.length_cons, List.length_nil, PP.sLock] at hl
  clear hT hlen
  obtain ⟨g, o, k1, num1, nm1, A1, c1, ks1, rfl, hk1, K1⟩ := hk.one
  have hb : Below w.heap.size w (w.alloc (.cells #[.int .u8 46, .int .i64 0, .string ⟨nm.toArray⟩, .slice (some ⟨g, o, none⟩) 1 c] 24)) := (Below.refl _ _).alloc (Nat.le_refl _) _
  have hblk := Blk.new w 24 #[.int .u8 46, .int .i64 0, .string ⟨nm.toArray⟩, .slice (some ⟨g, o, none⟩) 1 c]
  simp only [PP.Tree.depth, PP.depthL] at hi
  have HK1 := Lib.hid (K1.below (hb.mono hB))
  have hsN := size_mk nm
  have hs1 := size_mk (bracesP a i)
  have hz1 := bracesP_len a i
  have hsT := size_mk (PP.tabs i)
  rw [tabs_len] at hsT
  have hc1 := fun w' hk hB => braces14 Ra w' B k1 num1 nm1 A1 c1 ks1 i hk1 hk hB (by omega) (by omega)
  have hcT := fun w' => tabs14 i w' (by omega)
  clear Ra hk1 hi
  go_enter Tryd.func36, Tryd.ntmps36
  go_upto_region 16 with fail
  generalize w.alloc (.cells #[.int .u8 46, .int .i64 0, .string ⟨nm.toArray⟩, .slice (some ⟨g, o, none⟩) 1 c] 24) = w6 at *
  have q1 : ∀ d os, Calls Tryd.prog 70 #[.agg #[.int .u8 (k1 : Int), .int .i64 num1, .string ⟨nm1.toArray⟩, .slice A1 ks1.length c1], .int .i64 (i : Int)] (Sort.grow (redrawn w6 d) os) fun e w'' => e = .returned (.string ⟨(bracesP a i).toArray⟩) ∧ ∃ p : Regrown, w'' = Sort.grow (redrawn w6 p.d) p.os :=
    fun d os => Calls.regrown_of (hc1 _ (HK1.out.below ((below_regrown w6 d os).mono (Nat.le_trans hB hb.size))).ks (Nat.le_trans hB (Nat.le_trans hb.size (below_regrown w6 d os).size)))
  have z2 := cell_regrown hblk.four.1.2.2.1
  have z3 := cell_regrown hblk.four.1.2.2.2
  have y10 := cell_regrown HK1.out.c0
  have y11 := cell_regrown HK1.out.c1
  have y12 := cell_regrown HK1.out.c2
  have y13 := cell_regrown HK1.out.c3
  have HB := Lib.hid hb
  have GNMV : Hid ((⟨(nm).toArray⟩ : ByteArray).data.toList = nm) := Lib.hid rfl
  generalize (⟨(nm).toArray⟩ : ByteArray) = NMV at *
  have GT1 : Hid ((⟨(bracesP a i).toArray⟩ : ByteArray).data.toList = bracesP a i) := Lib.hid rfl
  generalize (⟨(bracesP a i).toArray⟩ : ByteArray) = T1 at *
  have GTT : Hid ((⟨(PP.tabs i).toArray⟩ : ByteArray).data.toList = PP.tabs i) := Lib.hid rfl
  generalize (⟨(PP.tabs i).toArray⟩ : ByteArray) = TT at *
  have n1 : ¬ 9223372036854775807 < 5 + NMV.size := by omega
  have n2 : ¬ 9223372036854775807 < 5 + NMV.size + 1 := by omega
  have n3 : ¬ 9223372036854775807 < 5 + NMV.size + 1 + T1.size := by omega
  have hend : 5 + NMV.size + 1 + T1.size ≤ 2000000000000 := by omega
  have htt : TT.size ≤ 2000000000000 := by omega
  have HCT := Lib.hid hcT
  clear hsN hs1 hz1 hsT hl hc1 hb hblk hk hcT K1
  have HE := Lib.hid hend
  have HTT := Lib.hid htt
  clear hend htt
  refine wp_region_quiet_below (by kernel_rfl) (by kernel_rfl) ?_
  repeat (quiet_step (with_reducible first | exact q1 _ _))
  refine wpQuiet_nil ?_
  intro _ hw'
  obtain ⟨⟨dq, osq⟩, hw''⟩ := hw'
  subst hw''
  clear q1 z2 z3 y10 y11 y12 y13 n1 n2 n3
  have hE := HE.out
  have hTT := HTT.out
  go_wp2_with fail
  refine (HCT.out _).mono ?_
  rintro e w7 ⟨rfl, rfl⟩
  go_wp2_with fail
  go_ret
  refine ⟨str_eq ?_, HB.out.trans ((below_regrown w6 dq osq).mono HB.out.size)⟩
  simp [ByteArray.data_append, GNMV.out, GT1.out, GTT.out, PP.sLock]
end
end Go.Proofs.YtfakdbnfpdalhaaDoor
