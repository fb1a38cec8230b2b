/- The contract of the reference printer's Expr, case by case. -/
import Derived.Test.YtfakdbnfpdalhaaDoorRefQ
import Derived.Test.YtfakdbnfpdalhaaDoorPrC
import Derived.Deep.DeepCutAuto
namespace Go.Proofs.YtfakdbnfpdalhaaDoor
open Go.RowKit
open PP (Tree)
/-- The contract of the reference's Expr at a tree. -/
def RExprOk (t : Tree) : Prop := ∀ (w : World) (B : Nat) (k : Nat) (num : Int) (nm : List UInt8) (A : Option Addr) (c : Nat) (kids : List Tree), t = .node k num nm kids → KidsC w (· < B) A kids → B ≤ w.heap.size →
  Calls Tryd.prog 12 #[.agg #[.int .u8 (k : Int), .int .i64 num, .string ⟨nm.toArray⟩, .slice A kids.length c]] w fun e w' => e = .returned (.string ⟨(PP.prE t).toArray⟩) ∧ Below w.heap.size w w'
theorem sym4 : symCells[0]? = some (.string ⟨(PP.symbol 4).toArray⟩) := symCells_at (k := 4) (by decide) (by decide)
theorem sym5 : symCells[1]? = some (.string ⟨(PP.symbol 5).toArray⟩) := symCells_at (k := 5) (by decide) (by decide)
theorem Blk.belowR {w w' : World} {g : Nat} {t : TypeId} {cs : Array Value} (h : Blk w g t cs) (hb : Below w.heap.size w w') : Blk w' g t cs := (hb.block g h.lt).trans h
theorem size_mk (l : List UInt8) : (⟨l.toArray⟩ : ByteArray).size = l.length := by simp [ByteArray.size]
section
set_option maxHeartbeats 2000000
set_option maxRecDepth 100000
theorem rexpr_num {num : Int} (h0 : 0 ≤ num) (h1 : num ≤ 2147483647) : RExprOk (.node 1 num [] []) := by
  intro w B k num' nm A c kids ht hk _
  injection ht with e1 e2 e3 e4
  subst e1 e2 e3 e4
  obtain ⟨n, rfl⟩ := Int.eq_ofNat_of_zero_le h0
  rw [show PP.prE (.node 1 (n : Int) [] []) = PP.dec n from by simp [PP.prE]]
  have hb : Below w.heap.size w (w.alloc (.cells #[.int .u8 1, .int .i64 (n : Int), .string ⟨#[]⟩, .slice A 0 c] 24)) := (Below.refl _ _).alloc (Nat.le_refl _) _
  have HC := Lib.hid (decimal14 n (w.alloc (.cells #[.int .u8 1, .int .i64 (n : Int), .string ⟨#[]⟩, .slice A 0 c] 24)) (by omega))
  clear hk
  go_enter Tryd.func12, Tryd.ntmps12
  go_wp2_with fail
  refine HC.out.mono ?_
  rintro e w' ⟨rfl, rfl⟩
  go_wp2_with fail
  go_ret
  exact ⟨rfl, hb⟩
theorem rexpr_var {nm : List UInt8} : RExprOk (.node 2 0 nm []) := by
  intro w B k num' nm A c kids ht hk _
  injection ht with e1 e2 e3 e4
  subst e1 e2 e3 e4
  rw [show PP.prE (.node 2 0 nm []) = nm from by simp [PP.prE]]
  have hb : Below w.heap.size w (w.alloc (.cells #[.int .u8 2, .int .i64 0, .string ⟨nm.toArray⟩, .slice A 0 c] 24)) := (Below.refl _ _).alloc (Nat.le_refl _) _
  clear hk
  go_enter Tryd.func12, Tryd.ntmps12
  go_wp2_with fail
  go_ret
  exact ⟨rfl, hb⟩
theorem rexpr_item {nm : List UInt8} {a : Tree} (hE : RExprOk a) (hn : nm.length ≤ 1000) (ha : (PP.prE a).length ≤ 1000000) : RExprOk (.node 3 0 nm [a]) := by
  intro w B k num' nm A c kids ht hk hB
  injection ht with e1 e2 e3 e4
  subst e1 e2 e3 e4
  rw [show PP.prE (.node 3 0 nm [a]) = nm ++ [91] ++ PP.prE a ++ [93] from by simp [PP.prE]]
  obtain ⟨g, o, k1, num1, nm1, A1, c1, ks1, rfl, hak, K⟩ := hk.one
  have hb : Below w.heap.size w (w.alloc (.cells #[.int .u8 3, .int .i64 0, .string ⟨nm.toArray⟩, .slice (some ⟨g, o, none⟩) 1 c] 24)) := (Below.refl _ _).alloc (Nat.le_refl _) _
  have hblk := Blk.new w 24 #[.int .u8 3, .int .i64 0, .string ⟨nm.toArray⟩, .slice (some ⟨g, o, none⟩) 1 c]
  have HK := Lib.hid (K.below (hb.mono hB))
  have hs1 := size_mk nm
  have hs2 := size_mk (PP.prE a)
  have hE' := fun w' hk hB => hE w' B k1 num1 nm1 A1 c1 ks1 hak hk hB
  go_enter Tryd.func12, Tryd.ntmps12
  go_wp2_with fail
  generalize w.alloc (.cells #[.int .u8 3, .int .i64 0, .string ⟨nm.toArray⟩, .slice (some ⟨g, o, none⟩) 1 c] 24) = w6 at *
  have cE : ∀ d os, Calls Tryd.prog 12 #[.agg #[.int .u8 (k1 : Int), .int .i64 num1, .string ⟨nm1.toArray⟩, .slice A1 ks1.length c1]] (Sort.grow (redrawn w6 d) os) fun e w'' => e = .returned (.string ⟨(PP.prE a).toArray⟩) ∧ ∃ p : Regrown, w'' = Sort.grow (redrawn w6 p.d) p.os :=
    fun d os => Calls.regrown_of (hE' _ (HK.out.below ((below_regrown w6 d os).mono (Nat.le_trans hB hb.size))).ks (Nat.le_trans hB (Nat.le_trans hb.size (below_regrown w6 d os).size)))
  have k2 := cell_regrown hblk.four.1.2.2.1
  have k3 := cell_regrown hblk.four.1.2.2.2
  have j0 := cell_regrown HK.out.c0
  have j1 := cell_regrown HK.out.c1
  have j2 := cell_regrown HK.out.c2
  have j3 := cell_regrown HK.out.c3
  clear hE' hE hak K hblk hk
  generalize hTA : (⟨(PP.prE a).toArray⟩ : ByteArray) = TA at *
  generalize hNM : (⟨nm.toArray⟩ : ByteArray) = NM at *
  have HT1 := Lib.hid hNM
  have HT2 := Lib.hid hTA
  have n1 : ¬ 9223372036854775807 < NM.size + 1 := by omega
  have n2 : ¬ 9223372036854775807 < NM.size + 1 + TA.size := by omega
  have n3 : ¬ 9223372036854775807 < NM.size + 1 + TA.size + 1 := by omega
  clear hs1 hs2 hTA hNM
  refine wp_region_quiet_below (by kernel_rfl) (by kernel_rfl) ?_
  repeat (quiet_step (first | exact cE _ _))
  refine wpQuiet_nil ?_
  intro _ hw'
  obtain ⟨⟨dq, osq⟩, hw''⟩ := hw'
  subst hw''
  clear cE k2 k3 j0 j1 j2 j3
  go_wp2_with fail
  go_ret
  refine ⟨str_eq ?_, hb.trans ((below_regrown w6 dq osq).mono hb.size)⟩
  rw [← HT1.out, ← HT2.out]
  simp [ByteArray.data_append]
theorem rexpr_un {k : Nat} {a : Tree} (h1 : 4 ≤ k) (h2 : k ≤ 5) (hE : RExprOk a) (ha : (PP.prE a).length ≤ 1000000) (hka : a.kind ≤ 255) : RExprOk (.node k 0 [] [a]) := by
  intro w B k0 num' nm A c kids ht hk hB
  injection ht with e1 e2 e3 e4
  subst e1 e2 e3 e4
  rw [show PP.prE (.node k 0 [] [a]) = PP.symbol k ++ PP.wrapP (PP.bin a.kind) (PP.prE a) from by simp only [PP.prE]; rw [if_neg (by omega)]]
  obtain ⟨g, o, k1, num1, nm1, A1, c1, ks1, rfl, hak, K⟩ := hk.one
  have hkk : a.kind = k1 := by rw [hak]; rfl
  rw [hkk] at hka ⊢
  have hb : Below w.heap.size w (w.alloc (.cells #[.int .u8 (k : Int), .int .i64 0, .string ⟨#[]⟩, .slice (some ⟨g, o, none⟩) 1 c] 24)) := (Below.refl _ _).alloc (Nat.le_refl _) _
  have hblk := Blk.new w 24 #[.int .u8 (k : Int), .int .i64 0, .string ⟨#[]⟩, .slice (some ⟨g, o, none⟩) 1 c]
  have HK := Lib.hid (K.below (hb.mono hB))
  have hs2 := size_mk (PP.prE a)
  have hE' := fun w' hk hB => hE w' B k1 num1 nm1 A1 c1 ks1 hak hk hB
  have HKK := Lib.hid hkk
  have n1 : ((k : Int) == 1) = false := by simp; omega
  have n2 : ((k : Int) == 2) = false := by simp; omega
  have n3 : ((k : Int) == 3) = false := by simp; omega
  clear hkk
  go_enter Tryd.func12, Tryd.ntmps12
  go_upto_region 8 with fail
  generalize w.alloc (.cells #[.int .u8 (k : Int), .int .i64 0, .string ⟨#[]⟩, .slice (some ⟨g, o, none⟩) 1 c] 24) = w6 at *
  have HB := Lib.hid hb
  have HBK := Lib.hid hblk
  have HE := Lib.hid hE'
  have HAK := Lib.hid hak
  have HL := Lib.hid (symbols_ex w6.drew)
  have Xd := Lib.hid (show w6.drew.cell? ⟨w.heap.size, 0, none⟩ = some (.int .u8 (k : Int)) from hblk.four.1.1)
  have HLT := Lib.hid (show w.heap.size < w6.drew.heap.size from hblk.lt)
  clear hb hE hE' hak K hk
  go_cut [3] (fun s3 wx => s3 = .string ⟨(PP.symbol k).toArray⟩ ∧ Below w6.heap.size w6 wx)
  case first =>
    have x0 := hblk.four.1.1
    have p0 : IntKind.u8.wrap ((k : Int) - 4) = (k : Int) - 4 := wrap_u8 (by omega) (by omega)
    have p1 : (0 : Int) ≤ (k : Int) - 4 := by omega
    have p2 : (k : Int) - 4 < 20 := by omega
    have p3 : ((k : Int) - 4).toNat = k - 4 := by omega
    clear hblk
    go_region_with (first | (go_at_call 31; refine HL.out.mono ?_; rintro e w7 ⟨gs, rfl, hg7, hb7⟩; have hc7 := (hg7.cell (k - 4)).trans (symCells_at h1 (by omega)); have hl7 := hg7.lt; have hx7 := (hb7.cell (p := ⟨w.heap.size, 0, none⟩) HLT.out).trans Xd.out))
    all_goals (clear p0 p1 p2 p3; go_wp2_with fail; go_meet; exact ⟨rfl, ((Below.refl w6.heap.size w6).drew).trans hb7⟩)
  case rest =>
    obtain ⟨rfl, hbc⟩ := hcut
    have hbB := hbc.mono (Nat.le_trans hB HB.out.size)
    have HK2 := Lib.hid (HK.out.below hbB)
    have HBC := Lib.hid (HB.out.trans (hbc.mono HB.out.size))
    have hblk2 := Blk.belowR HBK.out hbc
    obtain ⟨x0, x1, x2, x3⟩ := hblk2.four.1
    have hb14 := binary14 k 0 [] (some ⟨g, o, none⟩) 1 c wc (by omega)
    rw [show PP.bin k = false from by simp [PP.bin]; omega] at hb14
    have HB14 := Lib.hid hb14
    have HBK2 := Lib.hid hblk2
    clear hb14 hblk2 hbc hbB hblk
    go_wp2_with fail
    refine HB14.out.mono ?_
    rintro e w9 ⟨rfl, hb9⟩
    have hBc : B ≤ wc.heap.size := Nat.le_trans hB HBC.out.size
    have HK3 := Lib.hid (HK2.out.below (hb9.mono hBc))
    have HB9 := Lib.hid (HBC.out.trans (hb9.mono HBC.out.size))
    have hblk3 := Blk.belowR HBK2.out hb9
    have hB9 : B ≤ w9.heap.size := Nat.le_trans hBc hb9.size
    clear x0 x1 x2 x3 hb9 HB14
    go_wp2_with fail
    have hEw := HE.out
    generalize hTA : (⟨(PP.prE a).toArray⟩ : ByteArray) = TA at *
    have cE : ∀ d os, Calls Tryd.prog 12 #[.agg #[.int .u8 (k1 : Int), .int .i64 num1, .string ⟨nm1.toArray⟩, .slice A1 ks1.length c1]] (Sort.grow (redrawn w9 d) os) fun e w'' => e = .returned (.string TA) ∧ ∃ p : Regrown, w'' = Sort.grow (redrawn w9 p.d) p.os :=
      fun d os => Calls.regrown_of (hEw _ (HK3.out.below ((below_regrown w9 d os).mono hB9)).ks (Nat.le_trans hB9 (below_regrown w9 d os).size))
    have cB : ∀ d os, Calls Tryd.prog 32 #[.agg #[.int .u8 (k1 : Int), .int .i64 num1, .string ⟨nm1.toArray⟩, .slice A1 ks1.length c1]] (Sort.grow (redrawn w9 d) os) fun e w'' => e = .returned (.bool (PP.bin k1)) ∧ ∃ p : Regrown, w'' = Sort.grow (redrawn w9 p.d) p.os :=
      fun d os => Calls.regrown_of (binary14 k1 num1 nm1 A1 ks1.length c1 _ hka)
    have cW : ∀ d os, Calls Tryd.prog 33 #[.string TA, .bool (PP.bin k1)] (Sort.grow (redrawn w9 d) os) fun e w'' => e = .returned (.string ⟨(PP.wrapP (PP.bin k1) TA.data.toList).toArray⟩) ∧ ∃ p : Regrown, w'' = Sort.grow (redrawn w9 p.d) p.os :=
      fun d os => Calls.regrown_of ((wrap14 TA (PP.bin k1) _ (by omega)).mono fun _ _ ⟨h1, h2⟩ => ⟨h1, h2 ▸ Below.refl _ _⟩)
    have k3 := cell_regrown hblk3.four.1.2.2.2
    have j0 := cell_regrown HK3.out.c0
    have j1 := cell_regrown HK3.out.c1
    have j2 := cell_regrown HK3.out.c2
    have j3 := cell_regrown HK3.out.c3
    have hs3 := size_mk (PP.wrapP (PP.bin k1) TA.data.toList)
    have hs4 := PP.wrapP_len (PP.bin k1) TA.data.toList
    have hs5 : TA.data.toList.length = TA.size := Array.length_toList
    generalize hTW : (⟨(PP.wrapP (PP.bin k1) TA.data.toList).toArray⟩ : ByteArray) = TW at *
    have HTA := Lib.hid hTA
    have HTW := Lib.hid hTW
    have hs6 := size_mk (PP.symbol k)
    have hs7 := PP.symbol_len k
    generalize hSY : (⟨(PP.symbol k).toArray⟩ : ByteArray) = SY at *
    have HSY := Lib.hid hSY
    have n1 : ¬ 9223372036854775807 < SY.size + TW.size := by omega
    clear hEw HE hblk3 hs2 hs3 hs4 hs5 hs6 hs7 hTA hTW hSY
    refine wp_region_quiet_below (by kernel_rfl) (by kernel_rfl) ?_
    repeat (quiet_step (first | exact cE _ _ | exact cB _ _ | exact cW _ _))
    refine wpQuiet_nil ?_
    intro _ hw'
    obtain ⟨⟨dq, osq⟩, hw''⟩ := hw'
    subst hw''
    clear cE cB cW k3 j0 j1 j2 j3
    go_wp2_with fail
    go_ret
    refine ⟨str_eq ?_, HB9.out.trans ((below_regrown w9 dq osq).mono HB9.out.size)⟩
    rw [← HTW.out, ← HTA.out, ← HSY.out]
    simp [ByteArray.data_append]
end
end Go.Proofs.YtfakdbnfpdalhaaDoor
