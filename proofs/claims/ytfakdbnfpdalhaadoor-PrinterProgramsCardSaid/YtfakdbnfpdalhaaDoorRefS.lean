/- The contract of the reference printer's Expr at a binary operator. -/
import Derived.Test.YtfakdbnfpdalhaaDoorRefR
namespace Go.Proofs.YtfakdbnfpdalhaaDoor
open Go.RowKit
open PP (Tree)
theorem blk_2nd (w : World) (t t' : TypeId) (cs cs' : Array Value) : Blk ((w.alloc (.cells cs t)).alloc (.cells cs' t')) (w.heap.size + 1) t' cs' := by
  have := Blk.new (w.alloc (.cells cs t)) t' cs'
  rwa [World.size_alloc] at this
theorem skip_ifR {c : Bool} {A B : Prop} (hc : c = false) (h : B) : if c = true then A else B := by
  rw [if_neg (by rw [hc]; decide)]; exact h
section
set_option maxHeartbeats 8000000
set_option maxRecDepth 100000
theorem rexpr_bin {k : Nat} {a d : Tree} (h1 : 6 ≤ k) (h2 : k ≤ 23) (hEa : RExprOk a) (hEd : RExprOk d) (ha : (PP.prE a).length ≤ 1000000) (hd : (PP.prE d).length ≤ 1000000) (hka : a.kind ≤ 23) (hkd : d.kind ≤ 23) : RExprOk (.node k 0 [] [a, d]) := by
  intro w B k0 num' nm A c kids ht hk hB
  injection ht with e1 e2 e3 e4
  subst e1 e2 e3 e4
  rw [show PP.prE (.node k 0 [] [a, d]) = PP.wrapP (PP.bin a.kind && decide (PP.level a.kind < PP.level k)) (PP.prE a) ++ [32] ++ PP.symbol k ++ [32] ++ PP.wrapP (PP.bin d.kind && decide (PP.level d.kind ≤ PP.level k)) (PP.prE d) from by simp [PP.prE]]
  obtain ⟨g, o, k1, num1, nm1, A1, c1, ks1, k2, num2, nm2, A2, c2, ks2, rfl, hak, K1, hdk, K2⟩ := hk.two
  have hkk1 : a.kind = k1 := by rw [hak]; rfl
  have hkk2 : d.kind = k2 := by rw [hdk]; rfl
  rw [hkk1] at hka ⊢
  rw [hkk2] at hkd ⊢
  have hb : Below w.heap.size w (w.alloc (.cells #[.int .u8 (k : Int), .int .i64 0, .string ⟨#[]⟩, .slice (some ⟨g, o, none⟩) 2 c] 24)) := (Below.refl _ _).alloc (Nat.le_refl _) _
  have hblk := Blk.new w 24 #[.int .u8 (k : Int), .int .i64 0, .string ⟨#[]⟩, .slice (some ⟨g, o, none⟩) 2 c]
  have HK1 := Lib.hid (K1.below (hb.mono hB))
  have HK2 := Lib.hid (K2.below (hb.mono hB))
  have HE1 := Lib.hid (fun w' hk hB => hEa w' B k1 num1 nm1 A1 c1 ks1 hak hk hB)
  have HE2 := Lib.hid (fun w' hk hB => hEd w' B k2 num2 nm2 A2 c2 ks2 hdk hk hB)
  have hs1 := size_mk (PP.prE a)
  have hs2 := size_mk (PP.prE d)
  have n1 : ((k : Int) == 1) = false := by simp; omega
  have n2 : ((k : Int) == 2) = false := by simp; omega
  have n3 : ((k : Int) == 3) = false := by simp; omega
  clear hkk1 hkk2 hak hdk hEa hEd K1 K2 hk
  go_enter Tryd.func12, Tryd.ntmps12
  go_upto_region 8 with fail
  generalize w.alloc (.cells #[.int .u8 (k : Int), .int .i64 0, .string ⟨#[]⟩, .slice (some ⟨g, o, none⟩) 2 c] 24) = w6 at *
  have HB := Lib.hid hb
  have HBK := Lib.hid hblk
  have HL := Lib.hid (symbols_ex w6.drew)
  have Xd := Lib.hid (show w6.drew.cell? ⟨w.heap.size, 0, none⟩ = some (.int .u8 (k : Int)) from hblk.four.1.1)
  have HLT := Lib.hid (show w.heap.size < w6.drew.heap.size from hblk.lt)
  clear hb
  go_cut [3] (fun s3 wx => s3 = .string ⟨(PP.symbol k).toArray⟩ ∧ Below w6.heap.size w6 wx)
  case first =>
    have x0 := hblk.four.1.1
    have p0 : IntKind.u8.wrap ((k : Int) - 4) = (k : Int) - 4 := wrap_u8 (by omega) (by omega)
    have p1 : (0 : Int) ≤ (k : Int) - 4 := by omega
    have p2 : (k : Int) - 4 < 20 := by omega
    have p3 : ((k : Int) - 4).toNat = k - 4 := by omega
    clear hblk
    go_region_with (first | (go_at_call 31; refine HL.out.mono ?_; rintro e w7 ⟨gs, rfl, hg7, hb7⟩; have hc7 := (hg7.cell (k - 4)).trans (symCells_at (by omega) h2); have hl7 := hg7.lt; have hx7 := (hb7.cell (p := ⟨w.heap.size, 0, none⟩) HLT.out).trans Xd.out))
    all_goals (clear p0 p1 p2 p3; go_wp2_with fail; go_meet; exact ⟨rfl, ((Below.refl w6.heap.size w6).drew).trans hb7⟩)
  case rest =>
    obtain ⟨rfl, hbc⟩ := hcut
    have hbB := hbc.mono (Nat.le_trans hB HB.out.size)
    have J1 := Lib.hid (HK1.out.below hbB)
    have J2 := Lib.hid (HK2.out.below hbB)
    have HBC := Lib.hid (HB.out.trans (hbc.mono HB.out.size))
    have hblk2 := Blk.belowR HBK.out hbc
    obtain ⟨x0, x1, x2, x3⟩ := hblk2.four.1
    have hb14 := binary14 k 0 [] (some ⟨g, o, none⟩) 2 c wc (by omega)
    rw [show PP.bin k = true from by simp [PP.bin]; omega] at hb14
    have HB14 := Lib.hid hb14
    have HBK2 := Lib.hid hblk2
    have hBc : B ≤ wc.heap.size := Nat.le_trans hB HBC.out.size
    clear hb14 hblk2 hbc hbB hblk HK1 HK2 HL Xd HLT
    go_upto_region 11 with (go_at_call 32; refine HB14.out.mono ?_; rintro e w9 ⟨rfl, hb9⟩; have l1 := J1.out.below (hb9.mono hBc); have l2 := J2.out.below (hb9.mono hBc); have hblk3 := Blk.belowR HBK2.out hb9)
    have HB9 := Lib.hid (HBC.out.trans (hb9.mono HBC.out.size))
    have hB9 : B ≤ w9.heap.size := Nat.le_trans hBc hb9.size
    have I1 := Lib.hid l1
    have I2 := Lib.hid l2
    have HBK3 := Lib.hid hblk3
    clear x0 x1 x2 x3 hb9 HB14
    go_cut [4, 5] (fun s4 s5 wx => ∃ L R : Nat, s4 = .pointer (some ⟨L, 0, none⟩) ∧ s5 = .pointer (some ⟨R, 0, none⟩) ∧ Blk wx L 24 #[.int .u8 (k1 : Int), .int .i64 num1, .string ⟨nm1.toArray⟩, .slice A1 ks1.length c1] ∧ Blk wx R 24 #[.int .u8 (k2 : Int), .int .i64 num2, .string ⟨nm2.toArray⟩, .slice A2 ks2.length c2] ∧ Below w9.heap.size w9 wx)
    case first =>
      have y1 := l1.c0
      have y2 := l1.c1
      have y3 := l1.c2
      have y4 := l1.c3
      have z1 := l2.c0
      have z2 := l2.c1
      have z3 := l2.c2
      have z4 := l2.c3
      have hg : g < w9.heap.size := Nat.lt_of_lt_of_le l1.lt hB9
      have x3 := hblk3.four.1.2.2.2
      have hlt := hblk3.lt
      clear l1 l2 hblk3
      go_region
      all_goals (go_wp2_with fail; go_meet)
      · exact ⟨w9.heap.size, w9.heap.size + 1, rfl, rfl, (Blk.new w9 24 #[.int .u8 (k1 : Int), .int .i64 num1, .string ⟨nm1.toArray⟩, .slice A1 ks1.length c1]).alloc _, blk_2nd _ _ _ _ _, (((Below.refl w9.heap.size w9).alloc (Nat.le_refl _) _).alloc (by simp) _).drew⟩
      · exact ⟨w9.heap.size + 1, w9.heap.size, rfl, rfl, blk_2nd _ _ _ _ _, (Blk.new w9 24 #[.int .u8 (k2 : Int), .int .i64 num2, .string ⟨nm2.toArray⟩, .slice A2 ks2.length c2]).alloc _, (((Below.refl w9.heap.size w9).alloc (Nat.le_refl _) _).alloc (by simp) _).drew⟩
    case rest =>
      obtain ⟨L, R, rfl, rfl, hbL, hbR, hbx⟩ := hcut
      have hBx : B ≤ wc.heap.size := Nat.le_trans hB9 hbx.size
      have M1 := Lib.hid (I1.out.below (hbx.mono hB9))
      have M2 := Lib.hid (I2.out.below (hbx.mono hB9))
      have hb0 := Blk.belowR HBK3.out hbx
      have HBX := Lib.hid (HB9.out.trans (hbx.mono HB9.out.size))
      clear hbx l1 l2 hblk3
      generalize wc = wx at *
      go_wp2_with fail
      generalize hTA : (⟨(PP.prE a).toArray⟩ : ByteArray) = TA at *
      generalize hTD : (⟨(PP.prE d).toArray⟩ : ByteArray) = TD at *
      have hEa := HE1.out
      have hEd := HE2.out
      have cE1 : ∀ d os, Calls Tryd.prog 12 #[.agg #[.int .u8 (k1 : Int), .int .i64 num1, .string ⟨nm1.toArray⟩, .slice A1 ks1.length c1]] (Sort.grow (redrawn wx d) os) fun e w'' => e = .returned (.string TA) ∧ ∃ p : Regrown, w'' = Sort.grow (redrawn wx p.d) p.os :=
        fun d os => Calls.regrown_of (hEa _ (M1.out.below ((below_regrown wx d os).mono hBx)).ks (Nat.le_trans hBx (below_regrown wx d os).size))
      have cE2 : ∀ d os, Calls Tryd.prog 12 #[.agg #[.int .u8 (k2 : Int), .int .i64 num2, .string ⟨nm2.toArray⟩, .slice A2 ks2.length c2]] (Sort.grow (redrawn wx d) os) fun e w'' => e = .returned (.string TD) ∧ ∃ p : Regrown, w'' = Sort.grow (redrawn wx p.d) p.os :=
        fun d os => Calls.regrown_of (hEd _ (M2.out.below ((below_regrown wx d os).mono hBx)).ks (Nat.le_trans hBx (below_regrown wx d os).size))
      have cB1 : ∀ d os, Calls Tryd.prog 32 #[.agg #[.int .u8 (k1 : Int), .int .i64 num1, .string ⟨nm1.toArray⟩, .slice A1 ks1.length c1]] (Sort.grow (redrawn wx d) os) fun e w'' => e = .returned (.bool (PP.bin k1)) ∧ ∃ p : Regrown, w'' = Sort.grow (redrawn wx p.d) p.os :=
        fun d os => Calls.regrown_of (binary14 k1 num1 nm1 A1 ks1.length c1 _ (by omega))
      have cB2 : ∀ d os, Calls Tryd.prog 32 #[.agg #[.int .u8 (k2 : Int), .int .i64 num2, .string ⟨nm2.toArray⟩, .slice A2 ks2.length c2]] (Sort.grow (redrawn wx d) os) fun e w'' => e = .returned (.bool (PP.bin k2)) ∧ ∃ p : Regrown, w'' = Sort.grow (redrawn wx p.d) p.os :=
        fun d os => Calls.regrown_of (binary14 k2 num2 nm2 A2 ks2.length c2 _ (by omega))
      have cL0 : ∀ d os, Calls Tryd.prog 34 #[.agg #[.int .u8 (k : Int), .int .i64 0, .string ⟨#[]⟩, .slice (some ⟨g, o, none⟩) 2 c]] (Sort.grow (redrawn wx d) os) fun e w'' => e = .returned (.int .i64 (PP.level k : Int)) ∧ ∃ p : Regrown, w'' = Sort.grow (redrawn wx p.d) p.os :=
        fun d os => Calls.regrown_of (level14 k 0 [] (some ⟨g, o, none⟩) 2 c _ (by omega) h2)
      have j10 := cell_regrown hbL.four.1.1
      have j11 := cell_regrown hbL.four.1.2.1
      have j12 := cell_regrown hbL.four.1.2.2.1
      have j13 := cell_regrown hbL.four.1.2.2.2
      have j20 := cell_regrown hbR.four.1.1
      have j21 := cell_regrown hbR.four.1.2.1
      have j22 := cell_regrown hbR.four.1.2.2.1
      have j23 := cell_regrown hbR.four.1.2.2.2
      have i0 := cell_regrown hb0.four.1.1
      have i1 := cell_regrown hb0.four.1.2.1
      have i2 := cell_regrown hb0.four.1.2.2.1
      have i3 := cell_regrown hb0.four.1.2.2.2
      have hs6 := size_mk (PP.symbol k)
      have hs7 := PP.symbol_len k
      generalize hSY : (⟨(PP.symbol k).toArray⟩ : ByteArray) = SY at *
      have HSY := Lib.hid hSY
      have HTA := Lib.hid hTA
      have HTD := Lib.hid hTD
      have hs8 : TA.data.toList.length = TA.size := Array.length_toList
      have hs9 : TD.data.toList.length = TD.size := Array.length_toList
      clear hSY hTA hTD hEa hEd HE1 HE2 hbL hbR hb0
      have n5 := n1
      have n6 := n2
      have n7 := n3
      clear n1 n2 n3
      cases hv1 : PP.bin k1 with
      | true =>
        have H1 := Lib.hid hv1
        clear hv1
        cases hv2 : PP.bin k2 with
        | true =>
          have H2 := Lib.hid hv2
          clear hv2
          have cL1 : ∀ d os, Calls Tryd.prog 34 #[.agg #[.int .u8 (k1 : Int), .int .i64 num1, .string ⟨nm1.toArray⟩, .slice A1 ks1.length c1]] (Sort.grow (redrawn wx d) os) fun e w'' => e = .returned (.int .i64 (PP.level k1 : Int)) ∧ ∃ p : Regrown, w'' = Sort.grow (redrawn wx p.d) p.os :=
            fun d os => Calls.regrown_of (level14 k1 num1 nm1 A1 ks1.length c1 _ (by have := H1.out; simp [PP.bin] at this; omega) hka)
          have cL2 : ∀ d os, Calls Tryd.prog 34 #[.agg #[.int .u8 (k2 : Int), .int .i64 num2, .string ⟨nm2.toArray⟩, .slice A2 ks2.length c2]] (Sort.grow (redrawn wx d) os) fun e w'' => e = .returned (.int .i64 (PP.level k2 : Int)) ∧ ∃ p : Regrown, w'' = Sort.grow (redrawn wx p.d) p.os :=
            fun d os => Calls.regrown_of (level14 k2 num2 nm2 A2 ks2.length c2 _ (by have := H2.out; simp [PP.bin] at this; omega) hkd)
          have q1 := size_mk (PP.wrapP (decide (PP.level k1 < PP.level k)) TA.data.toList)
          have q2 := PP.wrapP_len (decide (PP.level k1 < PP.level k)) TA.data.toList
          have q3 := size_mk (PP.wrapP (decide (PP.level k2 ≤ PP.level k)) TD.data.toList)
          have q4 := PP.wrapP_len (decide (PP.level k2 ≤ PP.level k)) TD.data.toList
          have cW1 : ∀ d os, Calls Tryd.prog 33 #[.string TA, .bool (decide (PP.level k1 < PP.level k))] (Sort.grow (redrawn wx d) os) fun e w'' => e = .returned (.string ⟨(PP.wrapP (decide (PP.level k1 < PP.level k)) TA.data.toList).toArray⟩) ∧ ∃ p : Regrown, w'' = Sort.grow (redrawn wx p.d) p.os :=
            fun d os => Calls.regrown_of ((wrap14 TA (decide (PP.level k1 < PP.level k)) _ (by omega)).mono fun _ _ ⟨h1, h2⟩ => ⟨h1, h2 ▸ Below.refl _ _⟩)
          have cW2 : ∀ d os, Calls Tryd.prog 33 #[.string TD, .bool (decide (PP.level k2 ≤ PP.level k))] (Sort.grow (redrawn wx d) os) fun e w'' => e = .returned (.string ⟨(PP.wrapP (decide (PP.level k2 ≤ PP.level k)) TD.data.toList).toArray⟩) ∧ ∃ p : Regrown, w'' = Sort.grow (redrawn wx p.d) p.os :=
            fun d os => Calls.regrown_of ((wrap14 TD (decide (PP.level k2 ≤ PP.level k)) _ (by omega)).mono fun _ _ ⟨h1, h2⟩ => ⟨h1, h2 ▸ Below.refl _ _⟩)
          generalize hW1 : (⟨(PP.wrapP (decide (PP.level k1 < PP.level k)) TA.data.toList).toArray⟩ : ByteArray) = TW1 at *
          generalize hW2 : (⟨(PP.wrapP (decide (PP.level k2 ≤ PP.level k)) TD.data.toList).toArray⟩ : ByteArray) = TW2 at *
          have HW1 := Lib.hid hW1
          have HW2 := Lib.hid hW2
          have n1 : ¬ 9223372036854775807 < TW1.size + 1 := by omega
          have n2 : ¬ 9223372036854775807 < TW1.size + 1 + SY.size := by omega
          have n3 : ¬ 9223372036854775807 < TW1.size + 1 + SY.size + 1 := by omega
          have n4 : ¬ 9223372036854775807 < TW1.size + 1 + SY.size + 1 + TW2.size := by omega
          clear q1 q2 q3 q4 hs1 hs2 hs6 hs7 hs8 hs9 hW1 hW2 n5 n6 n7
          refine wp_region_quiet_below (by kernel_rfl) (by kernel_rfl) ?_
          iterate 5 (quiet_step (with_reducible first | exact cE1 _ _ | exact cE2 _ _ | exact cB1 _ _ | exact cB2 _ _ | exact cL0 _ _ | exact cW1 _ _ | exact cW2 _ _ | exact cL1 _ _ | exact cL2 _ _))
          rw [H1.out]
          iterate 6 (quiet_step (with_reducible first | exact cE1 _ _ | exact cE2 _ _ | exact cB1 _ _ | exact cB2 _ _ | exact cL0 _ _ | exact cW1 _ _ | exact cW2 _ _ | exact cL1 _ _ | exact cL2 _ _))
          iterate 10 (quiet_step (with_reducible first | exact cE1 _ _ | exact cE2 _ _ | exact cB1 _ _ | exact cB2 _ _ | exact cL0 _ _ | exact cW1 _ _ | exact cW2 _ _ | exact cL1 _ _ | exact cL2 _ _))
          rw [H2.out]
          iterate 6 (quiet_step (with_reducible first | exact cE1 _ _ | exact cE2 _ _ | exact cB1 _ _ | exact cB2 _ _ | exact cL0 _ _ | exact cW1 _ _ | exact cW2 _ _ | exact cL1 _ _ | exact cL2 _ _))
          iterate 3 (quiet_step (with_reducible first | exact cE1 _ _ | exact cE2 _ _ | exact cB1 _ _ | exact cB2 _ _ | exact cL0 _ _ | exact cW1 _ _ | exact cW2 _ _ | exact cL1 _ _ | exact cL2 _ _))
          refine wpQuiet_nil ?_
          intro _ hw'
          obtain ⟨⟨dq, osq⟩, hw''⟩ := hw'
          subst hw''
          clear cE1 cE2 cB1 cB2 cL0 cW1 cW2 j10 j11 j12 j13 j20 j21 j22 j23 i0 i1 i2 i3 cL1 cL2
          go_wp2_with fail
          go_ret
          refine ⟨str_eq ?_, HBX.out.trans ((below_regrown wx dq osq).mono HBX.out.size)⟩
          rw [H1.out, H2.out, ← HW1.out, ← HW2.out, ← HTA.out, ← HTD.out, ← HSY.out]
          simp [ByteArray.data_append]
        | false =>
          have H2 := Lib.hid hv2
          clear hv2
          have cL1 : ∀ d os, Calls Tryd.prog 34 #[.agg #[.int .u8 (k1 : Int), .int .i64 num1, .string ⟨nm1.toArray⟩, .slice A1 ks1.length c1]] (Sort.grow (redrawn wx d) os) fun e w'' => e = .returned (.int .i64 (PP.level k1 : Int)) ∧ ∃ p : Regrown, w'' = Sort.grow (redrawn wx p.d) p.os :=
            fun d os => Calls.regrown_of (level14 k1 num1 nm1 A1 ks1.length c1 _ (by have := H1.out; simp [PP.bin] at this; omega) hka)
          have q1 := size_mk (PP.wrapP (decide (PP.level k1 < PP.level k)) TA.data.toList)
          have q2 := PP.wrapP_len (decide (PP.level k1 < PP.level k)) TA.data.toList
          have q3 := size_mk (PP.wrapP false TD.data.toList)
          have q4 := PP.wrapP_len false TD.data.toList
          have cW1 : ∀ d os, Calls Tryd.prog 33 #[.string TA, .bool (decide (PP.level k1 < PP.level k))] (Sort.grow (redrawn wx d) os) fun e w'' => e = .returned (.string ⟨(PP.wrapP (decide (PP.level k1 < PP.level k)) TA.data.toList).toArray⟩) ∧ ∃ p : Regrown, w'' = Sort.grow (redrawn wx p.d) p.os :=
            fun d os => Calls.regrown_of ((wrap14 TA (decide (PP.level k1 < PP.level k)) _ (by omega)).mono fun _ _ ⟨h1, h2⟩ => ⟨h1, h2 ▸ Below.refl _ _⟩)
          have cW2 : ∀ d os, Calls Tryd.prog 33 #[.string TD, .bool false] (Sort.grow (redrawn wx d) os) fun e w'' => e = .returned (.string ⟨(PP.wrapP false TD.data.toList).toArray⟩) ∧ ∃ p : Regrown, w'' = Sort.grow (redrawn wx p.d) p.os :=
            fun d os => Calls.regrown_of ((wrap14 TD false _ (by omega)).mono fun _ _ ⟨h1, h2⟩ => ⟨h1, h2 ▸ Below.refl _ _⟩)
          generalize hW1 : (⟨(PP.wrapP (decide (PP.level k1 < PP.level k)) TA.data.toList).toArray⟩ : ByteArray) = TW1 at *
          generalize hW2 : (⟨(PP.wrapP false TD.data.toList).toArray⟩ : ByteArray) = TW2 at *
          have HW1 := Lib.hid hW1
          have HW2 := Lib.hid hW2
          have n1 : ¬ 9223372036854775807 < TW1.size + 1 := by omega
          have n2 : ¬ 9223372036854775807 < TW1.size + 1 + SY.size := by omega
          have n3 : ¬ 9223372036854775807 < TW1.size + 1 + SY.size + 1 := by omega
          have n4 : ¬ 9223372036854775807 < TW1.size + 1 + SY.size + 1 + TW2.size := by omega
          clear q1 q2 q3 q4 hs1 hs2 hs6 hs7 hs8 hs9 hW1 hW2 n5 n6 n7
          refine wp_region_quiet_below (by kernel_rfl) (by kernel_rfl) ?_
          iterate 5 (quiet_step (with_reducible first | exact cE1 _ _ | exact cE2 _ _ | exact cB1 _ _ | exact cB2 _ _ | exact cL0 _ _ | exact cW1 _ _ | exact cW2 _ _ | exact cL1 _ _))
          rw [H1.out]
          iterate 6 (quiet_step (with_reducible first | exact cE1 _ _ | exact cE2 _ _ | exact cB1 _ _ | exact cB2 _ _ | exact cL0 _ _ | exact cW1 _ _ | exact cW2 _ _ | exact cL1 _ _))
          iterate 10 (quiet_step (with_reducible first | exact cE1 _ _ | exact cE2 _ _ | exact cB1 _ _ | exact cB2 _ _ | exact cL0 _ _ | exact cW1 _ _ | exact cW2 _ _ | exact cL1 _ _))
          iterate 5 (refine wpQuiet_step (fun K hK => ?_); refine skip_ifR (by rw [H2.out]; kernel_rfl) ?_; simp only [Act.put, List.setIfInBounds_toArray, List.set_cons_zero, List.set_cons_succ]; refine hK _ ?_; clear hK K)
          rw [H2.out]
          quiet_step (with_reducible first | exact cE1 _ _ | exact cE2 _ _ | exact cB1 _ _ | exact cB2 _ _ | exact cL0 _ _ | exact cW1 _ _ | exact cW2 _ _ | exact cL1 _ _)
          iterate 3 (quiet_step (with_reducible first | exact cE1 _ _ | exact cE2 _ _ | exact cB1 _ _ | exact cB2 _ _ | exact cL0 _ _ | exact cW1 _ _ | exact cW2 _ _ | exact cL1 _ _))
          refine wpQuiet_nil ?_
          intro _ hw'
          obtain ⟨⟨dq, osq⟩, hw''⟩ := hw'
          subst hw''
          clear cE1 cE2 cB1 cB2 cL0 cW1 cW2 j10 j11 j12 j13 j20 j21 j22 j23 i0 i1 i2 i3 cL1
          go_wp2_with fail
          go_ret
          refine ⟨str_eq ?_, HBX.out.trans ((below_regrown wx dq osq).mono HBX.out.size)⟩
          rw [H1.out, H2.out, ← HW1.out, ← HW2.out, ← HTA.out, ← HTD.out, ← HSY.out]
          simp [ByteArray.data_append]
      | false =>
        have H1 := Lib.hid hv1
        clear hv1
        cases hv2 : PP.bin k2 with
        | true =>
          have H2 := Lib.hid hv2
          clear hv2
          have cL2 : ∀ d os, Calls Tryd.prog 34 #[.agg #[.int .u8 (k2 : Int), .int .i64 num2, .string ⟨nm2.toArray⟩, .slice A2 ks2.length c2]] (Sort.grow (redrawn wx d) os) fun e w'' => e = .returned (.int .i64 (PP.level k2 : Int)) ∧ ∃ p : Regrown, w'' = Sort.grow (redrawn wx p.d) p.os :=
            fun d os => Calls.regrown_of (level14 k2 num2 nm2 A2 ks2.length c2 _ (by have := H2.out; simp [PP.bin] at this; omega) hkd)
          have q1 := size_mk (PP.wrapP false TA.data.toList)
          have q2 := PP.wrapP_len false TA.data.toList
          have q3 := size_mk (PP.wrapP (decide (PP.level k2 ≤ PP.level k)) TD.data.toList)
          have q4 := PP.wrapP_len (decide (PP.level k2 ≤ PP.level k)) TD.data.toList
          have cW1 : ∀ d os, Calls Tryd.prog 33 #[.string TA, .bool false] (Sort.grow (redrawn wx d) os) fun e w'' => e = .returned (.string ⟨(PP.wrapP false TA.data.toList).toArray⟩) ∧ ∃ p : Regrown, w'' = Sort.grow (redrawn wx p.d) p.os :=
            fun d os => Calls.regrown_of ((wrap14 TA false _ (by omega)).mono fun _ _ ⟨h1, h2⟩ => ⟨h1, h2 ▸ Below.refl _ _⟩)
          have cW2 : ∀ d os, Calls Tryd.prog 33 #[.string TD, .bool (decide (PP.level k2 ≤ PP.level k))] (Sort.grow (redrawn wx d) os) fun e w'' => e = .returned (.string ⟨(PP.wrapP (decide (PP.level k2 ≤ PP.level k)) TD.data.toList).toArray⟩) ∧ ∃ p : Regrown, w'' = Sort.grow (redrawn wx p.d) p.os :=
            fun d os => Calls.regrown_of ((wrap14 TD (decide (PP.level k2 ≤ PP.level k)) _ (by omega)).mono fun _ _ ⟨h1, h2⟩ => ⟨h1, h2 ▸ Below.refl _ _⟩)
          generalize hW1 : (⟨(PP.wrapP false TA.data.toList).toArray⟩ : ByteArray) = TW1 at *
          generalize hW2 : (⟨(PP.wrapP (decide (PP.level k2 ≤ PP.level k)) TD.data.toList).toArray⟩ : ByteArray) = TW2 at *
          have HW1 := Lib.hid hW1
          have HW2 := Lib.hid hW2
          have n1 : ¬ 9223372036854775807 < TW1.size + 1 := by omega
          have n2 : ¬ 9223372036854775807 < TW1.size + 1 + SY.size := by omega
          have n3 : ¬ 9223372036854775807 < TW1.size + 1 + SY.size + 1 := by omega
          have n4 : ¬ 9223372036854775807 < TW1.size + 1 + SY.size + 1 + TW2.size := by omega
          clear q1 q2 q3 q4 hs1 hs2 hs6 hs7 hs8 hs9 hW1 hW2 n5 n6 n7
          refine wp_region_quiet_below (by kernel_rfl) (by kernel_rfl) ?_
          iterate 5 (quiet_step (with_reducible first | exact cE1 _ _ | exact cE2 _ _ | exact cB1 _ _ | exact cB2 _ _ | exact cL0 _ _ | exact cW1 _ _ | exact cW2 _ _ | exact cL2 _ _))
          iterate 5 (refine wpQuiet_step (fun K hK => ?_); refine skip_ifR (by rw [H1.out]; kernel_rfl) ?_; simp only [Act.put, List.setIfInBounds_toArray, List.set_cons_zero, List.set_cons_succ]; refine hK _ ?_; clear hK K)
          rw [H1.out]
          quiet_step (with_reducible first | exact cE1 _ _ | exact cE2 _ _ | exact cB1 _ _ | exact cB2 _ _ | exact cL0 _ _ | exact cW1 _ _ | exact cW2 _ _ | exact cL2 _ _)
          iterate 10 (quiet_step (with_reducible first | exact cE1 _ _ | exact cE2 _ _ | exact cB1 _ _ | exact cB2 _ _ | exact cL0 _ _ | exact cW1 _ _ | exact cW2 _ _ | exact cL2 _ _))
          rw [H2.out]
          iterate 6 (quiet_step (with_reducible first | exact cE1 _ _ | exact cE2 _ _ | exact cB1 _ _ | exact cB2 _ _ | exact cL0 _ _ | exact cW1 _ _ | exact cW2 _ _ | exact cL2 _ _))
          iterate 3 (quiet_step (with_reducible first | exact cE1 _ _ | exact cE2 _ _ | exact cB1 _ _ | exact cB2 _ _ | exact cL0 _ _ | exact cW1 _ _ | exact cW2 _ _ | exact cL2 _ _))
          refine wpQuiet_nil ?_
          intro _ hw'
          obtain ⟨⟨dq, osq⟩, hw''⟩ := hw'
          subst hw''
          clear cE1 cE2 cB1 cB2 cL0 cW1 cW2 j10 j11 j12 j13 j20 j21 j22 j23 i0 i1 i2 i3 cL2
          go_wp2_with fail
          go_ret
          refine ⟨str_eq ?_, HBX.out.trans ((below_regrown wx dq osq).mono HBX.out.size)⟩
          rw [H1.out, H2.out, ← HW1.out, ← HW2.out, ← HTA.out, ← HTD.out, ← HSY.out]
          simp [ByteArray.data_append]
        | false =>
          have H2 := Lib.hid hv2
          clear hv2
          have q1 := size_mk (PP.wrapP false TA.data.toList)
          have q2 := PP.wrapP_len false TA.data.toList
          have q3 := size_mk (PP.wrapP false TD.data.toList)
          have q4 := PP.wrapP_len false TD.data.toList
          have cW1 : ∀ d os, Calls Tryd.prog 33 #[.string TA, .bool false] (Sort.grow (redrawn wx d) os) fun e w'' => e = .returned (.string ⟨(PP.wrapP false TA.data.toList).toArray⟩) ∧ ∃ p : Regrown, w'' = Sort.grow (redrawn wx p.d) p.os :=
            fun d os => Calls.regrown_of ((wrap14 TA false _ (by omega)).mono fun _ _ ⟨h1, h2⟩ => ⟨h1, h2 ▸ Below.refl _ _⟩)
          have cW2 : ∀ d os, Calls Tryd.prog 33 #[.string TD, .bool false] (Sort.grow (redrawn wx d) os) fun e w'' => e = .returned (.string ⟨(PP.wrapP false TD.data.toList).toArray⟩) ∧ ∃ p : Regrown, w'' = Sort.grow (redrawn wx p.d) p.os :=
            fun d os => Calls.regrown_of ((wrap14 TD false _ (by omega)).mono fun _ _ ⟨h1, h2⟩ => ⟨h1, h2 ▸ Below.refl _ _⟩)
          generalize hW1 : (⟨(PP.wrapP false TA.data.toList).toArray⟩ : ByteArray) = TW1 at *
          generalize hW2 : (⟨(PP.wrapP false TD.data.toList).toArray⟩ : ByteArray) = TW2 at *
          have HW1 := Lib.hid hW1
          have HW2 := Lib.hid hW2
          have n1 : ¬ 9223372036854775807 < TW1.size + 1 := by omega
          have n2 : ¬ 9223372036854775807 < TW1.size + 1 + SY.size := by omega
          have n3 : ¬ 9223372036854775807 < TW1.size + 1 + SY.size + 1 := by omega
          have n4 : ¬ 9223372036854775807 < TW1.size + 1 + SY.size + 1 + TW2.size := by omega
          clear q1 q2 q3 q4 hs1 hs2 hs6 hs7 hs8 hs9 hW1 hW2 n5 n6 n7
          refine wp_region_quiet_below (by kernel_rfl) (by kernel_rfl) ?_
          iterate 5 (quiet_step (with_reducible first | exact cE1 _ _ | exact cE2 _ _ | exact cB1 _ _ | exact cB2 _ _ | exact cL0 _ _ | exact cW1 _ _ | exact cW2 _ _))
          iterate 5 (refine wpQuiet_step (fun K hK => ?_); refine skip_ifR (by rw [H1.out]; kernel_rfl) ?_; simp only [Act.put, List.setIfInBounds_toArray, List.set_cons_zero, List.set_cons_succ]; refine hK _ ?_; clear hK K)
          rw [H1.out]
          quiet_step (with_reducible first | exact cE1 _ _ | exact cE2 _ _ | exact cB1 _ _ | exact cB2 _ _ | exact cL0 _ _ | exact cW1 _ _ | exact cW2 _ _)
          iterate 10 (quiet_step (with_reducible first | exact cE1 _ _ | exact cE2 _ _ | exact cB1 _ _ | exact cB2 _ _ | exact cL0 _ _ | exact cW1 _ _ | exact cW2 _ _))
          iterate 5 (refine wpQuiet_step (fun K hK => ?_); refine skip_ifR (by rw [H2.out]; kernel_rfl) ?_; simp only [Act.put, List.setIfInBounds_toArray, List.set_cons_zero, List.set_cons_succ]; refine hK _ ?_; clear hK K)
          rw [H2.out]
          quiet_step (with_reducible first | exact cE1 _ _ | exact cE2 _ _ | exact cB1 _ _ | exact cB2 _ _ | exact cL0 _ _ | exact cW1 _ _ | exact cW2 _ _)
          iterate 3 (quiet_step (with_reducible first | exact cE1 _ _ | exact cE2 _ _ | exact cB1 _ _ | exact cB2 _ _ | exact cL0 _ _ | exact cW1 _ _ | exact cW2 _ _))
          refine wpQuiet_nil ?_
          intro _ hw'
          obtain ⟨⟨dq, osq⟩, hw''⟩ := hw'
          subst hw''
          clear cE1 cE2 cB1 cB2 cL0 cW1 cW2 j10 j11 j12 j13 j20 j21 j22 j23 i0 i1 i2 i3
          go_wp2_with fail
          go_ret
          refine ⟨str_eq ?_, HBX.out.trans ((below_regrown wx dq osq).mono HBX.out.size)⟩
          rw [H1.out, H2.out, ← HW1.out, ← HW2.out, ← HTA.out, ← HTD.out, ← HSY.out]
          simp [ByteArray.data_append]
end
end Go.Proofs.YtfakdbnfpdalhaaDoor
