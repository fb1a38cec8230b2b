/- The walk of PrinterParens. -/
import Derived.Test.YtfakdbnfpdalhaaDoorAwake14
import Derived.Test.YtfakdbnfpdalhaaDoorCnt
import Derived.Test.YtfakdbnfpdalhaaDoorPlainBack
import Derived.Test.YtfakdbnfpdalhaaDoorEq
namespace Go.Proofs.YtfakdbnfpdalhaaDoor
open Go.RowKit
open PP (Tree)
section
set_option maxHeartbeats 4000000
set_option maxRecDepth 100000
theorem envOf_eqP (s : ByteArray) : envOf s = PP.envL s.data.toList := by
  unfold envOf PP.envL
  rw [show s.data.toList.length = s.size from Array.length_toList]
theorem sigOf_eqP (s : ByteArray) : sigOf s = PP.sigT s.data.toList := rfl
theorem limited14 {w : World} {Z : Nat → Prop} {A : Option Addr} {kids : List Tree} {k : Nat} {num : Int} {nm : List UInt8} {c : Nat} (h : KidsC w Z A kids) (hs : PP.sizeL kids ≤ 999999) :
    Calls Tryd.prog 21 #[.agg #[.int .u8 (k : Int), .int .i64 num, .string ⟨nm.toArray⟩, .slice A kids.length c]] w fun e w' => e = .returned (.bool (!PP.large (.node k num nm kids))) ∧ Below w.heap.size w w' := by
  have hb : Below w.heap.size w (w.alloc (.cells #[.int .u8 (k : Int), .int .i64 num, .string ⟨nm.toArray⟩, .slice A kids.length c] 24)) := (Below.refl _ _).alloc (Nat.le_refl _) _
  have hblk := Blk.new w 24 #[.int .u8 (k : Int), .int .i64 num, .string ⟨nm.toArray⟩, .slice A kids.length c]
  have kp : ∀ W, Below w.heap.size w W → Keep Z w W := fun W hW => ⟨hW.size, fun g _ hg => hW.block g hg⟩
  have HD := Lib.hid (fun W hW => depth_kids h W (kp W hW) k num nm c (by omega))
  have HS := Lib.hid (fun W hW => size_kids h W (kp W hW) k num nm c (by omega))
  have HN := Lib.hid (fun W hW => nest_kids h W (kp W hW) k num nm c (by omega))
  have HB := Lib.hid hb
  have HBK := Lib.hid hblk
  have e1 := PP.depth_size (.node k num nm kids)
  have e2 := PP.nest_size (.node k num nm kids)
  simp only [PP.Tree.size] at e1 e2
  clear h hb hblk kp
  unfold PP.large
  go_enter Tryd.func21, Tryd.ntmps21
  go_wp2_with fail
  refine (HD.out _ HB.out).mono ?_
  rintro e w1 ⟨rfl, hb1⟩
  have h1 := HB.out.trans (hb1.mono HB.out.size)
  have HB1 := Lib.hid h1
  have hk1 := Blk.below HBK.out hb1
  obtain ⟨x0, x1, x2, x3⟩ := hk1.four.1
  have hl1 := hk1.lt
  have HK1 := Lib.hid hk1
  clear h1 hb1 hk1 HBK
  by_cases hd : (Tree.node k num nm kids).depth ≤ 16
  · have HDD := Lib.hid hd
    have hd' : ((Tree.node k num nm kids).depth : Int) ≤ 16 := by omega
    clear hd
    go_wp2_with fail
    refine (HS.out _ HB1.out).mono ?_
    rintro e w2 ⟨rfl, hb2⟩
    have h2 := HB1.out.trans (hb2.mono HB1.out.size)
    have HB2 := Lib.hid h2
    have hk2 := Blk.below HK1.out hb2
    clear x0 x1 x2 x3 hl1
    obtain ⟨x0, x1, x2, x3⟩ := hk2.four.1
    have hl2 := hk2.lt
    clear h2 hb2 hk2 HK1
    by_cases hz : (Tree.node k num nm kids).size ≤ 400
    · have HZ := Lib.hid hz
      have hz' : ((Tree.node k num nm kids).size : Int) ≤ 400 := by omega
      clear hz
      go_wp2_with fail
      refine (HN.out _ HB2.out).mono ?_
      rintro e w3 ⟨rfl, hb3⟩
      have HB3 := Lib.hid (HB2.out.trans (hb3.mono HB2.out.size))
      clear hb3 x0 x1 x2 x3 hl2
      go_wp2_with fail
      go_ret
      refine ⟨?_, HB3.out⟩
      have g1 := HDD.out
      have g2 := HZ.out
      by_cases hn : (Tree.node k num nm kids).nest ≤ 4
      · have g3 : ((Tree.node k num nm kids).nest : Int) ≤ 4 := by omega
        simp [g3, show ¬ 16 < (Tree.node k num nm kids).depth from by omega, show ¬ 400 < (Tree.node k num nm kids).size from by omega, show ¬ 4 < (Tree.node k num nm kids).nest from by omega]
      · have g3 : ¬ ((Tree.node k num nm kids).nest : Int) ≤ 4 := by omega
        simp [g3, show 4 < (Tree.node k num nm kids).nest from by omega]
    · have hz' : ¬ ((Tree.node k num nm kids).size : Int) ≤ 400 := by omega
      have HZ := Lib.hid hz
      clear hz
      go_wp2_with fail
      go_ret
      exact ⟨by simp [show 400 < (Tree.node k num nm kids).size from by have := HZ.out; omega], HB2.out⟩
  · have HDD := Lib.hid hd
    have hd' : ¬ ((Tree.node k num nm kids).depth : Int) ≤ 16 := by omega
    clear hd
    go_wp2_with fail
    go_ret
    exact ⟨by simp [show 16 < (Tree.node k num nm kids).depth from by have := HDD.out; omega], HB1.out⟩
/-- What the laws of the printer's are handed. -/
structure LArg (w : World) (A : Option Addr) (kids : List Tree) : Prop where
  ks : KidsC w (· < w.heap.size) A kids
  ops : OpsIs w
  pow : PowIs w
  sg : SignsIs w
theorem LArg.below {w w' : World} {A : Option Addr} {kids : List Tree} (h : LArg w A kids) (hb : Below w.heap.size w w') : LArg w' A kids :=
  ⟨(h.ks.keep ⟨hb.size, fun g _ hg => hb.block g hg⟩).weak (fun _ _ hg => hg), h.ops.below hb, h.pow.below hb h.pow.lt, h.sg.belowS hb⟩
theorem LArg.parg {w : World} {A : Option Addr} {kids : List Tree} (h : LArg w A kids) (hs : PP.sizeL kids ≤ 999999) (hn : PP.nmL kids = true) : PArg w w.heap.size A kids := ⟨h.ks, Nat.le_refl _, h.ops, h.pow, h.sg, hs, hn⟩
theorem parens14_walk {w : World} {A : Option Addr} {kids : List Tree} {k : Nat} {num : Int} {nm : List UInt8} {c : Nat} (h : LArg w A kids) (hbd : PP.bdT (.node k num nm kids)) :
    Calls Tryd.prog 6 #[.agg #[.int .u8 (k : Int), .int .i64 num, .string ⟨nm.toArray⟩, .slice A kids.length c]] w fun e w' => e = .returned (.bool true) ∧ Below w.heap.size w w' := by
  have hnot : ∀ (x : Bool) (w : World), (Op.unary .not (.bool x)).run Tryd.prog w = .ok (.bool (!x)) w := fun _ _ => rfl
  have hb : Below w.heap.size w (w.alloc (.cells #[.int .u8 (k : Int), .int .i64 num, .string ⟨nm.toArray⟩, .slice A kids.length c] 24)) := (Below.refl _ _).alloc (Nat.le_refl _) _
  have hblk := Blk.new w 24 #[.int .u8 (k : Int), .int .i64 num, .string ⟨nm.toArray⟩, .slice A kids.length c]
  have h1 := h.below hb
  have HAW := Lib.hid (awake14_any _ h1.ops h1.pow h1.sg)
  have HL := Lib.hid h
  have HBD := Lib.hid hbd
  have HB := Lib.hid hb
  have HBK := Lib.hid hblk
  clear h hbd hb hblk h1
  go_enter Tryd.func6, Tryd.ntmps6
  go_wp2_with fail
  refine HAW.out.mono ?_
  rintro e w1 ⟨rfl, hb1⟩
  have g1 := HB.out.trans (hb1.mono HB.out.size)
  have HB1 := Lib.hid g1
  have hk1 := Blk.below HBK.out hb1
  obtain ⟨x0, x1, x2, x3⟩ := hk1.four.1
  have hl1 := hk1.lt
  have HK1 := Lib.hid hk1
  have hsm := small_any (k := k) (num := num) (nm := nm) (c := c) (HL.out.below g1).ks HBD.out
  clear g1 hb1 hk1 HBK HAW
  by_cases hc : PP.cntT (.node k num nm kids) 20 ≤ 500
  · rw [show decide (PP.cntT (.node k num nm kids) 20 ≤ 500) = true from by simpa using hc] at hsm
    obtain ⟨c1, c2, c3⟩ := PP.cntT_ok (.node k num nm kids) 20 (by omega)
    have hsz : PP.sizeL kids ≤ 999999 := by simp only [PP.Tree.size] at c1; omega
    simp only [PP.nmT, Bool.and_eq_true, decide_eq_true_iff] at c3
    obtain ⟨hnm, hnk⟩ := c3
    have HSM := Lib.hid hsm
    have HNK := Lib.hid hnk
    clear hsm hc c1 c2 hnk
    go_wp2_with fail
    refine HSM.out.mono ?_
    rintro e w2 ⟨rfl, hb2⟩
    have g2 := HB1.out.trans (hb2.mono HB1.out.size)
    have HB2 := Lib.hid g2
    have hk2 := Blk.below HK1.out hb2
    clear x0 x1 x2 x3 hl1
    obtain ⟨x0, x1, x2, x3⟩ := hk2.four.1
    have hl2 := hk2.lt
    have HK2 := Lib.hid hk2
    have hie := isExpr_any (k := k) (num := num) (nm := nm) (c := c) ((HL.out.below g2).parg hsz HNK.out) hnm
    clear g2 hb2 hk2 HK1 HSM
    cases hok : PP.okT (.node k num nm kids) 101 with
    | false =>
      rw [hok] at hie
      have HIE := Lib.hid hie
      clear hie hok
      go_wp2_with fail
      refine HIE.out.mono ?_
      rintro e w3 ⟨rfl, hb3⟩
      have HB3 := Lib.hid (HB2.out.trans (hb3.mono HB2.out.size))
      clear hb3
      go_wp2_with fail
      go_ret
      exact ⟨rfl, HB3.out⟩
    | true =>
      rw [hok] at hie
      have HIE := Lib.hid hie
      have HOK := Lib.hid hok
      clear hie hok
      go_wp2_with fail
      refine HIE.out.mono ?_
      rintro e w3 ⟨rfl, hb3⟩
      have g3 := HB2.out.trans (hb3.mono HB2.out.size)
      have HB3 := Lib.hid g3
      have hk3 := Blk.below HK2.out hb3
      clear x0 x1 x2 x3 hl2
      obtain ⟨x0, x1, x2, x3⟩ := hk3.four.1
      have hl3 := hk3.lt
      have HK3 := Lib.hid hk3
      have hli := limited14 (k := k) (num := num) (nm := nm) (c := c) (HL.out.below g3).ks hsz
      clear g3 hb3 hk3 HK2 HIE
      cases hla : PP.large (.node k num nm kids) with
      | true =>
        rw [hla] at hli
        have HLI := Lib.hid hli
        clear hli hla
        go_wp2_with fail
        refine HLI.out.mono ?_
        rintro e w4 ⟨rfl, hb4⟩
        have HB4 := Lib.hid (HB3.out.trans (hb4.mono HB3.out.size))
        clear hb4
        go_wp2_with fail
        go_ret
        exact ⟨rfl, HB4.out⟩
      | false =>
        rw [hla] at hli
        have HLI := Lib.hid hli
        have HLA := Lib.hid hla
        clear hli hla
        go_wp2_with fail
        refine HLI.out.mono ?_
        rintro e w4 ⟨rfl, hb4⟩
        have g4 := HB3.out.trans (hb4.mono HB3.out.size)
        have HB4 := Lib.hid g4
        have hk4 := Blk.below HK3.out hb4
        clear x0 x1 x2 x3 hl3
        obtain ⟨x0, x1, x2, x3⟩ := hk4.four.1
        have hl4 := hk4.lt
        have HK4 := Lib.hid hk4
        have hpe := printExpr_any (k := k) (num := num) (nm := nm) (c := c) ((HL.out.below g4).parg hsz HNK.out) hnm
        rw [show exprOut (.node k num nm kids) = (PP.prE (.node k num nm kids), 0) from by unfold exprOut; rw [HOK.out]; rfl] at hpe
        have HPE := Lib.hid hpe
        clear g4 hb4 hk4 HK3 HLI hpe
        go_wp2_with fail
        refine HPE.out.mono ?_
        rintro e w5 ⟨rfl, hb5⟩
        have g5 := HB4.out.trans (hb5.mono HB4.out.size)
        have HB5 := Lib.hid g5
        have HK5 := Lib.hid (Blk.below HK4.out hb5)
        have hsize4 : (Tree.node k num nm kids).size ≤ 400 := by
          have := HLA.out
          unfold PP.large at this
          simp only [Bool.or_eq_false_iff, decide_eq_false_iff_not] at this
          omega
        obtain ⟨m, hm⟩ := PP.back_expr HOK.out hsize4 HLA.out
        have hl5 := HL.out.below g5
        have hlen := PP.okEE HOK.out
        have hxp := expr_at ⟨(PP.prE (.node k num nm kids)).toArray⟩ w5 (by rw [Lib.size_eq]; unfold maxLen; simp; omega) hl5.sg hl5.ops (n := m) (q := _) (by rw [envOf_eqP, sigOf_eqP]; exact hm)
        rw [show PP.out PP.zeroT (⟨(PP.tokE (.node k num nm kids)).length, 0, 0⟩, .node k num nm kids) = (.node k num nm kids, 0, 0) from rfl] at hxp
        have HXP := Lib.hid hxp
        have HL5 := Lib.hid hl5
        have HSZ := Lib.hid (show (Tree.node k num nm kids).size ≤ 1000000 from by omega)
        clear g5 hb5 hl5 hm hxp hsize4 hlen HPE HK4 x0 x1 x2 x3 hl4
        generalize (⟨(PP.prE (.node k num nm kids)).toArray⟩ : ByteArray) = TXT at *
        go_wp2_with fail
        refine HXP.out.mono ?_
        rintro e w6 ⟨v, rfl, hN, hb6⟩
        have hNc := hN
        obtain ⟨mk, mnum, mnm, mA, mc, mkids, rfl, ht, hmk⟩ := hN
        have hb7 : Below w6.heap.size w6 (w6.alloc (.cells #[.int .u8 (mk : Int), .int .i64 mnum, .string ⟨mnm.toArray⟩, .slice mA mkids.length mc] 24)) := (Below.refl _ _).alloc (Nat.le_refl _) _
        have g6 := HB5.out.trans (hb6.mono HB5.out.size)
        have g7 := g6.trans (hb7.mono g6.size)
        have HB7 := Lib.hid g7
        have hk6 := Blk.below HK5.out hb6
        obtain ⟨x0, x1, x2, x3⟩ := hk6.four.1
        have hl6 := hk6.lt
        have hN1 : NodeV (w6.alloc (.cells #[.int .u8 (mk : Int), .int .i64 mnum, .string ⟨mnm.toArray⟩, .slice mA mkids.length mc] 24)) (· < (w6.alloc (.cells #[.int .u8 (mk : Int), .int .i64 mnum, .string ⟨mnm.toArray⟩, .slice mA mkids.length mc] 24)).heap.size) (.agg #[.int .u8 (k : Int), .int .i64 num, .string ⟨nm.toArray⟩, .slice A kids.length c]) (.node k num nm kids) := ⟨k, num, nm, A, c, kids, rfl, rfl, (HL.out.below g7).ks⟩
        have hN2 := hNc.keep (w' := w6.alloc (.cells #[.int .u8 (mk : Int), .int .i64 mnum, .string ⟨mnm.toArray⟩, .slice mA mkids.length mc] 24)) ⟨hb7.size, fun g _ hg => hb7.block g hg⟩
        have hE := equal_any hN1 hN2 HSZ.out
        rw [PP.eqT_refl] at hE
        have HE := Lib.hid hE
        clear hb6 hNc ht hmk hb7 g6 g7 hk6 hN1 hN2 hE HXP HK5 HL5
        go_wp2_with fail
        refine HE.out.mono ?_
        rintro e w8 ⟨rfl, hb8⟩
        have HB8 := Lib.hid (HB7.out.trans (hb8.mono HB7.out.size))
        clear hb8 x0 x1 x2 x3 hl6
        go_wp2_with fail
        go_ret
        exact ⟨rfl, HB8.out⟩
  · rw [show decide (PP.cntT (.node k num nm kids) 20 ≤ 500) = false from by simpa using hc] at hsm
    have HSM := Lib.hid hsm
    clear hsm hc
    go_wp2_with fail
    refine HSM.out.mono ?_
    rintro e w2 ⟨rfl, hb2⟩
    have HB2 := Lib.hid (HB1.out.trans (hb2.mono HB1.out.size))
    clear hb2
    go_wp2_with fail
    go_ret
    exact ⟨rfl, HB2.out⟩
end
end Go.Proofs.YtfakdbnfpdalhaaDoor
