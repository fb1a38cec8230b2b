/- The walk of PrinterParens. -/
import Derived.Test.YtfakdbnfpdalhaaGreatDoorAwake14
import Derived.Test.YtfakdbnfpdalhaaGreatDoorCnt
import Derived.Test.YtfakdbnfpdalhaaGreatDoorPlainBack
import Derived.Test.YtfakdbnfpdalhaaGreatDoorEq
namespace Go.Proofs.YtfakdbnfpdalhaaGreatDoor
open Go.RowKit
open PP (Tree)
section
set_option maxHeartbeats 4000000
set_option maxRecDepth 100000
theorem envOf_eqP (s : ByteArray) : envOf s = PP.envL s.data.toList := by
  unfold envOf PP.envL
  rw [show s.data.toList.length = s.size from Array.length_toList]
theorem sigOf_eqP (s : ByteArray) : sigOf s = PP.sigT s.data.toList := rfl
theorem limited14 {w : World} {Z : Nat → Prop} {A : Option Addr} {kids : List Tree} {k : Nat} {num : Int} {nm : List UInt8} {c : Nat} (h : KidsC w Z A kids) (hs : PP.sizeL kids ≤ 999999) :
    Calls Tryz.prog 20 #[.agg #[.int .u8 (k : Int), .int .i64 num, .string ⟨nm.toArray⟩, .slice A kids.length c]] w fun e w' => e = .returned (.bool (!PP.large (.node k num nm kids))) ∧ Below w.heap.size w w' := by
  have hb : Below w.heap.size w (w.alloc (.cells #[.int .u8 (k : Int), .int .i64 num, .string ⟨nm.toArray⟩, .slice A kids.length c] 36)) := (Below.refl _ _).alloc (Nat.le_refl _) _
  have hblk := Blk.new w 36 #[.int .u8 (k : Int), .int .i64 num, .string ⟨nm.toArray⟩, .slice A kids.length c]
  have kp : ∀ W, Below w.heap.size w W → Keep Z w W := fun W hW => ⟨hW.size, fun g _ hg => hW.block g hg⟩
  have HD := Lib.hid (fun W hW => depth_kids h W (kp W hW) k num nm c (by omega))
  have HS := Lib.hid (fun W hW => size_kids h W (kp W hW) k num nm c (by omega))
  have HN := Lib.hid (fun W hW => nest_kids h W (kp W hW) k num nm c (by omega))
  have HB := Lib.hid hb
  have HBK := Lib.hid hblk
  have e1 := PP.depth_size (.node k num nm kids)
  have e2 := PP.nest_size (.node k num nm kids)
  simp only [PP.Tree.size] at e1 e2
  clear h hb hblk kp
  unfold PP.large
  go_enter Tryz.func20, Tryz.ntmps20
  go_wp2_with fail
  refine (HD.out _ HB.out).mono ?_
  rintro e w1 ⟨rfl, hb1⟩
  have h1 := HB.out.trans (hb1.mono HB.out.size)
  have HB1 := Lib.hid h1
  have hk1 := Blk.below HBK.out hb1
  obtain ⟨x0, x1, x2, x3⟩ := hk1.four.1
  have hl1 := hk1.lt
  have HK1 := Lib.hid hk1
  clear h1 hb1 hk1 HBK
  by_cases hd : (Tree.node k num nm kids).depth ≤ 16
  · have HDD := Lib.hid hd
    have hd' : ((Tree.node k num nm kids).depth : Int) ≤ 16 := by omega
    clear hd
    go_wp2_with fail
    refine (HS.out _ HB1.out).mono ?_
    rintro e w2 ⟨rfl, hb2⟩
    have h2 := HB1.out.trans (hb2.mono HB1.out.size)
    have HB2 := Lib.hid h2
    have hk2 := Blk.below HK1.out hb2
    clear x0 x1 x2 x3 hl1
    obtain ⟨x0, x1, x2, x3⟩ := hk2.four.1
    have hl2 := hk2.lt
    clear h2 hb2 hk2 HK1
    by_cases hz : (Tree.node k num nm kids).size ≤ 400
    · have HZ := Lib.hid hz
      have hz' : ((Tree.node k num nm kids).size : Int) ≤ 400 := by omega
      clear hz
      go_wp2_with fail
      refine (HN.out _ HB2.out).mono ?_
      rintro e w3 ⟨rfl, hb3⟩
      have HB3 := Lib.hid (HB2.out.trans (hb3.mono HB2.out.size))
      clear hb3 x0 x1 x2 x3 hl2
      go_wp2_with fail
      go_ret
      refine ⟨?_, HB3.out⟩
      have g1 := HDD.out
      have g2 := HZ.out
      by_cases hn : (Tree.node k num nm kids).nest ≤ 4
      · have g3 : ((Tree.node k num nm kids).nest : Int) ≤ 4 := by omega
        simp [g3, show ¬ 16 < (Tree.node k num nm kids).depth from by omega, show ¬ 400 < (Tree.node k num nm kids).size from by omega, show ¬ 4 < (Tree.node k num nm kids).nest from by omega]
      · have g3 : ¬ ((Tree.node k num nm kids).nest : Int) ≤ 4 := by omega
        simp [g3, show 4 < (Tree.node k num nm kids).nest from by omega]
    · have hz' : ¬ ((Tree.node k num nm kids).size : Int) ≤ 400 := by omega
      have HZ := Lib.hid hz
      clear hz
      go_wp2_with fail
      go_ret
      exact ⟨by simp [show 400 < (Tree.node k num nm kids).size from by have := HZ.out; omega], HB2.out⟩
  · have HDD := Lib.hid hd
    have hd' : ¬ ((Tree.node k num nm kids).depth : Int) ≤ 16 := by omega
    clear hd
    go_wp2_with fail
    go_ret
    exact ⟨by simp [show 16 < (Tree.node k num nm kids).depth from by have := HDD.out; omega], HB1.out⟩
/-- What the laws of the printer's are handed. -/
structure LArg (w : World) (A : Option Addr) (kids : List Tree) : Prop where
  ks : KidsC w (· < w.heap.size) A kids
  ops : OpsIs w
  pow : PowIs w
  sg : SignsIs w
theorem LArg.below {w w' : World} {A : Option Addr} {kids : List Tree} (h : LArg w A kids) (hb : Below w.heap.size w w') : LArg w' A kids :=
  ⟨(h.ks.keep ⟨hb.size, fun g _ hg => hb.block g hg⟩).weak (fun _ _ hg => hg), h.ops.below hb, h.pow.below hb h.pow.lt, h.sg.belowS hb⟩
theorem LArg.parg {w : World} {A : Option Addr} {kids : List Tree} (h : LArg w A kids) (hs : PP.sizeL kids ≤ 999999) (hn : PP.nmL kids = true) : PArg w w.heap.size A kids := ⟨h.ks, Nat.le_refl _, h.ops, h.pow, h.sg, hs, hn⟩
end
end Go.Proofs.YtfakdbnfpdalhaaGreatDoor
