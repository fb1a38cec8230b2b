/- ParserParens: parentheses around an expression do not change it, and unbalanced ones are errors. -/
import Derived.Test.YtaaaicpjlaeiiaaDoorEq
import Derived.Test.YtaaaicpjlaeiiaaDoorLawLevels
import Derived.Test.YtaaaicpjlaeiiaaDoorPlainParens
namespace Go.Proofs.YtaaaicpjlaeiiaaDoor
open Go.RowKit Go.Maps
open PP (Tree ArrD TaskD ProgD)

def ParRel (l : List UInt8) (n : Nat) (s i : Value) : Prop := ∃ (k : Nat) (S : ByteArray), k ≤ n ∧ i = .int .i64 (k : Int) ∧ s = .string S ∧ S.data.toList = PP.parText k k l
section
set_option maxHeartbeats 4000000
set_option maxRecDepth 100000
theorem parens_walk (s : ByteArray) (b : Nat) (w : World) (hg : SignsIs w) (hO : OpsIs w) (hs : s.size ≤ maxLen) (hb : b ≤ 255) :
    Calls Tryd.prog 9 #[.string s, .int .u8 (b : Int)] w fun e w' => e = .returned (.bool true) ∧ Below w.heap.size w w' := by
  have HG := Lib.hid hg
  have HO := Lib.hid hO
  have HA := Lib.hid (awake13_any w hg hO)
  have HSM := Lib.hid hs
  have hnot : ∀ (x : Bool) (w : World), (Op.unary .not (.bool x)).run Tryd.prog w = .ok (.bool (!x)) w := fun _ _ => rfl
  clear hg hO hs
  by_cases hl : 300 < s.size
  · have e1 : decide ((300 : Int) < (s.size : Int)) = true := by simp; omega
    have e2 : decide (300 < s.size) = true := by simp; omega
    go_enter Tryd.func9, Tryd.ntmps9
    go_wp2_with fail
    refine HA.out.mono ?_
    rintro e w1 ⟨rfl, hb1⟩
    go_wp2_with fail
    go_ret
    exact ⟨rfl, hb1⟩
  have e1 : decide ((300 : Int) < (s.size : Int)) = false := by simp; omega
  have e2 : decide (300 < s.size) = false := by simp; omega
  have hsl : s.size ≤ 300 := by omega
  clear hl
  go_enter Tryd.func9, Tryd.ntmps9
  go_wp2_with fail
  refine HA.out.mono ?_
  rintro e w1 ⟨rfl, hb1⟩
  have HB1 := Lib.hid hb1
  have HX := Lib.hid (expr_any s w1 HSM.out (HG.out.below hb1 HG.out.pos) (HO.out.below hb1))
  clear hb1 HA
  go_wp2_with fail
  refine HX.out.mono ?_
  rintro e w2 ⟨v, n, q, hq, rfl, hN, hb2⟩
  have HB2 := Lib.hid (HB1.out.trans (hb2.mono HB1.out.size))
  clear hb2 HX HB1
  by_cases he : q.1.err = 0
  · rw [show PP.out PP.zeroT q = (q.2, 0, 0) from by unfold PP.out; rw [if_pos he]] at hN ⊢
    have hq' : PP.exprP (PP.envL s.data.toList) n (PP.sigT s.data.toList) = some q := by rw [← envOf_eq, ← sigOf_eq]; exact hq
    have hlaw := fun k (hk : k < 20) => PP.parens_law hq' he k (by rw [show s.data.toList.length = s.size from Array.length_toList]; omega)
    have hsize : q.2.size ≤ 1000000 := by
      obtain ⟨_, _, hbn, hlg⟩ := PP.expr_ok hq' he
      unfold PP.large at hlg
      simp only [Bool.or_eq_false_iff, decide_eq_false_iff_not] at hlg
      omega
    have HLAW := Lib.hid hlaw
    have HNV := Lib.hid hN
    have HSZ := Lib.hid hsize
    obtain ⟨nk, nnum, nnm, nA, nc, nkids, rfl, ht, _⟩ := hN
    clear hq hq' hlaw he ht hsize
    go_wp2_with fail
    have hz30 : (b : Int) % 20 = ((b % 20 : Nat) : Int) := by omega
    have hz3 : b % 20 < 20 := Nat.mod_lt _ (by omega)
    rw [hz30]
    clear hz30
    generalize b % 20 = m at *
    have hS0 : (s ++ ⟨#[10]⟩).data.toList = PP.parText 0 0 s.data.toList := by rw [ByteArray.data_append]; simp [PP.parText]
    have HS0 := Lib.hid hS0
    clear hS0
    go_loop [8, 36] (fun t i => ParRel s.data.toList m t i) (fun _ i => m - (intOf i).toNat)
    case atStart => exact ⟨0, _, by omega, rfl, rfl, HS0.out⟩
    case round =>
      obtain ⟨k, S, hk, rfl, rfl, hS⟩ := hrel
      have hlen : S.size = 2 * k + s.size + 1 := by rw [Lib.size_eq, hS, PP.parText_len, show s.data.toList.length = s.size from Array.length_toList]; omega
      have hle : S.size ≤ 400 := by omega
      by_cases hlt : k < m
      · have HS' := Lib.hid (show ((⟨#[40]⟩ : ByteArray) ++ S ++ ⟨#[41]⟩).data.toList = PP.parText (k + 1) (k + 1) s.data.toList by rw [PP.parText_succ, ByteArray.data_append, ByteArray.data_append]; simp [hS])
        have hle2 : ((⟨#[40]⟩ : ByteArray) ++ S).size ≤ 401 := by rw [Lib.size_eq, ByteArray.data_append]; simp; rw [Lib.size_eq] at hle; simp at hle; omega
        clear hS hlen
        go_wp2_with fail
        go_round
        case rel => exact ⟨k + 1, _, by omega, by go_num, rfl, HS'.out⟩
        case measure => simp [intOf]; omega
      · obtain rfl : k = m := by omega
        obtain ⟨⟨nA', σA, hA1, hA2⟩, ⟨nB, rB, hB1, hB2, hB3⟩, ⟨nC, rC, hC1, hC2, hC3⟩⟩ := HLAW.out k hz3
        have hSo : ((⟨#[40]⟩ : ByteArray) ++ S).data.toList = PP.parText (k + 1) k s.data.toList := by rw [PP.parText_open, ByteArray.data_append]; simp [hS]
        have hSc : (S ++ (⟨#[41]⟩ : ByteArray)).data.toList = PP.parText k (k + 1) s.data.toList := by rw [PP.parText_shut, ByteArray.data_append]; simp [hS]
        have hso : ((⟨#[40]⟩ : ByteArray) ++ S).size ≤ maxLen := by rw [Lib.size_eq, hSo, PP.parText_len, show s.data.toList.length = s.size from Array.length_toList]; unfold maxLen; omega
        have hsc : (S ++ (⟨#[41]⟩ : ByteArray)).size ≤ maxLen := by rw [Lib.size_eq, hSc, PP.parText_len, show s.data.toList.length = s.size from Array.length_toList]; unfold maxLen; omega
        have hB0 : Below w.heap.size w (w2.alloc (.cells #[.int .u8 (nk : Int), .int .i64 nnum, .string ⟨nnm.toArray⟩, .slice nA nkids.length nc] 24)) := HB2.out.alloc HB2.out.size _
        have hxA := expr_at S _ (by unfold maxLen; omega) (HG.out.below hB0 HG.out.pos) (HO.out.below hB0) (q := (σA, q.2)) (by rw [envOf_eq, sigOf_eq, hS]; exact hA1)
        rw [show PP.out PP.zeroT (σA, q.2) = (q.2, 0, 0) from by unfold PP.out; rw [if_pos (by exact hA2)]] at hxA
        have hxB := fun W (hW : Below w.heap.size w W) => expr_at ((⟨#[40]⟩ : ByteArray) ++ S) W hso (HG.out.below hW HG.out.pos) (HO.out.below hW) (q := rB) (by rw [envOf_eq, sigOf_eq, hSo]; exact hB1)
        rw [show PP.out PP.zeroT rB = (PP.zeroT, 2 * k + s.data.toList.length + 2, 4) from by unfold PP.out; rw [if_neg (by omega), hB2, hB3]] at hxB
        have hxC := fun W (hW : Below w.heap.size w W) => expr_at (S ++ (⟨#[41]⟩ : ByteArray)) W hsc (HG.out.below hW HG.out.pos) (HO.out.below hW) (q := rC) (by rw [envOf_eq, sigOf_eq, hSc]; exact hC1)
        rw [show PP.out PP.zeroT rC = (PP.zeroT, 2 * k + s.data.toList.length + 1, 3) from by unfold PP.out; rw [if_neg (by omega), hC2, hC3]] at hxC
        rw [show s.data.toList.length = s.size from Array.length_toList] at hxB hxC
        have u1 : (((2 * k + s.size + 2 : Nat) : Int) == (S.size : Int) + 1) = true := by rw [hlen]; simp; omega
        have u2 : (((2 * k + s.size + 1 : Nat) : Int) == (S.size : Int)) = true := by rw [hlen]; simp
        generalize 2 * k + s.size + 2 = oB at *
        generalize hoC : 2 * k + s.size + 1 = oC at *
        have HXA := Lib.hid hxA
        have HXB := Lib.hid hxB
        have HXC := Lib.hid hxC
        have HB0 := Lib.hid hB0
        clear hxA hxB hxC hB0 hA1 hA2 hB1 hB2 hB3 hC1 hC2 hC3 hSo hSc hso hsc hS hlen hoC
        go_wp2_with fail
        refine HXA.out.mono ?_
        rintro e w3 ⟨v3, rfl, hN3, hb3⟩
        have HB3 := Lib.hid (HB0.out.trans (hb3.mono HB0.out.size))
        have hN1 : NodeV w3 (fun g => g < w2.heap.size) (.agg #[.int .u8 (nk : Int), .int .i64 nnum, .string ⟨nnm.toArray⟩, .slice nA nkids.length nc]) q.2 := (HNV.out.weak (Z' := fun g => g < w2.heap.size) (fun g _ hg => hg)).keep (((Keep.refl _ _).alloc _).trans ⟨hb3.size, fun g _ hg => hb3.block g hg⟩)
        have hblk : Blk w3 w2.heap.size 24 #[.int .u8 (nk : Int), .int .i64 nnum, .string ⟨nnm.toArray⟩, .slice nA nkids.length nc] := (hb3.block _ (by simp)).trans (Blk.new _ _ _)
        have HN1 := Lib.hid hN1
        have HN3 := Lib.hid hN3
        have HBK := Lib.hid hblk
        obtain ⟨mk, mnum, mnm, mA, mc, mkids, rfl, ht3, _⟩ := hN3
        clear hb3 hN1 hblk HXA ht3
        go_wp2_with fail
        have hB4 : Below w.heap.size w (w3.alloc (.cells #[.int .u8 (mk : Int), .int .i64 mnum, .string ⟨mnm.toArray⟩, .slice mA mkids.length mc] 24)) := HB3.out.alloc HB3.out.size _
        refine (HXB.out _ hB4).mono ?_
        rintro e w4 ⟨v4, rfl, hN4, hb4⟩
        obtain ⟨k4, num4, nm4, A4, c4, kids4, rfl, ht4, _⟩ := hN4
        have HB4 := Lib.hid (hB4.trans (hb4.mono hB4.size))
        have kp4 : ∀ Z : Nat → Prop, Keep Z w3 w4 := fun Z => ((Keep.refl _ _).alloc _).trans ⟨hb4.size, fun g _ hg => hb4.block g hg⟩
        have HN1' := Lib.hid (HN1.out.keep (kp4 _))
        have HN3' := Lib.hid (HN3.out.keep (kp4 _))
        have HBK' := Lib.hid (show Blk w4 w2.heap.size _ _ from (hb4.block _ (by have := HBK.out.lt; simp; omega)).trans (HBK.out.alloc _))
        have HBM := Lib.hid (show Blk w4 w3.heap.size 24 #[.int .u8 (mk : Int), .int .i64 mnum, .string ⟨mnm.toArray⟩, .slice mA mkids.length mc] from (hb4.block _ (by simp)).trans (Blk.new _ _ _))
        clear hb4 kp4 HN1 HN3 HBK HXB hB4 ht4
        go_wp2_with fail
        have hB5 : Below w.heap.size w (w4.alloc (.cells #[.int .u8 (k4 : Int), .int .i64 num4, .string ⟨nm4.toArray⟩, .slice A4 kids4.length c4] 24)) := HB4.out.alloc HB4.out.size _
        refine (HXC.out _ hB5).mono ?_
        rintro e w5 ⟨v5, rfl, hN5, hb5⟩
        obtain ⟨k5, num5, nm5, A5, c5, kids5, rfl, ht5, _⟩ := hN5
        have HB5 := Lib.hid (hB5.trans (hb5.mono hB5.size))
        have kp5 : ∀ Z : Nat → Prop, Keep Z w4 (w5.alloc (.cells #[.int .u8 (k5 : Int), .int .i64 num5, .string ⟨nm5.toArray⟩, .slice A5 kids5.length c5] 24)) := fun Z => (((Keep.refl _ _).alloc _).trans ⟨hb5.size, fun g _ hg => hb5.block g hg⟩).alloc _
        have hE := equal_any (HN1'.out.keep (kp5 _)) (HN3'.out.keep (kp5 _)) HSZ.out
        rw [PP.eqT_refl] at hE
        have hbk : Blk w5 w2.heap.size 24 #[.int .u8 (nk : Int), .int .i64 nnum, .string ⟨nnm.toArray⟩, .slice nA nkids.length nc] := (hb5.block _ (by have := HBK'.out.lt; simp; omega)).trans (HBK'.out.alloc _)
        have hbm : Blk w5 w3.heap.size 24 #[.int .u8 (mk : Int), .int .i64 mnum, .string ⟨mnm.toArray⟩, .slice mA mkids.length mc] := (hb5.block _ (by have := HBM.out.lt; simp; omega)).trans (HBM.out.alloc _)
        have HE := Lib.hid hE
        have HB6 := Lib.hid (HB5.out.alloc HB5.out.size (.cells #[.int .u8 (k5 : Int), .int .i64 num5, .string ⟨nm5.toArray⟩, .slice A5 kids5.length c5] 24))
        clear hE hb5 kp5 HXC hB5 ht5 HB5
        have hk1 := hbk.lt
        have hk2 := hbm.lt
        obtain ⟨⟨x0, x1, x2, x3⟩, _, _, _, _⟩ := hbk.four
        obtain ⟨⟨y0, y1, y2, y3⟩, _, _, _, _⟩ := hbm.four
        go_wp2_with fail
        refine HE.out.mono ?_
        rintro e w7 ⟨rfl, hb7⟩
        have HB7 := Lib.hid (HB6.out.trans (hb7.mono HB6.out.size))
        clear hb7 hbk hbm x0 x1 x2 x3 y0 y1 y2 y3
        go_wp2_with fail
        go_ret
        exact ⟨rfl, HB7.out⟩
  · have e3 : ((q.1.err : Int) != 0) = true := by simpa using he
    rw [show PP.out PP.zeroT q = (PP.zeroT, q.1.off, q.1.err) from by unfold PP.out; rw [if_neg he]] at hN ⊢
    obtain ⟨nk, nnum, nnm, nA, nc, nkids, rfl, ht, _⟩ := hN
    clear hq he ht
    go_wp2_with fail
    go_ret
    exact ⟨rfl, HB2.out.alloc HB2.out.size _⟩
end
end Go.Proofs.YtaaaicpjlaeiiaaDoor
