/- The contracts of the reference's measures of a tree (written by wip/genrmeas.py). -/
import Derived.Test.YtglaecalbamnkaaGreatDoorKF
namespace Go.Proofs.YtglaecalbamnkaaGreatDoor
open Go.RowKit Go.Maps
open PP (Tree)
section
set_option maxHeartbeats 1000000
set_option maxRecDepth 100000
theorem rdepth_kids {w : World} {Z : Nat → Prop} {A : Option Addr} {kids : List Tree} (h : KidsC w Z A kids) : ∀ W, Keep Z w W → ∀ (k : Nat) (num : Int) (nm : List UInt8) (c : Nat), PP.sizeL kids ≤ 1000000 →
    Calls Tryz.prog 68 #[.agg #[.int .u8 (k : Int), .int .i64 num, .string ⟨nm.toArray⟩, .slice A kids.length c]] W fun e w' => e = .returned (.int .i64 ((Tree.node k num nm kids).depth : Int)) ∧ Below W.heap.size W w' := by
  induction h with
  | mk A kids g o K N S AA C KS hA hk hc hh ih =>
    intro W hkeep k num nm c hsz
    have hlen := PP.len_sizeL kids
    have HIH := Lib.hid ih
    have HKP := Lib.hid hkeep
    have HHK := Lib.hid hk
    have HHC := Lib.hid hc
    have HHA := Lib.hid hA
    clear ih hkeep hk hc hh hA
    generalize hM : ((Tree.node k num nm kids).depth : Int) = M
    have HM := Lib.hid hM
    clear hM
    generalize hw0 : W.alloc (.cells #[.int .u8 (k : Int), .int .i64 num, .string ⟨nm.toArray⟩, .slice A kids.length c] 36) = w0
    have hb0 : Below W.heap.size W w0 := by rw [← hw0]; exact (Below.refl _ _).alloc (Nat.le_refl _) _
    have hB : Blk w0 W.heap.size 36 #[.int .u8 (k : Int), .int .i64 num, .string ⟨nm.toArray⟩, .slice A kids.length c] := by rw [← hw0]; exact Blk.new _ _ _
    have HW0 := Lib.hid hw0
    clear hw0
    go_enter Tryz.func68, Tryz.ntmps68
    go_wp2_with fail
    rw [HW0.out]
    go_loopw [3, 4] (fun d i wr => DepthRel kids w0 d i wr) (fun _ i _ => kids.length - (intOf i).toNat)
    case atStart => exact ⟨0, Nat.zero_le _, rfl, by simp [PP.depthL], Below.refl _ _⟩
    case round =>
      obtain ⟨j, hj, rfl, rfl, hbr⟩ := hrel
      have hBr : Blk wr W.heap.size 36 #[.int .u8 (k : Int), .int .i64 num, .string ⟨nm.toArray⟩, .slice A kids.length c] := (hbr.block _ hB.lt).trans hB
      obtain ⟨⟨k0, k1, k2, k3⟩, _, _, _, _⟩ := hBr.four
      have hzt := PP.sizeL_take kids j
      have hmt : PP.depthL (kids.take j) ≤ PP.sizeL (kids.take j) := PP.depthL_size _
      by_cases hlt : j < kids.length
      · have hA' := HHA.out (by intro e; rw [e] at hlt; simp at hlt)
        obtain ⟨hA1, hA2, hA3⟩ := hA'
        obtain ⟨c0, c1, c2, c3⟩ := HHC.out j hlt
        have hkj := HHK.out j hlt
        have hkp : Keep Z w wr := HKP.out.trans ⟨Nat.le_trans hb0.size hbr.size, fun g _ hg => (hbr.block g (Nat.lt_of_lt_of_le hg hb0.size)).trans (hb0.block g hg)⟩
        have hbg := hkp.2 g hA2 hA3
        have d0 := (World.cell?_of_block (a := ⟨g, o + j * 4, none⟩) hbg).trans c0
        have d1 := (World.cell?_of_block (a := ⟨g, o + j * 4 + 1, none⟩) hbg).trans c1
        have d2 := (World.cell?_of_block (a := ⟨g, o + j * 4 + 2, none⟩) hbg).trans c2
        have d3 := (World.cell?_of_block (a := ⟨g, o + j * 4 + 3, none⟩) hbg).trans c3
        have hjs := PP.size_mem (List.mem_of_getElem? hkj)
        have hks : PP.sizeL (KS j) ≤ 1000000 := by simp only [PP.Tree.size] at hjs; omega
        have hcall := HIH.out j hlt wr hkp (K j) (N j) (S j) (C j) hks
        have hdm : (Tree.node (K j) (N j) (S j) (KS j)).depth ≤ 1000001 := by have := PP.depth_size (Tree.node (K j) (N j) (S j) (KS j)); simp only [PP.Tree.size] at hjs this; omega
        have hst : PP.depthL (kids.take (j + 1)) = max (PP.depthL (kids.take j)) (Tree.node (K j) (N j) (S j) (KS j)).depth := by rw [take_at hkj, PP.depthL_snoc]
        generalize (Tree.node (K j) (N j) (S j) (KS j)).depth = D at *
        have HST := Lib.hid hst
        have HC := Lib.hid hcall
        subst hA1
        have p1 : (0 : Int) ≤ (j : Int) := by omega
        have p2 : (j : Int) < (kids.length : Int) := by omega
        clear hcall hst hkp hbg c0 c1 c2 c3 hkj hks hjs hA2 hA3
        generalize PP.depthL (kids.take j) = T at *
        go_wp2_with fail
        refine HC.out.mono ?_
        rintro e w2 ⟨rfl, hb2⟩
        have hb3 : Below w0.heap.size w0 w2 := hbr.trans (hb2.mono hbr.size)
        clear hb2 d0 d1 d2 d3
        by_cases hTD : T < D
        · have p3 : (T : Int) < (D : Int) := by omega
          have p4 : ((D : Int) > (T : Int)) := p3
          go_wp2_with fail
          go_roundw
          case rel => exact ⟨j + 1, by omega, by go_num, by rw [HST.out, Nat.max_eq_right (Nat.le_of_lt hTD)], hb3⟩
          case measure => simp [intOf]; omega
        · have p3 : ¬ (T : Int) < (D : Int) := by omega
          go_wp2_with fail
          go_roundw
          case rel => exact ⟨j + 1, by omega, by go_num, by rw [HST.out, Nat.max_eq_left (Nat.le_of_not_lt hTD)], hb3⟩
          case measure => simp [intOf]; omega
      · have hj' : j = kids.length := by omega
        subst hj'
        rw [List.take_length] at *
        generalize hTT : PP.depthL kids = T at *
        have HTT := Lib.hid hTT
        clear hTT
        go_wp2_with fail
        go_ret
        refine ⟨?_, hb0.trans (hbr.mono hb0.size)⟩
        rw [← HM.out]; simp only [PP.Tree.depth, HTT.out]; rfl

theorem rsize_kids {w : World} {Z : Nat → Prop} {A : Option Addr} {kids : List Tree} (h : KidsC w Z A kids) : ∀ W, Keep Z w W → ∀ (k : Nat) (num : Int) (nm : List UInt8) (c : Nat), PP.sizeL kids ≤ 1000000 →
    Calls Tryz.prog 69 #[.agg #[.int .u8 (k : Int), .int .i64 num, .string ⟨nm.toArray⟩, .slice A kids.length c]] W fun e w' => e = .returned (.int .i64 ((Tree.node k num nm kids).size : Int)) ∧ Below W.heap.size W w' := by
  induction h with
  | mk A kids g o K N S AA C KS hA hk hc hh ih =>
    intro W hkeep k num nm c hsz
    have hlen := PP.len_sizeL kids
    have HIH := Lib.hid ih
    have HKP := Lib.hid hkeep
    have HHK := Lib.hid hk
    have HHC := Lib.hid hc
    have HHA := Lib.hid hA
    clear ih hkeep hk hc hh hA
    generalize hM : ((Tree.node k num nm kids).size : Int) = M
    have HM := Lib.hid hM
    clear hM
    generalize hw0 : W.alloc (.cells #[.int .u8 (k : Int), .int .i64 num, .string ⟨nm.toArray⟩, .slice A kids.length c] 36) = w0
    have hb0 : Below W.heap.size W w0 := by rw [← hw0]; exact (Below.refl _ _).alloc (Nat.le_refl _) _
    have hB : Blk w0 W.heap.size 36 #[.int .u8 (k : Int), .int .i64 num, .string ⟨nm.toArray⟩, .slice A kids.length c] := by rw [← hw0]; exact Blk.new _ _ _
    have HW0 := Lib.hid hw0
    clear hw0
    go_enter Tryz.func69, Tryz.ntmps69
    go_wp2_with fail
    rw [HW0.out]
    go_loopw [3, 4] (fun d i wr => SizeRel kids w0 d i wr) (fun _ i _ => kids.length - (intOf i).toNat)
    case atStart => exact ⟨0, Nat.zero_le _, rfl, by simp [PP.sizeL], Below.refl _ _⟩
    case round =>
      obtain ⟨j, hj, rfl, rfl, hbr⟩ := hrel
      have hBr : Blk wr W.heap.size 36 #[.int .u8 (k : Int), .int .i64 num, .string ⟨nm.toArray⟩, .slice A kids.length c] := (hbr.block _ hB.lt).trans hB
      obtain ⟨⟨k0, k1, k2, k3⟩, _, _, _, _⟩ := hBr.four
      have hzt := PP.sizeL_take kids j
      have hmt : PP.sizeL (kids.take j) ≤ PP.sizeL (kids.take j) := Nat.le_refl _
      by_cases hlt : j < kids.length
      · have hA' := HHA.out (by intro e; rw [e] at hlt; simp at hlt)
        obtain ⟨hA1, hA2, hA3⟩ := hA'
        obtain ⟨c0, c1, c2, c3⟩ := HHC.out j hlt
        have hkj := HHK.out j hlt
        have hkp : Keep Z w wr := HKP.out.trans ⟨Nat.le_trans hb0.size hbr.size, fun g _ hg => (hbr.block g (Nat.lt_of_lt_of_le hg hb0.size)).trans (hb0.block g hg)⟩
        have hbg := hkp.2 g hA2 hA3
        have d0 := (World.cell?_of_block (a := ⟨g, o + j * 4, none⟩) hbg).trans c0
        have d1 := (World.cell?_of_block (a := ⟨g, o + j * 4 + 1, none⟩) hbg).trans c1
        have d2 := (World.cell?_of_block (a := ⟨g, o + j * 4 + 2, none⟩) hbg).trans c2
        have d3 := (World.cell?_of_block (a := ⟨g, o + j * 4 + 3, none⟩) hbg).trans c3
        have hjs := PP.size_mem (List.mem_of_getElem? hkj)
        have hks : PP.sizeL (KS j) ≤ 1000000 := by simp only [PP.Tree.size] at hjs; omega
        have hcall := HIH.out j hlt wr hkp (K j) (N j) (S j) (C j) hks
        have hdm : (Tree.node (K j) (N j) (S j) (KS j)).size ≤ 1000001 := by simp only [PP.Tree.size] at hjs ⊢; omega
        have hst : PP.sizeL (kids.take (j + 1)) = PP.sizeL (kids.take j) + (Tree.node (K j) (N j) (S j) (KS j)).size := by rw [take_at hkj, PP.sizeL_snoc]
        generalize (Tree.node (K j) (N j) (S j) (KS j)).size = D at *
        have HST := Lib.hid hst
        have HC := Lib.hid hcall
        subst hA1
        have p1 : (0 : Int) ≤ (j : Int) := by omega
        have p2 : (j : Int) < (kids.length : Int) := by omega
        clear hcall hst hkp hbg c0 c1 c2 c3 hkj hks hjs hA2 hA3
        generalize PP.sizeL (kids.take j) = T at *
        go_wp2_with fail
        refine HC.out.mono ?_
        rintro e w2 ⟨rfl, hb2⟩
        have hb3 : Below w0.heap.size w0 w2 := hbr.trans (hb2.mono hbr.size)
        clear hb2 d0 d1 d2 d3
        go_wp2_with fail
        go_roundw
        case rel => exact ⟨j + 1, by omega, by go_num, by rw [HST.out]; go_num, hb3⟩
        case measure => simp [intOf]; omega
      · have hj' : j = kids.length := by omega
        subst hj'
        rw [List.take_length] at *
        generalize hTT : PP.sizeL kids = T at *
        have HTT := Lib.hid hTT
        clear hTT
        go_wp2_with fail
        go_ret
        refine ⟨?_, hb0.trans (hbr.mono hb0.size)⟩
        rw [← HM.out]; simp only [PP.Tree.size, HTT.out]; rfl

theorem rnest_kids {w : World} {Z : Nat → Prop} {A : Option Addr} {kids : List Tree} (h : KidsC w Z A kids) : ∀ W, Keep Z w W → ∀ (k : Nat) (num : Int) (nm : List UInt8) (c : Nat), PP.sizeL kids ≤ 1000000 →
    Calls Tryz.prog 70 #[.agg #[.int .u8 (k : Int), .int .i64 num, .string ⟨nm.toArray⟩, .slice A kids.length c]] W fun e w' => e = .returned (.int .i64 ((Tree.node k num nm kids).nest : Int)) ∧ Below W.heap.size W w' := by
  induction h with
  | mk A kids g o K N S AA C KS hA hk hc hh ih =>
    intro W hkeep k num nm c hsz
    have hlen := PP.len_sizeL kids
    have HIH := Lib.hid ih
    have HKP := Lib.hid hkeep
    have HHK := Lib.hid hk
    have HHC := Lib.hid hc
    have HHA := Lib.hid hA
    clear ih hkeep hk hc hh hA
    generalize hM : ((Tree.node k num nm kids).nest : Int) = M
    have HM := Lib.hid hM
    clear hM
    generalize hw0 : W.alloc (.cells #[.int .u8 (k : Int), .int .i64 num, .string ⟨nm.toArray⟩, .slice A kids.length c] 36) = w0
    have hb0 : Below W.heap.size W w0 := by rw [← hw0]; exact (Below.refl _ _).alloc (Nat.le_refl _) _
    have hB : Blk w0 W.heap.size 36 #[.int .u8 (k : Int), .int .i64 num, .string ⟨nm.toArray⟩, .slice A kids.length c] := by rw [← hw0]; exact Blk.new _ _ _
    have HW0 := Lib.hid hw0
    clear hw0
    go_enter Tryz.func70, Tryz.ntmps70
    go_wp2_with fail
    rw [HW0.out]
    go_loopw [3, 4] (fun d i wr => NestRel kids w0 d i wr) (fun _ i _ => kids.length - (intOf i).toNat)
    case atStart => exact ⟨0, Nat.zero_le _, rfl, by simp [PP.nestL], Below.refl _ _⟩
    case round =>
      obtain ⟨j, hj, rfl, rfl, hbr⟩ := hrel
      have hBr : Blk wr W.heap.size 36 #[.int .u8 (k : Int), .int .i64 num, .string ⟨nm.toArray⟩, .slice A kids.length c] := (hbr.block _ hB.lt).trans hB
      obtain ⟨⟨k0, k1, k2, k3⟩, _, _, _, _⟩ := hBr.four
      have hzt := PP.sizeL_take kids j
      have hmt : PP.nestL (kids.take j) ≤ PP.sizeL (kids.take j) := PP.nestL_size _
      by_cases hlt : j < kids.length
      · have hA' := HHA.out (by intro e; rw [e] at hlt; simp at hlt)
        obtain ⟨hA1, hA2, hA3⟩ := hA'
        obtain ⟨c0, c1, c2, c3⟩ := HHC.out j hlt
        have hkj := HHK.out j hlt
        have hkp : Keep Z w wr := HKP.out.trans ⟨Nat.le_trans hb0.size hbr.size, fun g _ hg => (hbr.block g (Nat.lt_of_lt_of_le hg hb0.size)).trans (hb0.block g hg)⟩
        have hbg := hkp.2 g hA2 hA3
        have d0 := (World.cell?_of_block (a := ⟨g, o + j * 4, none⟩) hbg).trans c0
        have d1 := (World.cell?_of_block (a := ⟨g, o + j * 4 + 1, none⟩) hbg).trans c1
        have d2 := (World.cell?_of_block (a := ⟨g, o + j * 4 + 2, none⟩) hbg).trans c2
        have d3 := (World.cell?_of_block (a := ⟨g, o + j * 4 + 3, none⟩) hbg).trans c3
        have hjs := PP.size_mem (List.mem_of_getElem? hkj)
        have hks : PP.sizeL (KS j) ≤ 1000000 := by simp only [PP.Tree.size] at hjs; omega
        have hcall := HIH.out j hlt wr hkp (K j) (N j) (S j) (C j) hks
        have hdm : (Tree.node (K j) (N j) (S j) (KS j)).nest ≤ 1000001 := by have := PP.nest_size (Tree.node (K j) (N j) (S j) (KS j)); simp only [PP.Tree.size] at hjs this; omega
        have hst : PP.nestL (kids.take (j + 1)) = max (PP.nestL (kids.take j)) (Tree.node (K j) (N j) (S j) (KS j)).nest := by rw [take_at hkj, PP.nestL_snoc]
        generalize (Tree.node (K j) (N j) (S j) (KS j)).nest = D at *
        have HST := Lib.hid hst
        have HC := Lib.hid hcall
        subst hA1
        have p1 : (0 : Int) ≤ (j : Int) := by omega
        have p2 : (j : Int) < (kids.length : Int) := by omega
        clear hcall hst hkp hbg c0 c1 c2 c3 hkj hks hjs hA2 hA3
        generalize PP.nestL (kids.take j) = T at *
        go_wp2_with fail
        refine HC.out.mono ?_
        rintro e w2 ⟨rfl, hb2⟩
        have hb3 : Below w0.heap.size w0 w2 := hbr.trans (hb2.mono hbr.size)
        clear hb2 d0 d1 d2 d3
        by_cases hTD : T < D
        · have p3 : (T : Int) < (D : Int) := by omega
          have p4 : ((D : Int) > (T : Int)) := p3
          go_wp2_with fail
          go_roundw
          case rel => exact ⟨j + 1, by omega, by go_num, by rw [HST.out, Nat.max_eq_right (Nat.le_of_lt hTD)], hb3⟩
          case measure => simp [intOf]; omega
        · have p3 : ¬ (T : Int) < (D : Int) := by omega
          go_wp2_with fail
          go_roundw
          case rel => exact ⟨j + 1, by omega, by go_num, by rw [HST.out, Nat.max_eq_left (Nat.le_of_not_lt hTD)], hb3⟩
          case measure => simp [intOf]; omega
      · have hj' : j = kids.length := by omega
        subst hj'
        rw [List.take_length] at *
        generalize hTT : PP.nestL kids = T at *
        have HTT := Lib.hid hTT
        clear hTT
        obtain ⟨⟨b0, _, _, _⟩, _, _, _, _⟩ := hBr.four
        by_cases h1 : k = 42
        · have e1 : ((k : Int) == 42) = true := by simp [h1]
          have HK1 := Lib.hid h1
          clear h1
          go_wp2_with fail
          go_ret
          refine ⟨?_, hb0.trans (hbr.mono hb0.size)⟩
          rw [← HM.out]; simp only [PP.Tree.nest, HTT.out, HK1.out]; simp
        · have e1 : ((k : Int) == 42) = false := beq_eq_false_iff_ne.2 (by omega)
          by_cases h2 : k = 43
          · have e2 : ((k : Int) == 43) = true := by simp [h2]
            have HK2 := Lib.hid h2
            clear h1 h2
            go_wp2_with fail
            go_ret
            refine ⟨?_, hb0.trans (hbr.mono hb0.size)⟩
            rw [← HM.out]; simp only [PP.Tree.nest, HTT.out, HK2.out]; simp
          · have e2 : ((k : Int) == 43) = false := beq_eq_false_iff_ne.2 (by omega)
            have HK1 := Lib.hid h1
            have HK2 := Lib.hid h2
            clear h1 h2
            go_wp2_with fail
            go_ret
            refine ⟨?_, hb0.trans (hbr.mono hb0.size)⟩
            rw [← HM.out]; simp only [PP.Tree.nest, HTT.out, HK1.out, HK2.out]; simp

end
end Go.Proofs.YtglaecalbamnkaaGreatDoor
