/- The contracts of a tree's measures (written by wip/genmeas.py). -/
import Derived.Test.YtaaaicpjlaeiiaaDoorPlainPar4
import Derived.Test.YtaaaicpjlaeiiaaDoorInv
import Derived.LoopTactic
namespace Go.Proofs.YtaaaicpjlaeiiaaDoor
open Go.RowKit Go.Maps
open PP (Tree)

namespace PP
theorem sizeL_snoc (l : List Tree) (t : Tree) : sizeL (l ++ [t]) = sizeL l + t.size := by
  induction l with
  | nil => simp [sizeL]
  | cons a l ih => simp only [List.cons_append, sizeL, ih]; omega
theorem depthL_snoc (l : List Tree) (t : Tree) : depthL (l ++ [t]) = max (depthL l) t.depth := by
  induction l with
  | nil => simp [depthL]
  | cons a l ih => simp only [List.cons_append, depthL, ih]; omega
theorem nestL_snoc (l : List Tree) (t : Tree) : nestL (l ++ [t]) = max (nestL l) t.nest := by
  induction l with
  | nil => simp [nestL]
  | cons a l ih => simp only [List.cons_append, nestL, ih]; omega
theorem size_pos (t : Tree) : 1 ≤ t.size := by cases t; simp only [Tree.size]; omega
theorem len_sizeL (l : List Tree) : l.length ≤ sizeL l := by
  induction l with
  | nil => simp
  | cons a l ih => have := size_pos a; simp only [List.length_cons, sizeL]; omega
mutual
theorem depth_size : ∀ t : Tree, t.depth ≤ t.size
  | .node k num nm ks => by have := depthL_size ks; simp only [Tree.depth, Tree.size]; omega
theorem depthL_size : ∀ l : List Tree, depthL l ≤ sizeL l
  | [] => by simp [depthL]
  | t :: ts => by have := depth_size t; have := depthL_size ts; simp only [depthL, sizeL]; omega
end
mutual
theorem nest_size : ∀ t : Tree, t.nest ≤ t.size
  | .node k num nm ks => by have := nestL_size ks; simp only [Tree.nest, Tree.size]; split <;> omega
theorem nestL_size : ∀ l : List Tree, nestL l ≤ sizeL l
  | [] => by simp [nestL]
  | t :: ts => by have := nest_size t; have := nestL_size ts; simp only [nestL, sizeL]; omega
end
theorem sizeL_take (l : List Tree) (j : Nat) : sizeL (l.take j) ≤ sizeL l := by
  induction l generalizing j with
  | nil => simp
  | cons a l ih => cases j with
    | zero => simp [sizeL]
    | succ j => have := ih j; simp only [List.take_succ_cons, sizeL]; omega
theorem size_mem {l : List Tree} {t : Tree} (h : t ∈ l) : t.size ≤ sizeL l := by
  induction l with
  | nil => simp at h
  | cons a l ih => rcases List.mem_cons.1 h with rfl | h
                   · simp only [sizeL]; omega
                   · have := ih h; simp only [sizeL]; omega
end PP
theorem take_at {α : Type} {l : List α} {j : Nat} {x : α} (h : l[j]? = some x) : l.take (j + 1) = l.take j ++ [x] := by
  obtain ⟨hlt, rfl⟩ := List.getElem?_eq_some_iff.1 h
  exact List.take_succ_eq_append_getElem hlt

section
set_option maxHeartbeats 1000000
set_option maxRecDepth 100000
def DepthRel (kids : List Tree) (w0 : World) (d i : Value) (wr : World) : Prop := ∃ j : Nat, j ≤ kids.length ∧ i = .int .i64 (j : Int) ∧ d = .int .i64 ((PP.depthL (kids.take j) : Nat) : Int) ∧ Below w0.heap.size w0 wr
theorem depth_kids {w : World} {Z : Nat → Prop} {A : Option Addr} {kids : List Tree} (h : KidsC w Z A kids) : ∀ W, Keep Z w W → ∀ (k : Nat) (num : Int) (nm : List UInt8) (c : Nat), PP.sizeL kids ≤ 1000000 →
    Calls Tryd.prog 123 #[.agg #[.int .u8 (k : Int), .int .i64 num, .string ⟨nm.toArray⟩, .slice A kids.length c]] W fun e w' => e = .returned (.int .i64 ((Tree.node k num nm kids).depth : Int)) ∧ Below W.heap.size W w' := by
  induction h with
  | mk A kids g o K N S AA C KS hA hk hc hh ih =>
    intro W hkeep k num nm c hsz
    have hlen := PP.len_sizeL kids
    have HIH := Lib.hid ih
    have HKP := Lib.hid hkeep
    have HHK := Lib.hid hk
    have HHC := Lib.hid hc
    have HHA := Lib.hid hA
    clear ih hkeep hk hc hh hA
    generalize hM : ((Tree.node k num nm kids).depth : Int) = M
    have HM := Lib.hid hM
    clear hM
    generalize hw0 : W.alloc (.cells #[.int .u8 (k : Int), .int .i64 num, .string ⟨nm.toArray⟩, .slice A kids.length c] 24) = w0
    have hb0 : Below W.heap.size W w0 := by rw [← hw0]; exact (Below.refl _ _).alloc (Nat.le_refl _) _
    have hB : Blk w0 W.heap.size 24 #[.int .u8 (k : Int), .int .i64 num, .string ⟨nm.toArray⟩, .slice A kids.length c] := by rw [← hw0]; exact Blk.new _ _ _
    have HW0 := Lib.hid hw0
    clear hw0
    go_enter Tryd.func123, Tryd.ntmps123
    go_wp2_with fail
    rw [HW0.out]
    go_loopw [3, 9] (fun d i wr => DepthRel kids w0 d i wr) (fun _ i _ => kids.length - (intOf i).toNat)
    case atStart => exact ⟨0, Nat.zero_le _, rfl, by simp [PP.depthL], Below.refl _ _⟩
    case round =>
      obtain ⟨j, hj, rfl, rfl, hbr⟩ := hrel
      have hBr : Blk wr W.heap.size 24 #[.int .u8 (k : Int), .int .i64 num, .string ⟨nm.toArray⟩, .slice A kids.length c] := (hbr.block _ hB.lt).trans hB
      have hzt := PP.sizeL_take kids j
      have hmt : PP.depthL (kids.take j) ≤ PP.sizeL (kids.take j) := PP.depthL_size _
      by_cases hlt : j < kids.length
      · have hA' := HHA.out (by intro e; rw [e] at hlt; simp at hlt)
        obtain ⟨hA1, hA2, hA3⟩ := hA'
        obtain ⟨c0, c1, c2, c3⟩ := HHC.out j hlt
        have hkj := HHK.out j hlt
        have hkp : Keep Z w wr := HKP.out.trans ⟨Nat.le_trans hb0.size hbr.size, fun g _ hg => (hbr.block g (Nat.lt_of_lt_of_le hg hb0.size)).trans (hb0.block g hg)⟩
        have hbg := hkp.2 g hA2 hA3
        have d0 := (World.cell?_of_block (a := ⟨g, o + j * 4, none⟩) hbg).trans c0
        have d1 := (World.cell?_of_block (a := ⟨g, o + j * 4 + 1, none⟩) hbg).trans c1
        have d2 := (World.cell?_of_block (a := ⟨g, o + j * 4 + 2, none⟩) hbg).trans c2
        have d3 := (World.cell?_of_block (a := ⟨g, o + j * 4 + 3, none⟩) hbg).trans c3
        have hjs := PP.size_mem (List.mem_of_getElem? hkj)
        have hks : PP.sizeL (KS j) ≤ 1000000 := by simp only [PP.Tree.size] at hjs; omega
        have hcall := HIH.out j hlt (wr.alloc (.cells #[.int .u8 (K j : Int), .int .i64 (N j), .string ⟨(S j).toArray⟩, .slice (AA j) (KS j).length (C j)] 24)) (hkp.alloc _) (K j) (N j) (S j) (C j) hks
        have hdm : (Tree.node (K j) (N j) (S j) (KS j)).depth ≤ 1000001 := by have := PP.depth_size (Tree.node (K j) (N j) (S j) (KS j)); simp only [PP.Tree.size] at hjs this; omega
        have hst : PP.depthL (kids.take (j + 1)) = max (PP.depthL (kids.take j)) (Tree.node (K j) (N j) (S j) (KS j)).depth := by rw [take_at hkj, PP.depthL_snoc]
        generalize (Tree.node (K j) (N j) (S j) (KS j)).depth = D at *
        have HST := Lib.hid hst
        have HC := Lib.hid hcall
        subst hA1
        have p1 : (0 : Int) ≤ (j : Int) := by omega
        have p2 : (j : Int) < (kids.length : Int) := by omega
        clear hcall hst hkp hbg c0 c1 c2 c3 hkj hks hjs hA2 hA3
        generalize PP.depthL (kids.take j) = T at *
        go_wp2_with fail
        refine HC.out.mono ?_
        rintro e w2 ⟨rfl, hb2⟩
        have hb3 : Below w0.heap.size w0 w2 := hbr.trans ((((Below.refl wr.heap.size wr).alloc (Nat.le_refl _) _).trans (hb2.mono (by simp))).mono hbr.size)
        clear hb2 d0 d1 d2 d3
        go_wp2_with fail
        go_roundw
        case rel => exact ⟨j + 1, by omega, by go_num, by rw [HST.out]; go_num, hb3⟩
        case measure => simp [intOf]; omega
      · have hj' : j = kids.length := by omega
        subst hj'
        rw [List.take_length] at *
        generalize hTT : PP.depthL kids = T at *
        have HTT := Lib.hid hTT
        clear hTT
        go_wp2_with fail
        go_ret
        refine ⟨?_, hb0.trans (hbr.mono hb0.size)⟩
        rw [← HM.out]; simp only [PP.Tree.depth, HTT.out]; rfl

def SizeRel (kids : List Tree) (w0 : World) (d i : Value) (wr : World) : Prop := ∃ j : Nat, j ≤ kids.length ∧ i = .int .i64 (j : Int) ∧ d = .int .i64 ((1 + PP.sizeL (kids.take j) : Nat) : Int) ∧ Below w0.heap.size w0 wr
theorem size_kids {w : World} {Z : Nat → Prop} {A : Option Addr} {kids : List Tree} (h : KidsC w Z A kids) : ∀ W, Keep Z w W → ∀ (k : Nat) (num : Int) (nm : List UInt8) (c : Nat), PP.sizeL kids ≤ 1000000 →
    Calls Tryd.prog 124 #[.agg #[.int .u8 (k : Int), .int .i64 num, .string ⟨nm.toArray⟩, .slice A kids.length c]] W fun e w' => e = .returned (.int .i64 ((Tree.node k num nm kids).size : Int)) ∧ Below W.heap.size W w' := by
  induction h with
  | mk A kids g o K N S AA C KS hA hk hc hh ih =>
    intro W hkeep k num nm c hsz
    have hlen := PP.len_sizeL kids
    have HIH := Lib.hid ih
    have HKP := Lib.hid hkeep
    have HHK := Lib.hid hk
    have HHC := Lib.hid hc
    have HHA := Lib.hid hA
    clear ih hkeep hk hc hh hA
    generalize hM : ((Tree.node k num nm kids).size : Int) = M
    have HM := Lib.hid hM
    clear hM
    generalize hw0 : W.alloc (.cells #[.int .u8 (k : Int), .int .i64 num, .string ⟨nm.toArray⟩, .slice A kids.length c] 24) = w0
    have hb0 : Below W.heap.size W w0 := by rw [← hw0]; exact (Below.refl _ _).alloc (Nat.le_refl _) _
    have hB : Blk w0 W.heap.size 24 #[.int .u8 (k : Int), .int .i64 num, .string ⟨nm.toArray⟩, .slice A kids.length c] := by rw [← hw0]; exact Blk.new _ _ _
    have HW0 := Lib.hid hw0
    clear hw0
    go_enter Tryd.func124, Tryd.ntmps124
    go_wp2_with fail
    rw [HW0.out]
    go_loopw [3, 9] (fun d i wr => SizeRel kids w0 d i wr) (fun _ i _ => kids.length - (intOf i).toNat)
    case atStart => exact ⟨0, Nat.zero_le _, rfl, by simp [PP.sizeL], Below.refl _ _⟩
    case round =>
      obtain ⟨j, hj, rfl, rfl, hbr⟩ := hrel
      have hBr : Blk wr W.heap.size 24 #[.int .u8 (k : Int), .int .i64 num, .string ⟨nm.toArray⟩, .slice A kids.length c] := (hbr.block _ hB.lt).trans hB
      have hzt := PP.sizeL_take kids j
      have hmt : PP.sizeL (kids.take j) ≤ PP.sizeL (kids.take j) := Nat.le_refl _
      by_cases hlt : j < kids.length
      · have hA' := HHA.out (by intro e; rw [e] at hlt; simp at hlt)
        obtain ⟨hA1, hA2, hA3⟩ := hA'
        obtain ⟨c0, c1, c2, c3⟩ := HHC.out j hlt
        have hkj := HHK.out j hlt
        have hkp : Keep Z w wr := HKP.out.trans ⟨Nat.le_trans hb0.size hbr.size, fun g _ hg => (hbr.block g (Nat.lt_of_lt_of_le hg hb0.size)).trans (hb0.block g hg)⟩
        have hbg := hkp.2 g hA2 hA3
        have d0 := (World.cell?_of_block (a := ⟨g, o + j * 4, none⟩) hbg).trans c0
        have d1 := (World.cell?_of_block (a := ⟨g, o + j * 4 + 1, none⟩) hbg).trans c1
        have d2 := (World.cell?_of_block (a := ⟨g, o + j * 4 + 2, none⟩) hbg).trans c2
        have d3 := (World.cell?_of_block (a := ⟨g, o + j * 4 + 3, none⟩) hbg).trans c3
        have hjs := PP.size_mem (List.mem_of_getElem? hkj)
        have hks : PP.sizeL (KS j) ≤ 1000000 := by simp only [PP.Tree.size] at hjs; omega
        have hcall := HIH.out j hlt (wr.alloc (.cells #[.int .u8 (K j : Int), .int .i64 (N j), .string ⟨(S j).toArray⟩, .slice (AA j) (KS j).length (C j)] 24)) (hkp.alloc _) (K j) (N j) (S j) (C j) hks
        have hdm : (Tree.node (K j) (N j) (S j) (KS j)).size ≤ 1000001 := by simp only [PP.Tree.size] at hjs ⊢; omega
        have hst : PP.sizeL (kids.take (j + 1)) = PP.sizeL (kids.take j) + (Tree.node (K j) (N j) (S j) (KS j)).size := by rw [take_at hkj, PP.sizeL_snoc]
        generalize (Tree.node (K j) (N j) (S j) (KS j)).size = D at *
        have HST := Lib.hid hst
        have HC := Lib.hid hcall
        subst hA1
        have p1 : (0 : Int) ≤ (j : Int) := by omega
        have p2 : (j : Int) < (kids.length : Int) := by omega
        clear hcall hst hkp hbg c0 c1 c2 c3 hkj hks hjs hA2 hA3
        generalize PP.sizeL (kids.take j) = T at *
        go_wp2_with fail
        refine HC.out.mono ?_
        rintro e w2 ⟨rfl, hb2⟩
        have hb3 : Below w0.heap.size w0 w2 := hbr.trans ((((Below.refl wr.heap.size wr).alloc (Nat.le_refl _) _).trans (hb2.mono (by simp))).mono hbr.size)
        clear hb2 d0 d1 d2 d3
        go_wp2_with fail
        go_roundw
        case rel => exact ⟨j + 1, by omega, by go_num, by rw [HST.out]; go_num, hb3⟩
        case measure => simp [intOf]; omega
      · have hj' : j = kids.length := by omega
        subst hj'
        rw [List.take_length] at *
        generalize hTT : PP.sizeL kids = T at *
        have HTT := Lib.hid hTT
        clear hTT
        go_wp2_with fail
        go_ret
        refine ⟨?_, hb0.trans (hbr.mono hb0.size)⟩
        rw [← HM.out]; simp only [PP.Tree.size, HTT.out]; rfl

def NestRel (kids : List Tree) (w0 : World) (d i : Value) (wr : World) : Prop := ∃ j : Nat, j ≤ kids.length ∧ i = .int .i64 (j : Int) ∧ d = .int .i64 ((PP.nestL (kids.take j) : Nat) : Int) ∧ Below w0.heap.size w0 wr
theorem nest_kids {w : World} {Z : Nat → Prop} {A : Option Addr} {kids : List Tree} (h : KidsC w Z A kids) : ∀ W, Keep Z w W → ∀ (k : Nat) (num : Int) (nm : List UInt8) (c : Nat), PP.sizeL kids ≤ 1000000 →
    Calls Tryd.prog 93 #[.agg #[.int .u8 (k : Int), .int .i64 num, .string ⟨nm.toArray⟩, .slice A kids.length c]] W fun e w' => e = .returned (.int .i64 ((Tree.node k num nm kids).nest : Int)) ∧ Below W.heap.size W w' := by
  induction h with
  | mk A kids g o K N S AA C KS hA hk hc hh ih =>
    intro W hkeep k num nm c hsz
    have hlen := PP.len_sizeL kids
    have HIH := Lib.hid ih
    have HKP := Lib.hid hkeep
    have HHK := Lib.hid hk
    have HHC := Lib.hid hc
    have HHA := Lib.hid hA
    clear ih hkeep hk hc hh hA
    generalize hM : ((Tree.node k num nm kids).nest : Int) = M
    have HM := Lib.hid hM
    clear hM
    generalize hw0 : W.alloc (.cells #[.int .u8 (k : Int), .int .i64 num, .string ⟨nm.toArray⟩, .slice A kids.length c] 24) = w0
    have hb0 : Below W.heap.size W w0 := by rw [← hw0]; exact (Below.refl _ _).alloc (Nat.le_refl _) _
    have hB : Blk w0 W.heap.size 24 #[.int .u8 (k : Int), .int .i64 num, .string ⟨nm.toArray⟩, .slice A kids.length c] := by rw [← hw0]; exact Blk.new _ _ _
    have HW0 := Lib.hid hw0
    clear hw0
    go_enter Tryd.func93, Tryd.ntmps93
    go_wp2_with fail
    rw [HW0.out]
    go_loopw [3, 9] (fun d i wr => NestRel kids w0 d i wr) (fun _ i _ => kids.length - (intOf i).toNat)
    case atStart => exact ⟨0, Nat.zero_le _, rfl, by simp [PP.nestL], Below.refl _ _⟩
    case round =>
      obtain ⟨j, hj, rfl, rfl, hbr⟩ := hrel
      have hBr : Blk wr W.heap.size 24 #[.int .u8 (k : Int), .int .i64 num, .string ⟨nm.toArray⟩, .slice A kids.length c] := (hbr.block _ hB.lt).trans hB
      have hzt := PP.sizeL_take kids j
      have hmt : PP.nestL (kids.take j) ≤ PP.sizeL (kids.take j) := PP.nestL_size _
      by_cases hlt : j < kids.length
      · have hA' := HHA.out (by intro e; rw [e] at hlt; simp at hlt)
        obtain ⟨hA1, hA2, hA3⟩ := hA'
        obtain ⟨c0, c1, c2, c3⟩ := HHC.out j hlt
        have hkj := HHK.out j hlt
        have hkp : Keep Z w wr := HKP.out.trans ⟨Nat.le_trans hb0.size hbr.size, fun g _ hg => (hbr.block g (Nat.lt_of_lt_of_le hg hb0.size)).trans (hb0.block g hg)⟩
        have hbg := hkp.2 g hA2 hA3
        have d0 := (World.cell?_of_block (a := ⟨g, o + j * 4, none⟩) hbg).trans c0
        have d1 := (World.cell?_of_block (a := ⟨g, o + j * 4 + 1, none⟩) hbg).trans c1
        have d2 := (World.cell?_of_block (a := ⟨g, o + j * 4 + 2, none⟩) hbg).trans c2
        have d3 := (World.cell?_of_block (a := ⟨g, o + j * 4 + 3, none⟩) hbg).trans c3
        have hjs := PP.size_mem (List.mem_of_getElem? hkj)
        have hks : PP.sizeL (KS j) ≤ 1000000 := by simp only [PP.Tree.size] at hjs; omega
        have hcall := HIH.out j hlt (wr.alloc (.cells #[.int .u8 (K j : Int), .int .i64 (N j), .string ⟨(S j).toArray⟩, .slice (AA j) (KS j).length (C j)] 24)) (hkp.alloc _) (K j) (N j) (S j) (C j) hks
        have hdm : (Tree.node (K j) (N j) (S j) (KS j)).nest ≤ 1000001 := by have := PP.nest_size (Tree.node (K j) (N j) (S j) (KS j)); simp only [PP.Tree.size] at hjs this; omega
        have hst : PP.nestL (kids.take (j + 1)) = max (PP.nestL (kids.take j)) (Tree.node (K j) (N j) (S j) (KS j)).nest := by rw [take_at hkj, PP.nestL_snoc]
        generalize (Tree.node (K j) (N j) (S j) (KS j)).nest = D at *
        have HST := Lib.hid hst
        have HC := Lib.hid hcall
        subst hA1
        have p1 : (0 : Int) ≤ (j : Int) := by omega
        have p2 : (j : Int) < (kids.length : Int) := by omega
        clear hcall hst hkp hbg c0 c1 c2 c3 hkj hks hjs hA2 hA3
        generalize PP.nestL (kids.take j) = T at *
        go_wp2_with fail
        refine HC.out.mono ?_
        rintro e w2 ⟨rfl, hb2⟩
        have hb3 : Below w0.heap.size w0 w2 := hbr.trans ((((Below.refl wr.heap.size wr).alloc (Nat.le_refl _) _).trans (hb2.mono (by simp))).mono hbr.size)
        clear hb2 d0 d1 d2 d3
        go_wp2_with fail
        go_roundw
        case rel => exact ⟨j + 1, by omega, by go_num, by rw [HST.out]; go_num, hb3⟩
        case measure => simp [intOf]; omega
      · have hj' : j = kids.length := by omega
        subst hj'
        rw [List.take_length] at *
        generalize hTT : PP.nestL kids = T at *
        have HTT := Lib.hid hTT
        clear hTT
        obtain ⟨⟨b0, _, _, _⟩, _, _, _, _⟩ := hBr.four
        by_cases h1 : k = 42
        · have e1 : ((k : Int) == 42) = true := by simp [h1]
          have HK1 := Lib.hid h1
          clear h1
          go_wp2_with fail
          go_ret
          refine ⟨?_, hb0.trans (hbr.mono hb0.size)⟩
          rw [← HM.out]; simp only [PP.Tree.nest, HTT.out, HK1.out]; simp
        · have e1 : ((k : Int) == 42) = false := beq_eq_false_iff_ne.2 (by omega)
          by_cases h2 : k = 43
          · have e2 : ((k : Int) == 43) = true := by simp [h2]
            have HK2 := Lib.hid h2
            clear h1 h2
            go_wp2_with fail
            go_ret
            refine ⟨?_, hb0.trans (hbr.mono hb0.size)⟩
            rw [← HM.out]; simp only [PP.Tree.nest, HTT.out, HK2.out]; simp
          · have e2 : ((k : Int) == 43) = false := beq_eq_false_iff_ne.2 (by omega)
            have HK1 := Lib.hid h1
            have HK2 := Lib.hid h2
            clear h1 h2
            go_wp2_with fail
            go_ret
            refine ⟨?_, hb0.trans (hbr.mono hb0.size)⟩
            rw [← HM.out]; simp only [PP.Tree.nest, HTT.out, HK1.out, HK2.out]; simp

end
end Go.Proofs.YtaaaicpjlaeiiaaDoor
