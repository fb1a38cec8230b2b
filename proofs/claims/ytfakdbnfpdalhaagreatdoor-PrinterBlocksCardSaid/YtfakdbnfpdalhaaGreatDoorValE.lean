/- The contract of ast.isSmall. -/
import Derived.Test.YtfakdbnfpdalhaaGreatDoorValD
namespace Go.Proofs.YtfakdbnfpdalhaaGreatDoor
open Go.RowKit Go.Maps
open PP (Tree ArrD TaskD ProgD)
def SmallEnd (lb : Nat) (t : Tree) (d : Nat) (L : Int) (W : World) (e : Ending) (w' : World) : Prop :=
  ∃ L' : Int, e = .returned (.bool (decide (t.depth ≤ d) && decide ((t.size : Int) ≤ L))) ∧ Fr lb W w' ∧ Blk w' lb 3 #[.int .i64 L'] ∧ (t.depth ≤ d → (t.size : Int) ≤ L → L' = L - t.size)
def SmallRel (kids : List Tree) (lb : Nat) (d : Nat) (L : Int) (w0 : World) (i : Value) (wr : World) : Prop :=
  ∃ j : Nat, j ≤ kids.length ∧ i = .int .i64 (j : Int) ∧ Fr lb w0 wr ∧ Blk wr lb 3 #[.int .i64 (L - 1 - (PP.sizeL (kids.take j) : Int))] ∧ PP.depthL (kids.take j) + 1 ≤ d ∧ (1 + PP.sizeL (kids.take j) : Int) ≤ L
theorem PP.depth_mem {l : List Tree} {t : Tree} (h : t ∈ l) : t.depth ≤ PP.depthL l := by
  induction l with
  | nil => simp at h
  | cons a l ih =>
    simp only [PP.depthL]
    rcases List.mem_cons.1 h with rfl | h
    · omega
    · have := ih h; omega
section
set_option maxHeartbeats 4000000
set_option maxRecDepth 100000
theorem small_kids {w : World} {Z : Nat → Prop} {A : Option Addr} {kids : List Tree} (h : KidsC w Z A kids) : ∀ W, Keep Z w W → ∀ (lb : Nat), ¬ Z lb → ∀ (L : Int), Blk W lb 3 #[.int .i64 L] → ∀ (d k : Nat) (num : Int) (nm : List UInt8) (c : Nat), PP.sizeL kids ≤ 1000000 → 0 ≤ L → L ≤ 1000000 → d ≤ 1000000 →
    Calls Tryz.prog 114 #[.agg #[.int .u8 (k : Int), .int .i64 num, .string ⟨nm.toArray⟩, .slice A kids.length c], .int .i64 (d : Int), .pointer (some ⟨lb, 0, none⟩)] W (SmallEnd lb (.node k num nm kids) d L W) := by
  induction h with
  | mk A kids g o K N S AA C KS hA hk hc hh ih =>
    intro W hkeep lb hzb L hL d k num nm c hsz hL0 hL1 hd
    have hlen := PP.len_sizeL kids
    have HIH := Lib.hid ih
    have HKP := Lib.hid hkeep
    have HHK := Lib.hid hk
    have HHC := Lib.hid hc
    have HHA := Lib.hid hA
    have HZB := Lib.hid hzb
    have hnot : ∀ (x : Bool) (w : World), (Op.unary .not (.bool x)).run Tryz.prog w = .ok (.bool (!x)) w := fun _ _ => rfl
    clear ih hkeep hk hc hh hA hzb
    have hlb := hL.lt
    have c0 : W.cell? ⟨lb, 0, none⟩ = some (.int .i64 L) := hL.cell 0
    have c1 := hL.frozen 0
    have hne : lb ≠ W.heap.size := by omega
    have hne2 : W.heap.size ≠ lb := by omega
    have hst := (hL.set_ 0 (.int .i64 (L - 1))).alloc (.cells #[.int .u8 (k : Int), .int .i64 num, .string ⟨nm.toArray⟩, .slice A kids.length c] 36)
    have hst' : Blk ((W.setCell ⟨lb, 0, none⟩ (.int .i64 (L - 1))).alloc (.cells #[.int .u8 (k : Int), .int .i64 num, .string ⟨nm.toArray⟩, .slice A kids.length c] 36)) lb 3 #[.int .i64 (L - 1)] := hst
    have hfr : Fr lb W ((W.setCell ⟨lb, 0, none⟩ (.int .i64 (L - 1))).alloc (.cells #[.int .u8 (k : Int), .int .i64 num, .string ⟨nm.toArray⟩, .slice A kids.length c] 36)) := ((Fr.refl lb W).set 0 _).alloc _
    have HST := Lib.hid hst'
    have HFR := Lib.hid hfr
    have hnb : Blk ((W.setCell ⟨lb, 0, none⟩ (.int .i64 (L - 1))).alloc (.cells #[.int .u8 (k : Int), .int .i64 num, .string ⟨nm.toArray⟩, .slice A kids.length c] 36)) W.heap.size 36 #[.int .u8 (k : Int), .int .i64 num, .string ⟨nm.toArray⟩, .slice A kids.length c] := by
      have := Blk.new (W.setCell ⟨lb, 0, none⟩ (.int .i64 (L - 1))) 36 #[.int .u8 (k : Int), .int .i64 num, .string ⟨nm.toArray⟩, .slice A kids.length c]
      simpa [World.setCell] using this
    have HNB := Lib.hid hnb
    clear hst hst' hfr hnb hL
    have hkid : ∀ (i : Nat) t, kids[i]? = some t → t.depth ≤ PP.depthL kids := fun i t hi => PP.depth_mem (List.mem_of_getElem? hi)
    have HKD := Lib.hid hkid
    clear hkid
    have hdep : (Tree.node k num nm kids).depth = PP.depthL kids + 1 := by simp only [PP.Tree.depth]
    have hsiz : (Tree.node k num nm kids).size = 1 + PP.sizeL kids := by simp only [PP.Tree.size]
    have HD := Lib.hid hdep
    have HZ := Lib.hid hsiz
    clear hdep hsiz
    generalize Tree.node k num nm kids = T at *
    by_cases hd0 : d = 0
    · subst hd0
      go_enter Tryz.func114, Tryz.ntmps114
      go_wp2_with fail
      go_ret
      refine ⟨L - 1, ?_, HFR.out, HST.out, fun h => ?_⟩
      · rw [show decide (T.depth ≤ 0) = false from by simp; rw [HD.out]; omega]; rfl
      · rw [HD.out] at h; omega
    have e1 : ((d : Int) == 0) = false := by simp; omega
    by_cases hl0 : L = 0
    · subst hl0
      go_enter Tryz.func114, Tryz.ntmps114
      go_wp2_with fail
      go_ret
      refine ⟨0 - 1, ?_, HFR.out, HST.out, fun _ h => ?_⟩
      · rw [show decide ((T.size : Int) ≤ 0) = false from by simp; rw [HZ.out]; omega]; simp
      · rw [HZ.out] at h; omega
    have e2 : decide (L - 1 < 0) = false := by simp; omega
    go_enter Tryz.func114, Tryz.ntmps114
    go_wp2_with fail
    generalize (W.setCell ⟨lb, 0, none⟩ (.int .i64 (L - 1))).alloc (.cells #[.int .u8 (k : Int), .int .i64 num, .string ⟨nm.toArray⟩, .slice A kids.length c] 36) = w0 at *
    go_loopw [25] (fun i wr => SmallRel kids lb d L w0 i wr) (fun i _ => kids.length - (intOf i).toNat)
    case atStart => exact ⟨0, Nat.zero_le _, rfl, Fr.refl _ _, by simpa [PP.sizeL] using HST.out, by simp [PP.depthL]; omega, by simp [PP.sizeL]; omega⟩
    case round =>
      obtain ⟨j, hj, rfl, hbr, hblk, hdj, hsj⟩ := hrel
      have hzt := PP.sizeL_take kids j
      by_cases hlt : j < kids.length
      · obtain ⟨hA1, hA2, hA3⟩ := HHA.out (by intro e; rw [e] at hlt; simp at hlt)
        obtain ⟨c0, c1, c2, c3⟩ := HHC.out j hlt
        have hkj := HHK.out j hlt
        have hkp : Keep Z w wr := ((HKP.out.fr HFR.out HZB.out).fr hbr HZB.out)
        have hbg := hkp.2 g hA2 hA3
        have d0 := (World.cell?_of_block (a := ⟨g, o + j * 4, none⟩) hbg).trans c0
        have d1 := (World.cell?_of_block (a := ⟨g, o + j * 4 + 1, none⟩) hbg).trans c1
        have d2 := (World.cell?_of_block (a := ⟨g, o + j * 4 + 2, none⟩) hbg).trans c2
        have d3 := (World.cell?_of_block (a := ⟨g, o + j * 4 + 3, none⟩) hbg).trans c3
        have hgw : g < wr.heap.size := Nat.lt_of_lt_of_le hA3 hkp.1
        have hjs := PP.size_mem (List.mem_of_getElem? hkj)
        have hks : PP.sizeL (KS j) ≤ 1000000 := by simp only [PP.Tree.size] at hjs; omega
        have hdd : d - 1 + 1 = d := by omega
        have hcall := HIH.out j hlt (wr.alloc (.cells #[.int .u8 (K j : Int), .int .i64 (N j), .string ⟨(S j).toArray⟩, .slice (AA j) (KS j).length (C j)] 36)) (hkp.alloc _) lb HZB.out _ (hblk.alloc _) (d - 1) (K j) (N j) (S j) (C j) hks (by omega) (by omega) (by omega)
        have hs1 : PP.sizeL (kids.take (j + 1)) = PP.sizeL (kids.take j) + (Tree.node (K j) (N j) (S j) (KS j)).size := by rw [take_at hkj, PP.sizeL_snoc]
        have hd1 : PP.depthL (kids.take (j + 1)) = max (PP.depthL (kids.take j)) (Tree.node (K j) (N j) (S j) (KS j)).depth := by rw [take_at hkj, PP.depthL_snoc]
        have hkd := HKD.out j _ hkj
        have hz1 := PP.sizeL_take kids (j + 1)
        have hdi : (((d - 1 : Nat) : Int)) = (d : Int) - 1 := by omega
        rw [hdi] at hcall
        generalize Tree.node (K j) (N j) (S j) (KS j) = U at *
        have HS1 := Lib.hid hs1
        have HD1 := Lib.hid hd1
        have HC := Lib.hid hcall
        have HDJ := Lib.hid hdj
        have HSJ := Lib.hid hsj
        have HKDJ := Lib.hid hkd
        have HZ1 := Lib.hid hz1
        subst hA1
        have p1 : (0 : Int) ≤ (j : Int) := by omega
        have p2 : (j : Int) < (kids.length : Int) := by omega
        clear hcall hs1 hd1 hkp hbg c0 c1 c2 c3 hkj hks hjs hA2 hA3 hdj hsj hkd hz1
        by_cases hu : U.depth ≤ d - 1 ∧ (U.size : Int) ≤ L - 1 - (PP.sizeL (kids.take j) : Int)
        · have hb : (decide (U.depth ≤ d - 1) && decide ((U.size : Int) ≤ L - 1 - (PP.sizeL (kids.take j) : Int))) = true := by simp [hu.1, hu.2]
          have HU := Lib.hid hu
          clear hu
          go_wp2_with fail
          refine HC.out.mono ?_
          rintro e w2 ⟨L', rfl, hf2, hb2, hL'⟩
          rw [hb]
          have HF2 := Lib.hid (hbr.trans (((Fr.refl lb wr).alloc _).trans hf2))
          have HB2 := Lib.hid hb2
          have HL' := Lib.hid (hL' HU.out.1 HU.out.2)
          clear hf2 hb2 hL' d0 d1 d2 d3 hb
          go_wp2_with fail
          go_roundw
          case rel =>
            refine ⟨j + 1, by omega, by go_num, HF2.out, ?_, ?_, ?_⟩
            · have := HB2.out; rw [HL'.out] at this; rw [HS1.out, show L - 1 - ((PP.sizeL (kids.take j) + U.size : Nat) : Int) = L - 1 - (PP.sizeL (kids.take j) : Int) - (U.size : Int) from by omega]; exact this
            · rw [HD1.out]; have := HU.out.1; have := HDJ.out; omega
            · rw [HS1.out]; have := HU.out.2; omega
          case measure => simp [intOf]; omega
        · have hb : (decide (U.depth ≤ d - 1) && decide ((U.size : Int) ≤ L - 1 - (PP.sizeL (kids.take j) : Int))) = false := by
            rw [Bool.eq_false_iff]; intro h; simp at h; exact hu h
          have HU := Lib.hid hu
          clear hu
          go_wp2_with fail
          refine HC.out.mono ?_
          rintro e w2 ⟨L', rfl, hf2, hb2, hL'⟩
          rw [hb]
          have HF2 := Lib.hid (hbr.trans (((Fr.refl lb wr).alloc _).trans hf2))
          have HB2 := Lib.hid hb2
          clear hf2 hb2 hL' d0 d1 d2 d3 hb
          go_wp2_with fail
          go_ret
          have hno : ¬ (T.depth ≤ d ∧ (T.size : Int) ≤ L) := by
            intro ⟨h1, h2⟩
            apply HU.out
            rw [HD.out] at h1; rw [HZ.out] at h2
            have := HKDJ.out; have h3 := HZ1.out; rw [HS1.out] at h3
            exact ⟨by omega, by omega⟩
          refine ⟨L', ?_, HFR.out.trans HF2.out, HB2.out, fun h1 h2 => absurd ⟨h1, h2⟩ hno⟩
          rw [show (decide (T.depth ≤ d) && decide ((T.size : Int) ≤ L)) = false from by rw [Bool.eq_false_iff]; intro h; simp at h; exact hno h]; rfl
      · have hj' : j = kids.length := by omega
        subst hj'
        rw [List.take_length] at *
        have HBK := Lib.hid hblk
        have HBR := Lib.hid hbr
        clear hblk hbr
        go_wp2_with fail
        go_ret
        have y1 : T.depth ≤ d := by rw [HD.out]; omega
        have y2 : (T.size : Int) ≤ L := by rw [HZ.out]; omega
        refine ⟨_, ?_, HFR.out.trans HBR.out, HBK.out, fun _ _ => by rw [HZ.out]; omega⟩
        simp [y1, y2]
end
end Go.Proofs.YtfakdbnfpdalhaaGreatDoor
