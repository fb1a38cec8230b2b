/- The auditor's example, walked; limits. -/
import Derived.Test.YtpmbhdheeaejgaaGreatDoorAuM
import Derived.Test.YtpmbhdheeaejgaaGreatDoorPlainAu4
import Derived.Deep.RegionLaw
namespace Go.Proofs.YtpmbhdheeaejgaaGreatDoor
open Go.RowKit Go.Maps Go.Sort Go.Lib
open SL (Tk Cd)
open AU (Pr Rq Ev Mo)
section
set_option maxHeartbeats 4000000
set_option maxRecDepth 100000
theorem row_block {w : World} {b : Nat} {cs : Array Value} {t : TypeId} (h : Blk w b t cs) : Row w (some ⟨b, 0, none⟩) cs.toList := fun _ => by
  refine ⟨b, 0, rfl, h.lt, fun i v hi => ?_⟩
  rw [Nat.zero_add, h.cell]
  simpa using hi
theorem aawake_any (w : World) : Calls Tryz.prog 5 #[] w fun e w' => e = .returned (.bool true) ∧ Below w.heap.size w w' := by
  have hbT : Blk ((w.alloc (.cells #[.string ⟨#[]⟩, .int .i64 1, .int .i64 2] 34)).alloc (.cells #[.int .i64 0, .int .i64 (-1), .int .i64 0, .int .i64 0, .int .u8 1, .int .i64 0, .int .i64 0, .int .i64 0, .int .i64 0, .int .i64 0, .int .i64 0, .int .i64 0, .int .u8 2, .int .i64 1, .int .i64 0, .int .i64 0, .int .i64 0, .int .i64 0, .int .i64 0, .int .i64 0, .int .u8 3, .int .i64 0, .int .i64 0, .int .i64 0] 26)) w.heap.size 34 #[.string ⟨#[]⟩, .int .i64 1, .int .i64 2] := (Blk.new w _ _).alloc _
  have hbE : Blk ((w.alloc (.cells #[.string ⟨#[]⟩, .int .i64 1, .int .i64 2] 34)).alloc (.cells #[.int .i64 0, .int .i64 (-1), .int .i64 0, .int .i64 0, .int .u8 1, .int .i64 0, .int .i64 0, .int .i64 0, .int .i64 0, .int .i64 0, .int .i64 0, .int .i64 0, .int .u8 2, .int .i64 1, .int .i64 0, .int .i64 0, .int .i64 0, .int .i64 0, .int .i64 0, .int .i64 0, .int .u8 3, .int .i64 0, .int .i64 0, .int .i64 0] 26)) (w.heap.size + 1) 26 #[.int .i64 0, .int .i64 (-1), .int .i64 0, .int .i64 0, .int .u8 1, .int .i64 0, .int .i64 0, .int .i64 0, .int .i64 0, .int .i64 0, .int .i64 0, .int .i64 0, .int .u8 2, .int .i64 1, .int .i64 0, .int .i64 0, .int .i64 0, .int .i64 0, .int .i64 0, .int .i64 0, .int .u8 3, .int .i64 0, .int .i64 0, .int .i64 0] := blk_second w _ _ _ _
  have HG := Lib.hid (((Gr.refl w).alloc (.cells #[.string ⟨#[]⟩, .int .i64 1, .int .i64 2] 34)).alloc (.cells #[.int .i64 0, .int .i64 (-1), .int .i64 0, .int .i64 0, .int .u8 1, .int .i64 0, .int .i64 0, .int .i64 0, .int .i64 0, .int .i64 0, .int .i64 0, .int .i64 0, .int .u8 2, .int .i64 1, .int .i64 0, .int .i64 0, .int .i64 0, .int .i64 0, .int .i64 0, .int .i64 0, .int .u8 3, .int .i64 0, .int .i64 0, .int .i64 0] 26))
  have HBT := Lib.hid hbT
  have HBE := Lib.hid hbE
  clear hbT hbE
  go_enter Tryz.func5, Tryz.ntmps5
  go_wp2_with fail
  generalize (w.alloc (.cells #[.string ⟨#[]⟩, .int .i64 1, .int .i64 2] 34)).alloc (.cells #[.int .i64 0, .int .i64 (-1), .int .i64 0, .int .i64 0, .int .u8 1, .int .i64 0, .int .i64 0, .int .i64 0, .int .i64 0, .int .i64 0, .int .i64 0, .int .i64 0, .int .u8 2, .int .i64 1, .int .i64 0, .int .i64 0, .int .i64 0, .int .i64 0, .int .i64 0, .int .i64 0, .int .u8 3, .int .i64 0, .int .i64 0, .int .i64 0] 26) = w1 at *
  have hcE := fun k => HBE.out.cell k
  have x0 := hcE 0
  have x1 := hcE 1
  have x2 := hcE 2
  have x3 := hcE 3
  have x4 := hcE 4
  have x5 := hcE 5
  have x6 := hcE 6
  have x7 := hcE 7
  have y0 := hcE 16
  have y1 := hcE 17
  have y2 := hcE 18
  have y3 := hcE 19
  have y4 := hcE 20
  have y5 := hcE 21
  have y6 := hcE 22
  have y7 := hcE 23
  simp only [List.getElem?_toArray, List.getElem?_cons_zero, List.getElem?_cons_succ] at x0 x1 x2 x3 x4 x5 x6 x7 y0 y1 y2 y3 y4 y5 y6 y7
  clear hcE
  have HC := Lib.hid (acheck_any [AU.tk1] (some ⟨w.heap.size, 0, none⟩) 1 1 [AU.ea, AU.ec] (some ⟨w1.heap.size, 0, none⟩) 2 (w1.alloc (.cells #[.int .i64 0, .int .i64 (-1), .int .i64 0, .int .i64 0, .int .u8 1, .int .i64 0, .int .i64 0, .int .i64 0, .int .i64 0, .int .i64 0, .int .i64 0, .int .i64 0, .int .u8 3, .int .i64 0, .int .i64 0, .int .i64 0] 26)).drew (row_block ((HBT.out.alloc (.cells #[.int .i64 0, .int .i64 (-1), .int .i64 0, .int .i64 0, .int .u8 1, .int .i64 0, .int .i64 0, .int .i64 0, .int .i64 0, .int .i64 0, .int .i64 0, .int .i64 0, .int .u8 3, .int .i64 0, .int .i64 0, .int .i64 0] 26)).drewN 1)) (row_block ((Blk.new w1 26 #[.int .i64 0, .int .i64 (-1), .int .i64 0, .int .i64 0, .int .u8 1, .int .i64 0, .int .i64 0, .int .i64 0, .int .i64 0, .int .i64 0, .int .i64 0, .int .i64 0, .int .u8 3, .int .i64 0, .int .i64 0, .int .i64 0]).drewN 1)) (by simp))
  rw [AU.check_bad, show [AU.tk1].length = 1 from rfl, show [AU.ea, AU.ec].length = 2 from rfl] at HC
  go_region_law (go_simp; go_at_call 11; (refine HC.out.mono ?_); rintro e w5 ⟨v, rfl, hf, hb5⟩)
  all_goals
    obtain ⟨g, rfl, hbg⟩ := hf
    have hg5 := HG.out.1.trans ((((Below.refl w1.heap.size w1).alloc (Nat.le_refl _) (.cells #[.int .i64 0, .int .i64 (-1), .int .i64 0, .int .i64 0, .int .u8 1, .int .i64 0, .int .i64 0, .int .i64 0, .int .i64 0, .int .i64 0, .int .i64 0, .int .i64 0, .int .u8 3, .int .i64 0, .int .i64 0, .int .i64 0] 26)).drew.trans (hb5.mono (by simp))).mono HG.out.size)
    have HG5 := Lib.hid hg5
    have hT5 := Blk.below ((HBT.out.alloc (.cells #[.int .i64 0, .int .i64 (-1), .int .i64 0, .int .i64 0, .int .u8 1, .int .i64 0, .int .i64 0, .int .i64 0, .int .i64 0, .int .i64 0, .int .i64 0, .int .i64 0, .int .u8 3, .int .i64 0, .int .i64 0, .int .i64 0] 26)).drewN 1) hb5
    have hE5 := Blk.below ((HBE.out.alloc (.cells #[.int .i64 0, .int .i64 (-1), .int .i64 0, .int .i64 0, .int .u8 1, .int .i64 0, .int .i64 0, .int .i64 0, .int .i64 0, .int .i64 0, .int .i64 0, .int .i64 0, .int .u8 3, .int .i64 0, .int .i64 0, .int .i64 0] 26)).drewN 1) hb5
    have HC2 := Lib.hid (acheck_any [AU.tk1] (some ⟨w.heap.size, 0, none⟩) 1 1 [AU.ea, AU.eb, AU.ec] (some ⟨w.heap.size + 1, 0, none⟩) 3 w5 (row_block hT5) (row_block hE5) (by simp))
    rw [AU.check_good, show [AU.tk1].length = 1 from rfl, show [AU.ea, AU.eb, AU.ec].length = 3 from rfl] at HC2
    have HBG := Lib.hid hbg
    clear hg5 hT5 hE5 hbg hb5 x0 x1 x2 x3 x4 x5 x6 x7 y0 y1 y2 y3 y4 y5 y6 y7
    go_wp2_with fail
    refine HC2.out.mono ?_
    rintro e w6 ⟨v, rfl, hf6, hb6⟩
    obtain rfl : v = .slice none 0 0 := hf6
    have hb6g := HBG.out.below hb6
    have z0 := hb6g.cell 0
    have z1 := hb6g.cell 1
    simp only [List.getElem?_toArray, List.getElem?_cons_zero, List.getElem?_cons_succ] at z0 z1
    have HG6 := Lib.hid (HG5.out.trans (hb6.mono HG5.out.size))
    clear hb6g hb6
    go_wp2_with fail
    go_ret
    exact ⟨rfl, HG6.out⟩
end
end Go.Proofs.YtpmbhdheeaejgaaGreatDoor
