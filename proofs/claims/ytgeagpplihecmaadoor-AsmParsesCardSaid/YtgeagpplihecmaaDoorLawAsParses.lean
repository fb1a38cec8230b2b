/- The walk of AsmParses. -/
import Derived.Test.YtgeagpplihecmaaDoorAsM
import Derived.Test.YtgeagpplihecmaaDoorAsU
namespace Go.Proofs.YtgeagpplihecmaaDoor
open Go.RowKit
open AS (Ins)
section
set_option maxHeartbeats 2000000
set_option maxRecDepth 100000
theorem asmparses_walk (s : ByteArray) (w : World) (hF : FmtIs w) (hP : PowIs w) (hM : MaxIs w) (_hs : s.size ≤ maxLen) :
    Calls Tryd.prog 4 #[.string s] w fun e w' => e = .returned (.bool true) ∧ Below w.heap.size w w' := by
  have hnot : ∀ (x : Bool) (w : World), (Op.unary .not (.bool x)).run Tryd.prog w = .ok (.bool (!x)) w := fun _ _ => rfl
  have HF := Lib.hid hF
  have HM := Lib.hid hM
  have HA := Lib.hid (awake_any w hF hM hP)
  have hl : s.data.toList.length = s.size := Array.length_toList
  clear hF hP hM
  by_cases hbig : 600 < s.size
  · have e1 : decide ((600 : Int) < (s.size : Int)) = true := by simp; omega
    go_enter Tryd.func4, Tryd.ntmps4
    go_wp2_with fail
    refine HA.out.mono ?_
    rintro e w1 ⟨rfl, hb1⟩
    go_wp2_with fail
    go_ret
    exact ⟨rfl, hb1⟩
  have e1 : decide ((600 : Int) < (s.size : Int)) = false := by simp; omega
  go_enter Tryd.func4, Tryd.ntmps4
  go_wp2_with fail
  refine HA.out.mono ?_
  rintro e w1 ⟨rfl, hb1⟩
  have HB1 := Lib.hid hb1
  have HPA := Lib.hid (parse_any s w1 (by omega) (HF.out.below hb1) (HM.out.below hb1))
  clear hb1 HA
  go_wp2_with fail
  refine HPA.out.mono ?_
  rintro e w2 ⟨A2, n2, c2, rfl, hn2, hr2, hb2⟩
  have HB2 := Lib.hid (HB1.out.trans (hb2.mono HB1.out.size))
  have HR2 := Lib.hid hr2
  have HPB := Lib.hid (rparse_any s w2 (by omega))
  clear hb2 hr2 HPA
  go_wp2_with fail
  refine HPB.out.mono ?_
  rintro e w4 ⟨A4, n4, c4, rfl, hn4, hr4, hb4⟩
  have HB4 := Lib.hid (HB2.out.trans (hb4.mono HB2.out.size))
  have HR24 := Lib.hid (HR2.out.below hb4)
  have HR4 := Lib.hid hr4
  have hln : (AS.parse s.data.toList).1.length ≤ 100000 := by
    rcases AS.parse_cases (s := s.data.toList) (by omega) with ⟨_, _, h3⟩ | ⟨h1, _⟩
    · omega
    · rw [h1]; simp
  generalize AS.parse s.data.toList = R at *
  obtain ⟨l, at_, er⟩ := R
  simp only [] at hn2 hn4 hln
  subst hn2 hn4
  have f1 : ((er : Int) == (er : Int)) = true := by simp
  have f2 : ((at_ : Int) == (at_ : Int)) = true := by simp
  have HS1 := Lib.hid (lsame_any l A2 A4 l.length c2 c4 w4 rfl (by omega) HR24.out HR4.out)
  clear hb4 hr4 HPB
  go_wp2_with fail
  refine HS1.out.mono ?_
  rintro e w7 ⟨rfl, hb7⟩
  have HB7 := Lib.hid (HB4.out.trans (hb7.mono HB4.out.size))
  clear hb7
  go_wp2_with fail
  go_ret
  exact ⟨rfl, HB7.out⟩
end
end Go.Proofs.YtgeagpplihecmaaDoor
