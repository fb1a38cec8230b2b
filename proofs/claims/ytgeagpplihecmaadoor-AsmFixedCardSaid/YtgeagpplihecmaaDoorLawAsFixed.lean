/- The walk of AsmFixed. -/
import Derived.Test.YtgeagpplihecmaaDoorAsL
import Derived.Test.YtgeagpplihecmaaDoorPlainAsm4
namespace Go.Proofs.YtgeagpplihecmaaDoor
open Go.RowKit
open AS (Ins)
theorem fmt_ok {l : List Ins} (h : l.all AS.valid = true) (hl : l.length ≤ 4096) : AS.fmt l = (AS.fmtL l, 0) := by
  unfold AS.fmt
  rw [if_neg (by omega), if_pos h]
theorem valid_ops {l : List Ins} (h : l.all AS.valid = true) : ∀ i ∈ l, i.op ≤ 255 := fun i hi => by
  have := AS.valid_lt (List.all_eq_true.1 h i hi)
  omega
section
set_option maxHeartbeats 2000000
set_option maxRecDepth 100000
theorem asmfixed_walk (s : ByteArray) (w : World) (hF : FmtIs w) (hP : PowIs w) (hM : MaxIs w) :
    Calls Tryd.prog 7 #[.string s] w fun e w' => e = .returned (.bool true) ∧ Below w.heap.size w w' := by
  have hnot : ∀ (x : Bool) (w : World), (Op.unary .not (.bool x)).run Tryd.prog w = .ok (.bool (!x)) w := fun _ _ => rfl
  have HF := Lib.hid hF
  have HP := Lib.hid hP
  have HM := Lib.hid hM
  have HA := Lib.hid (awake_any w hF hM hP)
  have hsl : s.data.toList.length = s.size := Array.length_toList
  clear hF hP hM
  by_cases hl : 600 < s.size
  · have e1 : decide ((600 : Int) < (s.size : Int)) = true := by simp; omega
    go_enter Tryd.func7, Tryd.ntmps7
    go_wp2_with fail
    refine HA.out.mono ?_
    rintro e w1 ⟨rfl, hb1⟩
    go_wp2_with fail
    go_ret
    exact ⟨rfl, hb1⟩
  have e1 : decide ((600 : Int) < (s.size : Int)) = false := by simp; omega
  have hcs := AS.parse_cases (s := s.data.toList) (by omega)
  have hbk := fun h => AS.parse_back (s := s.data.toList) (by omega) h
  have HCS := Lib.hid hcs
  have HBK := Lib.hid hbk
  clear hcs hbk
  go_enter Tryd.func7, Tryd.ntmps7
  go_wp2_with fail
  refine HA.out.mono ?_
  rintro e w1 ⟨rfl, hb1⟩
  have HB1 := Lib.hid hb1
  have HPA := Lib.hid (parse_any s w1 (by omega) (HF.out.below hb1) (HM.out.below hb1))
  clear hb1 HA
  go_wp2_with fail
  refine HPA.out.mono ?_
  rintro e w2 ⟨A, n, c, rfl, hn, hr2, hb2⟩
  have HB2 := Lib.hid (HB1.out.trans (hb2.mono HB1.out.size))
  have HR2 := Lib.hid hr2
  have HN := Lib.hid hn.symm
  clear hr2 hb2 HPA hn
  generalize AS.parse s.data.toList = R at *
  obtain ⟨l, at_, er⟩ := R
  by_cases he : er = 0
  · subst he
    obtain ⟨hv, hl6, hfl, hpb⟩ := HBK.out rfl
    simp only [] at hv hl6 hfl hpb
    have hN : l.length = n := HN.out
    have e2 : (((0 : Nat) : Int) != 0) = false := rfl
    have hff := format_any l A n c w2 hN (by omega) HR2.out (valid_ops hv) (HF.out.below HB2.out) (HP.out.below HB2.out)
    rw [fmt_ok hv (by omega)] at hff
    have HFF := Lib.hid hff
    have HV := Lib.hid hv
    have HPB := Lib.hid hpb
    clear hff hpb HCS HBK hv
    go_wp2_with fail
    refine HFF.out.mono ?_
    rintro e w3 ⟨rfl, hb3⟩
    have HB3 := Lib.hid (HB2.out.trans (hb3.mono HB2.out.size))
    have HR3 := Lib.hid (HR2.out.below hb3)
    have hpp := parse_any ⟨(AS.fmtL l).toArray⟩ w3 (by simp [ByteArray.size]; omega) (HF.out.below HB3.out) (HM.out.below HB3.out)
    rw [show (⟨(AS.fmtL l).toArray⟩ : ByteArray).data.toList = AS.fmtL l from by simp, HPB.out] at hpp
    have HPP := Lib.hid hpp
    clear hb3 HFF hpp
    go_wp2_with fail
    refine HPP.out.mono ?_
    rintro e w4 ⟨A4, n4, c4, rfl, hn4, hr4, hb4⟩
    have hn4' : n4 = n := hn4.trans hN
    subst hn4'
    have HB4 := Lib.hid (HB3.out.trans (hb4.mono HB3.out.size))
    have HR4 := Lib.hid (show Row w4 A4 (insCells l) from hr4)
    have HR3' := Lib.hid (HR3.out.below hb4)
    have hff := format_any l A4 n4 c4 w4 hN (by omega) hr4 (valid_ops HV.out) (HF.out.below HB4.out) (HP.out.below HB4.out)
    rw [fmt_ok HV.out (by omega)] at hff
    have HFF := Lib.hid hff
    clear hb4 hr4 hff HPP hn4 HR3
    go_wp2_with fail
    refine HFF.out.mono ?_
    rintro e w5 ⟨rfl, hb5⟩
    have HB5 := Lib.hid (HB4.out.trans (hb5.mono HB4.out.size))
    have HSA := Lib.hid (lsame_any l A A4 n4 c c4 w5 hN (by omega) (HR3'.out.below hb5) (HR4.out.below hb5))
    have HR5 := Lib.hid (HR3'.out.below hb5)
    clear hb5 HFF
    generalize (⟨(AS.fmtL l).toArray⟩ : ByteArray) = T at *
    go_wp2_with fail
    refine HSA.out.mono ?_
    rintro e w6 ⟨rfl, hb6⟩
    have HB6 := Lib.hid (HB5.out.trans (hb6.mono HB5.out.size))
    have hvv := lvalid_any l A n4 c w6 hN (by omega) (HR5.out.below hb6) (valid_ops HV.out) (HF.out.below HB6.out)
    rw [show vN l = 1 by unfold vN; rw [if_pos HV.out]] at hvv
    have HVV := Lib.hid hvv
    clear hb6 HSA hvv
    go_wp2_with fail
    refine HVV.out.mono ?_
    rintro e w7 ⟨rfl, hb7⟩
    have HB7 := Lib.hid (HB6.out.trans (hb7.mono HB6.out.size))
    clear hb7
    go_wp2_with fail
    go_ret
    exact ⟨rfl, HB7.out⟩
  · have e2 : ((er : Int) != 0) = true := by simpa using he
    obtain ⟨h1, h2, _, _⟩ := HCS.out.resolve_left (fun h => he (congrArg Prod.snd h.1))
    simp only [] at h1 h2
    have hn0 : n = 0 := by rw [← HN.out]; simp only []; rw [h1]; rfl
    subst hn0
    have e3 : decide ((1 : Int) ≤ (at_ : Int)) = true := by simp; omega
    clear HCS HBK
    go_wp2_with fail
    go_ret
    exact ⟨rfl, HB2.out⟩
end
end Go.Proofs.YtgeagpplihecmaaDoor
