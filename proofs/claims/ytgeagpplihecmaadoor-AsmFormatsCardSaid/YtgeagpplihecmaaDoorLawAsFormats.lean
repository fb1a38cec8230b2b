/- The walk of AsmFormats. -/
import Derived.Test.YtgeagpplihecmaaDoorAsP
namespace Go.Proofs.YtgeagpplihecmaaDoor
open Go.RowKit
open AS (Ins)
theorem fmt_if {l : List Ins} (hl : l.length ≤ 4096) : AS.fmt l = if l.all AS.valid then (AS.fmtL l, 0) else ([], 3) := by
  unfold AS.fmt
  rw [if_neg (by omega)]
section
set_option maxHeartbeats 2000000
set_option maxRecDepth 100000
theorem asmformats_walk (A : Option Addr) (n c : Nat) (l : List Ins) (w : World) (hF : FmtIs w) (hP : PowIs w) (hM : MaxIs w) (hN : l.length = n) (_hlm : n ≤ maxLen) (ho : ∀ i ∈ l, i.op ≤ 255) (hr : Row w A (insCells l)) :
    Calls Tryd.prog 3 #[.slice A n c] w fun e w' => e = .returned (.bool true) ∧ Below w.heap.size w w' := by
  have hnot : ∀ (x : Bool) (w : World), (Op.unary .not (.bool x)).run Tryd.prog w = .ok (.bool (!x)) w := fun _ _ => rfl
  have HN := Lib.hid hN
  have HF := Lib.hid hF
  have HP := Lib.hid hP
  have HA := Lib.hid (awake_any w hF hM hP)
  have HR := Lib.hid hr
  have HO := Lib.hid ho
  clear hF hP hM hN hr ho
  by_cases hbig : 40 < n
  · have e1 : decide ((40 : Int) < (n : Int)) = true := by simp; omega
    go_enter Tryd.func3, Tryd.ntmps3
    go_wp2_with fail
    refine HA.out.mono ?_
    rintro e w1 ⟨rfl, hb1⟩
    go_wp2_with fail
    go_ret
    exact ⟨rfl, hb1⟩
  have e1 : decide ((40 : Int) < (n : Int)) = false := by simp; omega
  go_enter Tryd.func3, Tryd.ntmps3
  go_wp2_with fail
  refine HA.out.mono ?_
  rintro e w1 ⟨rfl, hb1⟩
  have HB1 := Lib.hid hb1
  have hff := format_any l A n c w1 HN.out (by omega) (HR.out.below hb1) HO.out (HF.out.below hb1) (HP.out.below hb1)
  rw [fmt_if (by rw [HN.out]; omega)] at hff
  clear hb1 HA
  cases hv : l.all AS.valid with
  | false =>
    rw [hv] at hff
    have HFF := Lib.hid hff
    have HV := Lib.hid (show vN l = 0 by unfold vN; rw [hv]; rfl)
    clear hff hv
    go_wp2_with fail
    refine HFF.out.mono ?_
    rintro e w2 ⟨rfl, hb2⟩
    have HB2 := Lib.hid (HB1.out.trans (hb2.mono HB1.out.size))
    have hLV := lvalid_any l A n c w2 HN.out (by omega) (HR.out.below HB2.out) HO.out (HF.out.below HB2.out)
    rw [HV.out] at hLV
    have HLV := Lib.hid hLV
    clear hb2 hLV
    go_wp2_with fail
    refine HLV.out.mono ?_
    rintro e w3 ⟨rfl, hb3⟩
    have HB3 := Lib.hid (HB2.out.trans (hb3.mono HB2.out.size))
    clear hb3
    go_wp2_with fail
    go_ret
    exact ⟨rfl, HB3.out⟩
  | true =>
    rw [hv] at hff
    simp only [if_true] at hff
    obtain ⟨T, hT⟩ : ∃ T : ByteArray, T = ⟨(AS.fmtL l).toArray⟩ := ⟨_, rfl⟩
    have hRF := fun W h => rformat_any l A n c W HN.out (by omega) h hv
    rw [← hT] at hff hRF
    have HFF := Lib.hid hff
    have HRF := Lib.hid hRF
    have HV := Lib.hid (show vN l = 1 by unfold vN; rw [hv]; rfl)
    clear hff hv hT hRF
    go_wp2_with fail
    refine HFF.out.mono ?_
    rintro e w2 ⟨rfl, hb2⟩
    have HB2 := Lib.hid (HB1.out.trans (hb2.mono HB1.out.size))
    have hLV := lvalid_any l A n c w2 HN.out (by omega) (HR.out.below HB2.out) HO.out (HF.out.below HB2.out)
    rw [HV.out] at hLV
    have HLV := Lib.hid hLV
    clear hb2 hLV
    go_wp2_with fail
    refine HLV.out.mono ?_
    rintro e w3 ⟨rfl, hb3⟩
    have HB3 := Lib.hid (HB2.out.trans (hb3.mono HB2.out.size))
    have HRF3 := Lib.hid (HRF.out w3 (HR.out.below HB3.out))
    clear hb3
    go_wp2_with fail
    refine HRF3.out.mono ?_
    rintro e w4 ⟨rfl, hb4⟩
    have HB4 := Lib.hid (HB3.out.trans (hb4.mono HB3.out.size))
    clear hb4
    go_wp2_with fail
    go_ret
    exact ⟨by simp, HB4.out⟩
end
end Go.Proofs.YtgeagpplihecmaaDoor
