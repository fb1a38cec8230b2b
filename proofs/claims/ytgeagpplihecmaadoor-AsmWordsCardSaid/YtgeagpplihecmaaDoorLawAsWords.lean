/- The walk of AsmWords. -/
import Derived.Test.YtgeagpplihecmaaDoorAsL
import Derived.Test.YtgeagpplihecmaaDoorAsO
namespace Go.Proofs.YtgeagpplihecmaaDoor
open Go.RowKit
open AS (Ins)
theorem disL_enc : ∀ (l : List Ins) (k : Nat) (acc : List Ins), l.all AS.valid = true → disL (l.map AS.enc) k acc = (acc ++ l, 0, 0)
  | [], k, acc, _ => by simp [disL]
  | i :: l, k, acc, h => by
    rw [List.all_cons, Bool.and_eq_true] at h
    rw [List.map_cons, disL, AS.dec_enc h.1]
    show disL (l.map AS.enc) (k + 1) (acc ++ [i]) = _
    rw [disL_enc l (k + 1) (acc ++ [i]) h.2]
    simp
theorem disR_enc (l : List Ins) (hl : l.length ≤ 4096) (h : l.all AS.valid = true) : disR (l.map AS.enc) = (l, 0, 0) := by
  unfold disR
  rw [if_neg (by simp; omega), disL_enc l 0 [] h]
  simp
section
set_option maxHeartbeats 2000000
set_option maxRecDepth 100000
theorem asmwords_walk (A : Option Addr) (n c : Nat) (l : List Ins) (w : World) (hF : FmtIs w) (hP : PowIs w) (hM : MaxIs w) (hN : l.length = n) (hlm : n ≤ maxLen) (ho : ∀ i ∈ l, i.op ≤ 255) (hr : Row w A (insCells l)) :
    Calls Tryd.prog 9 #[.slice A n c] w fun e w' => e = .returned (.bool true) ∧ Below w.heap.size w w' := by
  have hnot : ∀ (x : Bool) (w : World), (Op.unary .not (.bool x)).run Tryd.prog w = .ok (.bool (!x)) w := fun _ _ => rfl
  have HN := Lib.hid hN
  have HF := Lib.hid hF
  have HA := Lib.hid (awake_any w hF hM hP)
  have HR := Lib.hid hr
  have HO := Lib.hid ho
  clear hF hP hM hN hr ho
  by_cases hbig : 40 < n
  · have e1 : decide ((40 : Int) < (n : Int)) = true := by simp; omega
    go_enter Tryd.func9, Tryd.ntmps9
    go_wp2_with fail
    refine HA.out.mono ?_
    rintro e w1 ⟨rfl, hb1⟩
    go_wp2_with fail
    go_ret
    exact ⟨rfl, hb1⟩
  have e1 : decide ((40 : Int) < (n : Int)) = false := by simp; omega
  go_enter Tryd.func9, Tryd.ntmps9
  go_wp2_with fail
  refine HA.out.mono ?_
  rintro e w1 ⟨rfl, hb1⟩
  have HB1 := Lib.hid hb1
  have hAS := assemble_any l A n c w1 HN.out (by omega) (HR.out.below hb1) HO.out (HF.out.below hb1)
  have hR0 : asmR l = if l.all AS.valid then (l.map AS.enc, 0) else ([], 3) := by unfold asmR; rw [if_neg (by rw [HN.out]; omega)]
  rw [hR0] at hAS
  clear hb1 HA hR0
  cases hv : l.all AS.valid with
  | false =>
    rw [hv] at hAS
    have HAS := Lib.hid hAS
    have HV := Lib.hid (show vN l = 0 by unfold vN; rw [hv]; rfl)
    clear hAS hv
    go_wp2_with fail
    refine HAS.out.mono ?_
    rintro e w2 ⟨A2, n2, c2, rfl, hn2, hr2, hb2⟩
    have hn2' : n2 = 0 := hn2
    clear hn2
    subst hn2'
    have HB2 := Lib.hid (HB1.out.trans (hb2.mono HB1.out.size))
    have hLV := lvalid_any l A n c w2 HN.out (by omega) (HR.out.below HB2.out) HO.out (HF.out.below HB2.out)
    rw [HV.out] at hLV
    have HLV := Lib.hid hLV
    clear hr2 hb2 HAS hLV
    go_wp2_with fail
    refine HLV.out.mono ?_
    rintro e w3 ⟨rfl, hb3⟩
    have HB3 := Lib.hid (HB2.out.trans (hb3.mono HB2.out.size))
    clear hb3
    go_wp2_with fail
    go_ret
    exact ⟨rfl, HB3.out⟩
  | true =>
    rw [hv] at hAS
    have HAS := Lib.hid hAS
    have HV := Lib.hid (show vN l = 1 by unfold vN; rw [hv]; rfl)
    have HALL := Lib.hid hv
    clear hAS hv
    go_wp2_with fail
    refine HAS.out.mono ?_
    rintro e w2 ⟨A2, n2, c2, rfl, hn2, hr2, hb2⟩
    have hn2' : n2 = n := by rw [← HN.out, hn2]; simp
    clear hn2
    subst hn2'
    have HB2 := Lib.hid (HB1.out.trans (hb2.mono HB1.out.size))
    have HR2 := Lib.hid (show Row w2 A2 (u32Cells (l.map AS.enc)) from hr2)
    have hLV := lvalid_any l A n2 c w2 HN.out (by omega) (HR.out.below HB2.out) HO.out (HF.out.below HB2.out)
    rw [HV.out] at hLV
    have HLV := Lib.hid hLV
    have e4 : ((n2 : Int) != (n2 : Int)) = false := by simp
    clear hr2 hb2 HAS hLV
    go_wp2_with fail
    refine HLV.out.mono ?_
    rintro e w3 ⟨rfl, hb3⟩
    have HB3 := Lib.hid (HB2.out.trans (hb3.mono HB2.out.size))
    have HR3 := Lib.hid (HR2.out.below hb3)
    clear hb3
    go_wp2_with fail
    go_loopw [5] (fun i wr => ∃ k : Nat, k ≤ n2 ∧ i = .int .i64 (k : Int) ∧ Below w3.heap.size w3 wr) (fun i _ => n2 - (intOf i).toNat)
    case atStart => exact ⟨0, Nat.zero_le _, rfl, Below.refl _ _⟩
    case round =>
      obtain ⟨k, hk, rfl, hbw⟩ := hrel
      have HB := Lib.hid hbw
      have HBW := Lib.hid (HB3.out.trans (hbw.mono HB3.out.size))
      by_cases hlt : k < n2
      · obtain ⟨i, hi⟩ : ∃ i, l[k]? = some i := ⟨_, List.getElem?_eq_getElem (by rw [HN.out]; exact hlt)⟩
        obtain ⟨rb, ro, hA, hrb, c0, c1, c2', c3, c4⟩ := (HR.out.below HBW.out).ins hi
        subst hA
        have HEN := Lib.hid (encode_any i (HO.out i (List.mem_of_getElem? hi)) wr (HF.out.below HBW.out))
        have hvi : AS.valid i = true := List.all_eq_true.1 HALL.out i (List.mem_of_getElem? hi)
        rw [show encR i = (AS.enc i, 0) by unfold encR; rw [hvi]; rfl] at HEN
        have HI := Lib.hid (show (l.map AS.enc)[k]? = some (AS.enc i) by rw [List.getElem?_map, hi]; rfl)
        have q0 : (k : Int) < (n2 : Int) := by omega
        clear hrb hbw hi hvi
        go_wp2_with fail
        refine HEN.out.mono ?_
        rintro e w4 ⟨rfl, hb4⟩
        have HB4 := Lib.hid (HB.out.trans (hb4.mono HB.out.size))
        obtain ⟨rb2, ro2, hA2, hrb2, d0⟩ := (HR3.out.below HB4.out).u32 HI.out
        subst hA2
        have q2 : ((AS.enc i : Int) != (AS.enc i : Int)) = false := by simp
        clear hrb2 hb4
        go_wp2_with fail
        exact ⟨⟨k + 1, by omega, by simp, HB4.out⟩, by simp [intOf]; omega⟩
      · have q1 : ¬ (k : Int) < (n2 : Int) := by omega
        have hDI := disassemble_any (l.map AS.enc) A2 n2 c2 wr (by simp; exact HN.out) (by omega) (HR3.out.below HB.out) (fun x hx => by
          obtain ⟨i, hi, rfl⟩ := List.mem_map.1 hx
          exact AS.enc_lt i (AS.valid_lt (List.all_eq_true.1 HALL.out i hi))) (HF.out.below HBW.out)
        rw [disR_enc l (by rw [HN.out]; omega) HALL.out] at hDI
        have HDI := Lib.hid hDI
        clear hDI
        go_wp2_with fail
        refine HDI.out.mono ?_
        rintro e w5 ⟨A5, n5, c5, rfl, hn5, hr5, hb5⟩
        have hn5' : n5 = n2 := hn5.trans HN.out
        clear hn5
        subst hn5'
        have HB5 := Lib.hid (HBW.out.trans (hb5.mono HBW.out.size))
        have HSA := Lib.hid (lsame_any l A5 A n5 c5 c w5 HN.out (by omega) hr5 (HR.out.below HB5.out))
        clear hr5 hb5
        go_wp2_with fail
        refine HSA.out.mono ?_
        rintro e w6 ⟨rfl, hb6⟩
        have HB6 := Lib.hid (HB5.out.trans (hb6.mono HB5.out.size))
        clear hb6
        go_wp2_with fail
        go_ret
        exact ⟨rfl, HB6.out⟩
end
end Go.Proofs.YtgeagpplihecmaaDoor
