/- The walk of AuditTexts. -/
import Derived.Test.YtpmbhdheeaejgaaGreatDoorAuN
import Derived.Test.YtpmbhdheeaejgaaGreatDoorTrE
import Derived.Test.YtpmbhdheeaejgaaGreatDoorTrF
import Derived.Test.YtpmbhdheeaejgaaGreatDoorTrG
namespace Go.Proofs.YtpmbhdheeaejgaaGreatDoor
open Go.RowKit Go.Maps Go.Sort Go.Lib
open AU (Ev)
/-- What the law's loop finds: the first event of an unknown kind ahead of k, from 1. -/
theorem firstBad_take {l : List Ev} {k : Nat} {e : Ev} (h : l[k]? = some e) : TR.firstBad (l.take (k + 1)) = if TR.firstBad (l.take k) = 0 then (if TR.known e.kind then 0 else k + 1) else TR.firstBad (l.take k) := by
  induction l generalizing k with
  | nil => simp at h
  | cons x l ih =>
    cases k with
    | zero =>
      simp only [List.getElem?_cons_zero, Option.some.injEq] at h
      subst h
      simp [TR.firstBad]
    | succ k =>
      have h' : l[k]? = some e := by simpa using h
      have := ih h'
      rw [List.take_succ_cons, List.take_succ_cons, TR.firstBad, TR.firstBad, this]
      by_cases hk : TR.known x.kind
      · rw [if_pos hk, if_pos hk]
        by_cases h0 : TR.firstBad (l.take k) = 0
        · rw [if_pos h0, if_pos h0]
          by_cases hke : TR.known e.kind
          · rw [if_pos hke, if_pos rfl, if_pos rfl, if_pos hke]
          · rw [if_neg hke, if_neg (by omega), if_pos rfl, if_neg hke]
        · rw [if_neg h0, if_neg h0, if_neg (by omega)]
      · rw [if_neg hk, if_neg hk, if_neg (by omega)]
theorem firstBad_le (l : List Ev) : TR.firstBad l ≤ l.length := by
  induction l with
  | nil => simp [TR.firstBad]
  | cons e l ih =>
    rw [TR.firstBad]
    split
    · split
      · omega
      · simp; omega
    · simp
section
set_option maxHeartbeats 2000000
set_option maxRecDepth 100000
theorem atexts_walk (l : List Ev) (A : Option Addr) (c : Nat) (w : World) (hT : TrIs w) (hr : Row w A (evC l)) :
    Calls Tryz.prog 3 #[.slice A l.length c] w fun e w' => e = .returned (.bool true) ∧ Below w.heap.size w w' := by
  have HR := Lib.hid hr
  have HT := Lib.hid hT
  clear hr hT
  go_enter Tryz.func3, Tryz.ntmps3
  go_wp2_with fail
  refine (aawake_any _).mono ?_
  rintro e w1 ⟨rfl, hb1⟩
  have HB1 := Lib.hid hb1
  clear hb1
  by_cases h2 : (200 : Int) < (l.length : Int)
  · have d1 : decide ((200 : Int) < (l.length : Int)) = true := decide_eq_true h2
    go_wp2_with fail
    go_ret
    exact ⟨rfl, HB1.out⟩
  have d1 : decide ((200 : Int) < (l.length : Int)) = false := decide_eq_false h2
  have hl200 : l.length ≤ 200 := by omega
  have HHG := Lib.hid (huge_any l A c w1 (by omega) (HR.out.below HB1.out))
  clear h2
  go_wp2_with fail
  refine HHG.out.mono ?_
  rintro e w2 ⟨b, rfl, hb, hb2⟩
  have HB2 := Lib.hid (HB1.out.trans (hb2.mono HB1.out.size))
  clear hb2 HHG d1
  cases b with
  | true =>
    go_wp2_with fail
    go_ret
    exact ⟨rfl, HB2.out⟩
  | false =>
    have HOK := Lib.hid (show ∀ e ∈ l, TR.okI e from fun e he => (hb rfl e he).okI)
    clear hb
    go_wp2_with fail
    go_loopw [3, 20] (fun fv kv wr => ∃ k : Nat, k ≤ l.length ∧ kv = .int .i64 (k : Int) ∧ fv = .int .i64 (TR.firstBad (l.take k) : Int) ∧ Below w.heap.size w wr) (fun _ kv _ => l.length - (intOf kv).toNat)
    case atStart => exact ⟨0, Nat.zero_le _, rfl, by simp [TR.firstBad], HB2.out⟩
    case round =>
      obtain ⟨k, hk, rfl, rfl, hbw⟩ := hrel
      have HB := Lib.hid hbw
      clear hbw
      by_cases hlt : k < l.length
      · have q0 : (k : Int) < (l.length : Int) := by omega
        obtain ⟨e, he⟩ : ∃ e, l[k]? = some e := ⟨_, List.getElem?_eq_getElem hlt⟩
        obtain ⟨rb, ro, rfl, _, x0, x1, x2, x3, x4, x5, x6, x7⟩ := ev_at (HR.out.below HB.out) he
        have HFB := Lib.hid (firstBad_take he)
        have HB3 := Lib.hid (HB.out.alloc HB.out.size (.cells #[.int .i64 e.slot, .int .i64 e.core, .int .i64 e.task, .int .i64 e.job, .int .u8 (e.kind : Int), .int .i64 e.value, .int .i64 e.cycle, .int .i64 e.port] 26))
        clear he
        by_cases h0 : TR.firstBad (l.take k) = 0
        · have d0 : ((TR.firstBad (l.take k) : Int) == 0) = true := by simp [h0]
          by_cases hk1 : e.kind < 1
          · have d1 : decide ((e.kind : Int) < 1) = true := decide_eq_true (by omega)
            have HE := Lib.hid (show TR.firstBad (l.take (k + 1)) = k + 1 by rw [HFB.out, if_pos h0, if_neg (by unfold TR.known; omega)])
            clear HFB h0 hk1
            go_wp2_with fail
            exact ⟨⟨k + 1, hlt, by simp, by rw [HE.out]; simp, HB3.out⟩, by simp [intOf]; omega⟩
          · have d1 : decide ((e.kind : Int) < 1) = false := decide_eq_false (by omega)
            by_cases hk7 : 7 < e.kind
            · have d2 : decide ((7 : Int) < (e.kind : Int)) = true := decide_eq_true (by omega)
              have d2' : decide (7 < e.kind) = true := decide_eq_true hk7
              have HE := Lib.hid (show TR.firstBad (l.take (k + 1)) = k + 1 by rw [HFB.out, if_pos h0, if_neg (by unfold TR.known; omega)])
              clear HFB h0 hk1 hk7
              go_wp2_with fail
              exact ⟨⟨k + 1, hlt, by simp, by rw [HE.out]; simp, HB3.out⟩, by simp [intOf]; omega⟩
            · have d2 : decide ((7 : Int) < (e.kind : Int)) = false := decide_eq_false (by omega)
              have d2' : decide (7 < e.kind) = false := decide_eq_false hk7
              have HE := Lib.hid (show TR.firstBad (l.take (k + 1)) = TR.firstBad (l.take k) by rw [HFB.out, if_pos h0, if_pos (by unfold TR.known; omega), h0])
              clear HFB h0 hk1 hk7
              go_wp2_with fail
              exact ⟨⟨k + 1, hlt, by simp, by rw [HE.out], HB3.out⟩, by simp [intOf]; omega⟩
        · have d0 : ((TR.firstBad (l.take k) : Int) == 0) = false := by simp; omega
          have HE := Lib.hid (show TR.firstBad (l.take (k + 1)) = TR.firstBad (l.take k) by rw [HFB.out, if_neg h0])
          clear HFB h0
          go_wp2_with fail
          exact ⟨⟨k + 1, hlt, by simp, by rw [HE.out], HB3.out⟩, by simp [intOf]; omega⟩
      · have q0 : ¬ (k : Int) < (l.length : Int) := by omega
        have hkl : l.take k = l := List.take_of_length_le (by omega)
        rw [hkl]
        have HFM := Lib.hid (formatT_any l A l.length c wr rfl (by omega) (HR.out.below HB.out) HOK.out (HT.out.pow.below HB.out))
        have hfl := TR.fmt_len l HOK.out
        have hal : TR.all (TR.fmt l) = if TR.firstBad l = 0 then (l, 0, 0) else ([], TR.firstBad l, 3) := by
          unfold TR.all
          rw [if_neg (by omega), TR.run_fmt l _ 1 [] HOK.out (Nat.lt_succ_self _), List.nil_append, show 1 + TR.firstBad l - 1 = TR.firstBad l from by omega]
        have hle := firstBad_le l
        have HAL := Lib.hid hal
        have HPA := Lib.hid (fun W (hW : TrIs W) => parseT_any (TR.fmt l) (by omega) W hW)
        clear hkl hal hfl
        go_wp2_with fail
        refine HFM.out.mono ?_
        rintro e w5 ⟨rfl, hb5⟩
        have HB5 := Lib.hid (HB.out.trans (hb5.mono HB.out.size))
        clear hb5 HFM
        go_wp2_with fail
        refine (HPA.out w5 (HT.out.below HB5.out)).mono ?_
        rintro e w6 ⟨A6, c6, rfl, hr6, hb6⟩
        rw [HAL.out] at hr6 ⊢
        have HB6 := Lib.hid (HB5.out.trans (hb6.mono HB5.out.size))
        clear hb6 HPA HAL
        by_cases h0 : TR.firstBad l = 0
        · rw [if_pos h0] at hr6 ⊢
          have HSA := Lib.hid (sameT_any l A6 A c6 c w6 hr6 (HR.out.below HB6.out) (by omega))
          rw [h0]
          clear hr6 h0 hle
          simp only
          go_wp2_with fail
          refine HSA.out.mono ?_
          rintro e w7 ⟨rfl, hb7⟩
          have HB7 := Lib.hid (HB6.out.trans (hb7.mono HB6.out.size))
          clear hb7 HSA
          go_wp2_with fail
          go_ret
          exact ⟨rfl, HB7.out⟩
        · rw [if_neg h0]
          have d0 : decide ((0 : Int) < (TR.firstBad l : Int)) = true := decide_eq_true (by omega)
          have d0' : decide (0 < TR.firstBad l) = true := decide_eq_true (by omega)
          clear hr6
          generalize TR.firstBad l = F at *
          simp only [List.length_nil]
          go_wp2_with fail
          go_ret
          exact ⟨rfl, HB6.out⟩
end
end Go.Proofs.YtpmbhdheeaejgaaGreatDoor
