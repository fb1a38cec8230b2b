/- The walk of AuditParses. -/
import Derived.Test.YtpmbhdheeaejgaaGreatDoorAuN
import Derived.Test.YtpmbhdheeaejgaaGreatDoorTrE
import Derived.Test.YtpmbhdheeaejgaaGreatDoorTrF
import Derived.Test.YtpmbhdheeaejgaaGreatDoorTrG
import Derived.Test.YtpmbhdheeaejgaaGreatDoorTrH
import Derived.Test.YtpmbhdheeaejgaaGreatDoorPlainTr4
namespace Go.Proofs.YtpmbhdheeaejgaaGreatDoor
open Go.RowKit Go.Maps Go.Sort Go.Lib
open AU (Ev)
section
set_option maxHeartbeats 4000000
set_option maxRecDepth 100000
theorem aparses_walk (s : ByteArray) (w : World) (hT : TrIs w) (_hs : s.size ≤ maxLen) :
    Calls Tryz.prog 4 #[.string s] w fun e w' => e = .returned (.bool true) ∧ Below w.heap.size w w' := by
  obtain ⟨l, rfl⟩ : ∃ l : List UInt8, s = ⟨l.toArray⟩ := ⟨s.data.toList, by cases s; simp⟩
  have HT := Lib.hid hT
  clear hT _hs
  go_enter Tryz.func4, Tryz.ntmps4
  go_wp2_with fail
  refine (aawake_any _).mono ?_
  rintro e w1 ⟨rfl, hb1⟩
  have HB1 := Lib.hid hb1
  clear hb1
  by_cases h5 : 5000 < l.length
  · have d1 : decide ((5000 : Int) < (l.length : Int)) = true := decide_eq_true (by omega)
    have d2 : decide (5000 < l.length) = true := decide_eq_true h5
    clear h5
    go_wp2_with fail
    go_ret
    exact ⟨rfl, HB1.out⟩
  have d1 : decide ((5000 : Int) < (l.length : Int)) = false := decide_eq_false (by omega)
  have d2 : decide (5000 < l.length) = false := decide_eq_false h5
  have hl : l.length ≤ 5000 := by omega
  have HP := Lib.hid (parseT_any l (by omega) w1 (HT.out.below HB1.out))
  have hall : TR.all l = TR.runP (l.length + 1) l 1 [] := by unfold TR.all; rw [if_neg (by omega)]
  have HPA := Lib.hid (fun (k : List UInt8) (hk : k.length ≤ 5001) (W : World) (hW : TrIs W) => (show Calls Tryz.prog 7 #[.string ⟨k.toArray⟩] W (fun e w' => ∃ A c, e = .returned (.tuple #[.slice A (TR.runP (k.length + 1) k 1 []).1.length c, .int .i64 ((TR.runP (k.length + 1) k 1 []).2.1 : Int), .int .i64 ((TR.runP (k.length + 1) k 1 []).2.2 : Int)]) ∧ Below W.heap.size W w') by
    have h := parseT_any k (by omega) W hW
    have hk2 : TR.all k = TR.runP (k.length + 1) k 1 [] := by unfold TR.all; rw [if_neg (by omega)]
    rw [hk2] at h
    refine h.mono ?_
    rintro e w' ⟨A, c, h1, _, h3⟩
    exact ⟨A, c, h1, h3⟩))
  rw [hall] at HP
  clear hall h5
  generalize hR : TR.runP (l.length + 1) l 1 [] = R at *
  obtain ⟨evs, at_, er⟩ := R
  have HR := Lib.hid hR
  simp only at HP
  clear hR
  go_wp2_with fail
  refine HP.out.mono ?_
  rintro e w2 ⟨A2, c2, rfl, hr2, hb2⟩
  have HB2 := Lib.hid (HB1.out.trans (hb2.mono HB1.out.size))
  have HR2 := Lib.hid hr2
  clear hr2 hb2 HP
  by_cases h0 : er = 0
  · subst h0
    obtain ⟨rfl, l', hl1, rfl, hgood⟩ := TR.run_ok (l.length + 1) l 1 [] evs at_ (Nat.lt_succ_self _) HR.out
    rw [List.nil_append] at hl1
    subst hl1
    have hge := TR.fmt_ge evs
    have HFM := Lib.hid (formatT_any evs A2 evs.length c2 w2 rfl (by omega) HR2.out (fun e he => (hgood e he).2) (HT.out.pow.below HB2.out))
    have HG := Lib.hid hgood
    clear hgood HPA
    go_wp2_with fail
    refine HFM.out.mono ?_
    rintro e w3 ⟨rfl, hb3⟩
    have HB3 := Lib.hid (HB2.out.trans (hb3.mono HB2.out.size))
    have HR3 := Lib.hid (HR2.out.below hb3)
    have HHG := Lib.hid (huge_any evs A2 c2 w3 (by omega) HR3.out)
    clear hb3 HFM
    go_wp2_with fail
    refine HHG.out.mono ?_
    rintro e w4 ⟨b, rfl, hb, hb4⟩
    have HB4 := Lib.hid (HB3.out.trans (hb4.mono HB3.out.size))
    have HR4 := Lib.hid (HR3.out.below hb4)
    clear hb4 HHG
    cases b with
    | true =>
      clear hb
      go_wp2_with fail
      go_ret
      exact ⟨rfl, HB4.out⟩
    | false =>
      have HTX := Lib.hid (text_any evs A2 c2 w4 (by omega) HR4.out (fun e he => ⟨hb rfl e he, by have := (HG.out e he).1.2; omega⟩))
      clear hb
      go_wp2_with fail
      refine HTX.out.mono ?_
      rintro e w5 ⟨rfl, hb5⟩
      have HB5 := Lib.hid (HB4.out.trans (hb5.mono HB4.out.size))
      clear hb5 HTX
      go_wp2_with fail
      go_ret
      exact ⟨rfl, HB5.out⟩
  · obtain ⟨rfl, l', line, rest, rfl, hgood, rfl, hline, hne, hcase⟩ := TR.run_err (l.length + 1) l 1 [] evs at_ er (Nat.lt_succ_self _) HR.out h0
    have n0 : ((er : Int) == 0) = false := by simp; omega
    obtain ⟨hls, hlt⟩ := TR.ls_start l' (line ++ rest)
    have HLS := Lib.hid hls
    have HLT := Lib.hid hlt
    have hlen2 : (TR.fmt l' ++ (line ++ rest)).length = (TR.fmt l').length + line.length + rest.length := by simp; omega
    have hne2 : 0 < line.length + rest.length := by
      rcases Nat.eq_zero_or_pos (line.length + rest.length) with h | h
      · have h1 : line = [] := List.length_eq_zero_iff.1 (by omega)
        have h2 : rest = [] := List.length_eq_zero_iff.1 (by omega)
        exact absurd (by rw [h1, h2]; rfl) hne
      · exact h
    have HGD := Lib.hid hgood
    have HCS := Lib.hid hcase
    have HLI := Lib.hid hline
    have hge := TR.fmt_ge l'
    clear hls hlt hgood hcase hline hne HR HR2 h0 d1 d2
    obtain ⟨n9, hn9⟩ : ∃ n9, n9 = 1 + l'.length := ⟨_, rfl⟩
    rw [← hn9]
    generalize hF : TR.fmt l' = F at *
    have HF := Lib.hid hF
    clear hF
    generalize hX : F ++ (line ++ rest) = X at *
    have HX := Lib.hid hX
    clear hX
    go_wp2_with fail
    go_loopw [6, 7, 8] (fun sv lv iv wr => ∃ i : Nat, i ≤ F.length ∧ iv = .int .i64 (i : Int) ∧ sv = .int .i64 ((TR.ls X i).2 : Int) ∧ lv = .int .i64 (((TR.ls X i).1 + 1 : Nat) : Int) ∧ wr = w2) (fun _ _ iv _ => X.length - (intOf iv).toNat)
    case atStart => exact ⟨0, Nat.zero_le _, rfl, rfl, rfl, rfl⟩
    case round =>
      obtain ⟨i, hi, rfl, rfl, rfl, rfl⟩ := hrel
      by_cases hil : i < F.length
      · have q0 : (i : Int) < (X.length : Int) := by omega
        have q1 : (((TR.ls X i).1 + 1 : Nat) : Int) < (n9 : Int) := by have := HLT.out i hil; omega
        have hiX : i < X.length := by omega
        have hbi : i < (⟨X.toArray⟩ : ByteArray).size := by simpa [ByteArray.size] using hiX
        have hge9 : (⟨X.toArray⟩ : ByteArray)[i]'hbi = X[i]'hiX := rfl
        by_cases hb : X[i]'hiX = 10
        · have e1 : ((((⟨X.toArray⟩ : ByteArray)[i]'hbi).toNat : Int) == 10) = true := by rw [hge9, hb]; rfl
          have HS := Lib.hid (show TR.ls X (i + 1) = ((TR.ls X i).1 + 1, i + 1) by rw [TR.ls, List.getElem?_eq_getElem hiX, hb, if_pos rfl])
          clear hb hge9
          go_wp2_with fail
          exact ⟨⟨i + 1, hil, by simp, by rw [HS.out]; simp, by rw [HS.out]; simp, trivial⟩, by simp [intOf]; omega⟩
        · have e1 : ((((⟨X.toArray⟩ : ByteArray)[i]'hbi).toNat : Int) == 10) = false := by
            rw [hge9]
            simp only [beq_eq_false_iff_ne, ne_eq]
            intro h
            exact hb (UInt8.toNat_inj.1 (by have : (X[i]'hiX).toNat = 10 := by omega
                                            rw [this]; rfl))
          have HS := Lib.hid (show TR.ls X (i + 1) = TR.ls X i by rw [TR.ls, List.getElem?_eq_getElem hiX, if_neg (fun h => hb (Option.some.inj h))])
          clear hb hge9
          go_wp2_with fail
          exact ⟨⟨i + 1, hil, by simp, by rw [HS.out], by rw [HS.out]; simp, trivial⟩, by simp [intOf]; omega⟩
      · obtain rfl : i = F.length := by omega
        have q0 : (F.length : Int) < (X.length : Int) := by omega
        rw [HLS.out]
        simp only
        rw [show l'.length + 1 = n9 from by omega]
        have q1 : ¬ (n9 : Int) < (n9 : Int) := by omega
        have q2 : decide ((n9 : Int) < 1) = false := decide_eq_false (by omega)
        have q2' : decide (n9 < 1) = false := decide_eq_false (by omega)
        have q3 : decide ((X.length : Int) ≤ (F.length : Int)) = false := decide_eq_false (by omega)
        have q3' : decide (X.length ≤ F.length) = false := decide_eq_false (by omega)
        have HSL := Lib.hid (show (⟨X.toArray⟩ : ByteArray).extract 0 F.length = ⟨F.toArray⟩ by
          rw [← HX.out]
          apply ByteArray.ext
          simp)
        have HPF := Lib.hid (HPA.out F (by omega) wr (HT.out.below HB2.out))
        have hrf : TR.runP (F.length + 1) F 1 [] = (l', 0, 0) := by
          have := TR.run_fmt l' (F.length + 1) 1 [] (fun e he => (HGD.out e he).2) (by rw [HF.out]; omega)
          rw [HF.out, if_pos (TR.firstBad_zero fun e he => (HGD.out e he).1), List.nil_append] at this
          exact this
        rw [hrf] at HPF
        simp only at HPF
        clear hrf
        go_wp2_with fail
        rw [HSL.out]
        refine HPF.out.mono ?_
        rintro e w5 ⟨A5, c5, rfl, hb5⟩
        have HB5 := Lib.hid (HB2.out.trans (hb5.mono HB2.out.size))
        have HXB := Lib.hid (show ∀ (j : Nat) (hj : j < line.length) (h : F.length + j < (⟨X.toArray⟩ : ByteArray).size), (⟨X.toArray⟩ : ByteArray)[F.length + j]'h = line[j]'hj from fun j hj h => by
          have h1 : X[F.length + j]? = some (line[j]'hj) := by
            rw [← HX.out, List.getElem?_append_right (by omega), show F.length + j - F.length = j from by omega, List.getElem?_append_left hj, List.getElem?_eq_getElem]
          obtain ⟨h2, h3⟩ := List.getElem?_eq_some_iff.1 h1
          exact h3)
        have HXR := Lib.hid (show ∀ (r : List UInt8), rest = 10 :: r → ∀ (h : F.length + line.length < (⟨X.toArray⟩ : ByteArray).size), (⟨X.toArray⟩ : ByteArray)[F.length + line.length]'h = 10 from fun r hr h => by
          have h1 : X[F.length + line.length]? = some 10 := by
            rw [← HX.out, hr, List.getElem?_append_right (by omega), show F.length + line.length - F.length = line.length from by omega, List.getElem?_append_right (Nat.le_refl _), Nat.sub_self]
            rfl
          obtain ⟨h2, h3⟩ := List.getElem?_eq_some_iff.1 h1
          exact h3)
        have HSL2 := Lib.hid (show (⟨X.toArray⟩ : ByteArray).extract F.length (F.length + line.length) ++ ⟨#[10]⟩ = ⟨(line ++ [10]).toArray⟩ by
          rw [← HX.out]
          apply ByteArray.ext
          simp)
        have HPG := Lib.hid (HPA.out (line ++ [10]) (by simp; omega) w5 (HT.out.below HB5.out))
        have hrg := TR.run_one HLI.out ((line ++ [10]).length + 1) (by simp)
        rw [hrg] at HPG
        have HXS := Lib.hid (show (⟨X.toArray⟩ : ByteArray).size = X.length from by simp [ByteArray.size])
        clear hb5 HPF HSL HPA hrg q2 q2' q3 q3' q1 q0
        go_wp2_with fail
        go_loopw [12] (fun v wx => ∃ j : Nat, j ≤ line.length ∧ v = .int .i64 ((F.length + j : Nat) : Int) ∧ wx = w5) (fun v _ => X.length - (intOf v).toNat)
        case atStart => exact ⟨0, Nat.zero_le _, rfl, rfl⟩
        case round =>
          obtain ⟨j, hj, rfl, rfl⟩ := hrel
          by_cases hjl : j < line.length
          · have q0 : ((F.length + j : Nat) : Int) < (X.length : Int) := by omega
            have hbi : F.length + j < (⟨X.toArray⟩ : ByteArray).size := by rw [HXS.out]; omega
            have hbe := HXB.out j hjl hbi
            have hn10 := HLI.out _ (List.getElem_mem hjl)
            have e1 : ((((⟨X.toArray⟩ : ByteArray)[F.length + j]'hbi).toNat : Int) == 10) = false := by
              rw [hbe]
              simp only [beq_eq_false_iff_ne, ne_eq]
              intro h
              exact hn10 (UInt8.toNat_inj.1 (by have : (line[j]'hjl).toNat = 10 := by omega
                                                rw [this]; rfl))
            have e2 : ((((⟨X.toArray⟩ : ByteArray)[F.length + j]'hbi).toNat : Int) != 10) = true := by
              rw [bne, e1]; rfl
            clear hbe hn10
            go_wp2_with fail
            exact ⟨⟨j + 1, hjl, by simp; omega, trivial⟩, by simp [intOf]; omega⟩
          · obtain rfl : j = line.length := by omega
            have hX2 : X.length = F.length + line.length + rest.length := hlen2
            rcases HCS.out with ⟨rfl, hp, hr⟩ | ⟨rfl, hr, ee, hp⟩
            · rw [hp] at HPG
              simp only at HPG
              clear hp HCS HXB HLI
              rcases hr with rfl | ⟨r, rfl⟩
              · have q0 : ¬ ((F.length + line.length : Nat) : Int) < (X.length : Int) := by simp at hX2; omega
                go_wp2_with fail
                rw [HSL2.out]
                refine HPG.out.mono ?_
                rintro e w7 ⟨A7, c7, rfl, hb7⟩
                have HB7 := Lib.hid (HB5.out.trans (hb7.mono HB5.out.size))
                clear hb7 HPG
                go_wp2_with fail
                go_ret
                exact ⟨rfl, HB7.out⟩
              · have q0 : ((F.length + line.length : Nat) : Int) < (X.length : Int) := by simp at hX2; omega
                have hbi : F.length + line.length < (⟨X.toArray⟩ : ByteArray).size := by rw [HXS.out]; simp at hX2; omega
                have hbe := HXR.out r rfl hbi
                have e1 : ((((⟨X.toArray⟩ : ByteArray)[F.length + line.length]'hbi).toNat : Int) == 10) = true := by rw [hbe]; rfl
                have e2 : ((((⟨X.toArray⟩ : ByteArray)[F.length + line.length]'hbi).toNat : Int) != 10) = false := by rw [bne, e1]; rfl
                clear hbe
                go_wp2_with fail
                rw [HSL2.out]
                refine HPG.out.mono ?_
                rintro e w7 ⟨A7, c7, rfl, hb7⟩
                have HB7 := Lib.hid (HB5.out.trans (hb7.mono HB5.out.size))
                clear hb7 HPG
                go_wp2_with fail
                go_ret
                exact ⟨rfl, HB7.out⟩
            · rw [hp] at HPG
              simp only at HPG
              clear hp HCS HXB HLI
              subst hr
              have q0 : ¬ ((F.length + line.length : Nat) : Int) < (X.length : Int) := by simp at hX2; omega
              go_wp2_with fail
              rw [HSL2.out]
              refine HPG.out.mono ?_
              rintro e w7 ⟨A7, c7, rfl, hb7⟩
              have HB7 := Lib.hid (HB5.out.trans (hb7.mono HB5.out.size))
              clear hb7 HPG
              go_wp2_with fail
              go_ret
              exact ⟨rfl, HB7.out⟩
end
end Go.Proofs.YtpmbhdheeaejgaaGreatDoor
