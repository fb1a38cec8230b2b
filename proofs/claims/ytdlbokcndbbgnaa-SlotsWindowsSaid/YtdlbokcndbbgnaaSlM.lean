/- The reference's validity, the law's bounds. -/
import Derived.Test.YtdlbokcndbbgnaaSlV
import Derived.BigQuiet
namespace Go.Proofs.Ytdlbokcndbbgnaa
open Go.RowKit Go.Maps Go.Sort Go.Lib
open SL (Tk Jb Ms Cd)
section
set_option maxHeartbeats 1000000
set_option maxRecDepth 100000
theorem rtsvalid_any (l : List Tk) (A : Option Addr) (n c : Nat) (w : World) (hN : l.length = n) (hr : Row w A (tkRow l)) :
    Calls Try.prog 45 #[.slice A n c] w fun e w' => e = .returned (.bool (SL.okTs l)) ∧ ∃ q, w' = w.drewN q := by
  have hok : SL.okTs l = (decide (l.length ≤ 40) && l.all SL.okTk) := rfl
  generalize SL.okTs l = R at *
  by_cases hbig : 40 < n
  · have e1 : decide ((40 : Int) < (n : Int)) = true := by simp; omega
    have HR := Lib.hid (show R = false by rw [hok, decide_eq_false (by omega)]; rfl)
    clear hok
    go_enter Try.func45, Try.ntmps45
    go_wp2_with fail
    go_ret
    rw [HR.out]
    exact ⟨rfl, 0, rfl⟩
  have e1 : decide ((40 : Int) < (n : Int)) = false := by simp; omega
  have HR := Lib.hid (show R = l.all SL.okTk by rw [hok, decide_eq_true (by omega), Bool.true_and])
  have HN := Lib.hid hN
  have HRW := Lib.hid hr
  clear hok hN hr
  go_enter Try.func45, Try.ntmps45
  go_wp2_with fail
  go_loopw [3] (fun v wr => ∃ k q : Nat, k ≤ n ∧ v = .int .i64 (k : Int) ∧ (l.take k).all SL.okTk = true ∧ wr = w.drewN q) (fun v _ => n - (intOf v).toNat)
  case atStart => exact ⟨0, 0, Nat.zero_le _, rfl, rfl, rfl⟩
  case round =>
    obtain ⟨k, q, hk, rfl, hall, hwr⟩ := hrel
    have HW := Lib.hid hwr
    by_cases hlt : k < n
    · obtain ⟨t, ht⟩ : ∃ t, l[k]? = some t := ⟨_, List.getElem?_eq_getElem (by rw [HN.out]; exact hlt)⟩
      obtain ⟨rb, ro, rfl, hrb, c00, c01, c02⟩ := HRW.out.tk ht
      have c0 : wr.cell? ⟨rb, ro + k * 3 + 1, none⟩ = some (.int .i64 t.cost) := by rw [hwr]; exact c01
      have c1 : wr.cell? ⟨rb, ro + k * 3 + 2, none⟩ = some (.int .i64 t.per) := by rw [hwr]; exact c02
      have q0 : (k : Int) < (n : Int) := by omega
      have htk : l.take (k + 1) = l.take k ++ [t] := by
        obtain ⟨h1, h2⟩ := List.getElem?_eq_some_iff.1 ht
        rw [List.take_succ_eq_append_getElem h1, h2]
      have hmem := List.mem_of_getElem? ht
      have HALL := Lib.hid hall
      have HTK := Lib.hid htk
      clear hall htk ht hwr c00 c01 c02 hrb
      cases hv : SL.okTk t with
      | true =>
        obtain ⟨v1, v2, v3⟩ := SL.okTk_iff.1 hv
        have d1 : decide (t.cost < 1) = false := decide_eq_false (by omega)
        have d2 : decide (t.per < t.cost) = false := decide_eq_false (by omega)
        have d3 : decide ((1000 : Int) < t.per) = false := decide_eq_false (by omega)
        have HV := Lib.hid hv
        clear hv v1 v2 v3 hmem
        go_wp2_with fail
        go_quiet (fail)
        go_wp2_with fail
        refine ⟨⟨k + 1, q + nq, hlt, by simp, ?_, by rw [HW.out, World.drewN_drewN]⟩, by simp [intOf]; omega⟩
        rw [HTK.out, List.all_append, HALL.out]
        simp [HV.out]
      | false =>
        have HRF := Lib.hid (show R = false by rw [HR.out, List.all_eq_false]; exact ⟨t, hmem, by simp [hv]⟩)
        have hcs : decide (t.cost < 1) = true ∨ (decide (t.cost < 1) = false ∧ (decide (t.per < t.cost) = true ∨ (decide (t.per < t.cost) = false ∧ decide ((1000 : Int) < t.per) = true))) := by
          have := SL.okTk_iff (t := t)
          rw [hv] at this
          simp only [Bool.false_eq_true, false_iff] at this
          simp only [decide_eq_true_eq, decide_eq_false_iff_not]
          omega
        clear hv hmem
        rcases hcs with d1 | ⟨d1, d2 | ⟨d2, d3⟩⟩
        all_goals
          go_wp2_with fail
          go_quiet (fail)
          go_wp2_with fail
          go_ret
          rw [HRF.out]
          exact ⟨rfl, q + nq, by rw [HW.out, World.drewN_drewN]⟩
    · have q1 : ¬ (k : Int) < (n : Int) := by omega
      have hall' : R = true := by rw [HR.out, ← hall, List.take_of_length_le (by rw [HN.out]; omega)]
      have HRT := Lib.hid hall'
      clear hall' hall hwr
      go_wp2_with fail
      go_ret
      rw [HRT.out]
      exact ⟨rfl, q, HW.out⟩
theorem rvalid_any (ts : List Tk) (A : Option Addr) (c : Nat) (rs : List (List Int)) (rv : Value) (cores : Int) (w : World) (hr : Row w A (tkRow ts)) (hl : RelV w rv rs) (hx : ∀ r ∈ rs, r.length ≤ maxLen ∧ ∀ x ∈ r, x ≤ 9223372036854775807) :
    Calls Try.prog 30 #[.slice A ts.length c, .int .i64 cores, rv] w fun e w' => e = .returned (.bool (SL.valid ts cores rs)) ∧ ∃ q, w' = w.drewN q := by
  have hnot : ∀ (x : Bool) (w : World), (Op.unary .not (.bool x)).run Try.prog w = .ok (.bool (!x)) w := fun _ _ => rfl
  have hmx : maxLen = 9223372036854775807 := rfl
  have HX := Lib.hid hx
  have HV := Lib.hid (rtsvalid_any ts A ts.length c w rfl hr)
  have hR : SL.valid ts cores rs = (SL.okTs ts && decide (1 ≤ cores) && decide (cores ≤ 8) && decide (rs.length = ts.length) && SL.okRels ts rs) := rfl
  generalize SL.valid ts cores rs = R at *
  obtain ⟨RA, RC, hsr, rfl, hsl, hrow, hrr⟩ := hl
  have h40 : SL.okTs ts = true → ts.length ≤ 40 := fun h => by unfold SL.okTs at h; simp at h; exact h.1
  by_cases hok : SL.okTs ts = true ∧ 1 ≤ cores ∧ cores ≤ 8 ∧ rs.length = ts.length
  · obtain ⟨ho, hc1, hc2, hlen⟩ := hok
    have h40' := h40 ho
    rw [ho] at HV
    have d1 : decide (cores < 1) = false := decide_eq_false (by omega)
    have d2 : decide ((8 : Int) < cores) = false := decide_eq_false (by omega)
    have d3 : ((rs.length : Int) != (ts.length : Int)) = false := by simp [hlen]
    have HR := Lib.hid (show R = SL.okRels ts rs by rw [hR, ho, decide_eq_true hc1, decide_eq_true hc2, decide_eq_true hlen]; rfl)
    have HRR := Lib.hid hrr
    have HROW := Lib.hid hrow
    have HTR := Lib.hid hr
    have HLEN := Lib.hid hlen
    clear hR hrr hrow hr h40 hlen ho hx
    go_enter Try.func30, Try.ntmps30
    go_wp2_with fail
    refine HV.out.mono ?_
    rintro e w1 ⟨rfl, q1, hw1⟩
    have HW1 := Lib.hid hw1
    clear hw1 HV
    go_wp2_with fail
    go_loopw [7] (fun v wr => ∃ k q : Nat, k ≤ ts.length ∧ v = .int .i64 (k : Int) ∧ SL.okRels (ts.drop k) (rs.drop k) = R ∧ wr = w.drewN q) (fun v _ => ts.length - (intOf v).toNat)
    case atStart => exact ⟨0, q1, Nat.zero_le _, rfl, HR.out.symm, HW1.out⟩
    case round =>
      obtain ⟨k, q, hk, rfl, hrel, hwr⟩ := hrel
      have HWR := Lib.hid hwr
      by_cases hlt : k < ts.length
      · have q0 : (k : Int) < (ts.length : Int) := by omega
        obtain ⟨r, hrk⟩ : ∃ r, rs[k]? = some r := ⟨_, List.getElem?_eq_getElem (by rw [HLEN.out]; exact hlt)⟩
        obtain ⟨t, ht⟩ : ∃ t, ts[k]? = some t := ⟨_, List.getElem?_eq_getElem hlt⟩
        obtain ⟨Ai, ci, hsi, hri⟩ := HRR.out k r hrk
        obtain ⟨rb, ro, rfl, _, cr0⟩ := HROW.out.at hsi
        obtain ⟨tb, to_, rfl, _, _, _, t20⟩ := HTR.out.tk ht
        have HCR := Lib.hid (show ∀ W : World, (∃ q, W = w.drewN q) → W.cell? ⟨rb, ro + k, none⟩ = some (.slice Ai r.length ci) from fun W ⟨q, h⟩ => by rw [h]; exact cr0)
        have HT2 := Lib.hid (show ∀ W : World, (∃ q, W = w.drewN q) → W.cell? ⟨tb, to_ + k * 3 + 2, none⟩ = some (.int .i64 t.per) from fun W ⟨q, h⟩ => by rw [h]; exact t20)
        have cr := HCR.out wr ⟨q, hwr⟩
        have q1' : (k : Int) < (rs.length : Int) := by rw [HLEN.out]; exact q0
        rw [okRels_drop ts rs k t r ht hrk] at hrel
        have hrd : SL.okRel t r = (decide (r.length ≤ 10000) && (List.range r.length).all (SL.okAt t.per r)) := rfl
        have HREL := Lib.hid hrel
        have HRI := Lib.hid hri
        have HXR := Lib.hid (HX.out r (List.mem_of_getElem? hrk)).2
        clear hsi hri ht hrk hrel hwr cr0 t20
        by_cases hbig : 10000 < r.length
        · have d5 : decide ((10000 : Int) < (r.length : Int)) = true := by simp; omega
          have HRF := Lib.hid (show R = false by rw [← HREL.out, hrd, decide_eq_false (by omega)]; rfl)
          clear hbig hrd
          go_wp2_with fail
          go_ret
          rw [HRF.out]
          exact ⟨rfl, q, HWR.out⟩
        · have d5 : decide ((10000 : Int) < (r.length : Int)) = false := by simp; omega
          have HRD := Lib.hid (show SL.okRel t r = (List.range r.length).all (SL.okAt t.per r) by rw [hrd, decide_eq_true (by omega), Bool.true_and])
          have HQ0 := Lib.hid (show ∃ q, wr = w.drewN q from ⟨q, HWR.out⟩)
          clear hrd
          go_wp2_with fail
          go_loopw [8] (fun v wx => ∃ i q : Nat, i ≤ r.length ∧ v = .int .i64 (i : Int) ∧ (List.range i).all (SL.okAt t.per r) = true ∧ wx = w.drewN q) (fun v _ => r.length - (intOf v).toNat)
          case atStart => exact ⟨0, q, Nat.zero_le _, rfl, rfl, HWR.out⟩
          case round =>
            obtain ⟨i, qi, hi, rfl, hall, hwi⟩ := hrel
            have HWI := Lib.hid hwi
            have HALL := Lib.hid hall
            have cr := HCR.out _ ⟨qi, hwi⟩
            have t2 := HT2.out _ ⟨qi, hwi⟩
            by_cases hil : i < r.length
            · have q5 : (i : Int) < (r.length : Int) := by omega
              obtain ⟨x, hxi⟩ : ∃ x, r[i]? = some x := ⟨_, List.getElem?_eq_getElem hil⟩
              have hgd : r.getD i 0 = x := by rw [List.getD_eq_getElem?_getD, hxi]; rfl
              have hxb := HXR.out x (List.mem_of_getElem? hxi)
              have hat : SL.okAt t.per r i = (decide (0 ≤ x) && (decide (i = 0) || decide (t.per ≤ x - r.getD (i - 1) 0))) := by unfold SL.okAt; rw [hgd]
              obtain ⟨ab, ao, rfl, _, cx0⟩ := HRI.out.at (show (r.map (Value.int .i64))[i]? = some (.int .i64 x) by simp [hxi])
              have cx : (w.drewN qi).cell? ⟨ab, ao + i, none⟩ = some (.int .i64 x) := cx0
              rw [← hwi] at cx
              by_cases hneg : x < 0
              · have d6 : decide (x < 0) = true := decide_eq_true hneg
                have HRF := Lib.hid (show R = false by
                  rw [← HREL.out, HRD.out, all_range_false hil (by rw [hat, decide_eq_false (by omega)]; rfl)]; rfl)
                clear hneg hat hgd hxi hxb cx0 hwi hall
                go_wp2_with fail
                go_quiet (fail)
                go_wp2_with fail
                go_ret
                rw [HRF.out]
                exact ⟨rfl, qi + nq, by rw [HWI.out, World.drewN_drewN]⟩
              · have d6 : decide (x < 0) = false := decide_eq_false hneg
                cases i with
                | zero =>
                  have cx : _ = some (Value.int .i64 x) := cx
                  rw [Nat.add_zero] at cx
                  have HS1 := Lib.hid (show (List.range (0 + 1)).all (SL.okAt t.per r) = true by rw [range_all_succ, HALL.out, hat, decide_eq_true (by omega)]; rfl)
                  clear hneg hat hgd hxi hxb cx0 hwi hall HALL
                  go_wp2_with fail
                  go_quiet (fail)
                  go_wp2_with fail
                  refine ⟨⟨0 + 1, qi + nq, hil, by simp, HS1.out, by rw [HWI.out, World.drewN_drewN]⟩, by simp [intOf]; omega⟩
                | succ i' =>
                  obtain ⟨y, hyi⟩ : ∃ y, r[i']? = some y := ⟨_, List.getElem?_eq_getElem (by omega)⟩
                  have hgy : r.getD i' 0 = y := by rw [List.getD_eq_getElem?_getD, hyi]; rfl
                  obtain ⟨ab', ao', hAi', _, cy0⟩ := HRI.out.at (show (r.map (Value.int .i64))[i']? = some (.int .i64 y) by simp [hyi])
                  injection hAi' with hAi'
                  injection hAi' with e1 e2
                  subst e1 e2
                  have cy : (w.drewN qi).cell? ⟨ab, ao + i', none⟩ = some (.int .i64 y) := cy0
                  rw [← hwi] at cy
                  have hy0 : 0 ≤ y := by
                    have h := HALL.out
                    rw [range_all_succ, Bool.and_eq_true] at h
                    have h2 := h.2
                    unfold SL.okAt at h2
                    rw [hgy] at h2
                    simp at h2
                    exact h2.1
                  have hyb := HXR.out y (List.mem_of_getElem? hyi)
                  rw [Nat.add_sub_cancel, hgy] at hat
                  have z1 : IntKind.i64.wrap (x - y) = x - y := IntWalk.i64_in _ (by omega)
                  have q6 : (i' : Int) < (r.length : Int) := by omega
                  have z2 : IntKind.i64.wrap ((i' : Int) + 1 - 1) = (i' : Int) := by rw [show (i' : Int) + 1 - 1 = (i' : Int) from by omega]; exact IntWalk.i64_in _ (by omega)
                  by_cases hpp : x - y < t.per
                  · have d7 : decide (x - y < t.per) = true := decide_eq_true hpp
                    have HRF := Lib.hid (show R = false by
                      rw [← HREL.out, HRD.out, all_range_false hil (by rw [hat, decide_eq_false (show ¬ t.per ≤ x - y by omega)]; simp)]; rfl)
                    clear hneg hat hgd hxi hxb hyi hgy hpp HALL hyb cx0 cy0 hwi hall
                    go_wp2_with fail
                    go_quiet (fail)
                    go_wp2_with fail
                    go_ret
                    rw [HRF.out]
                    exact ⟨rfl, qi + nq, by rw [HWI.out, World.drewN_drewN]⟩
                  · have d7 : decide (x - y < t.per) = false := decide_eq_false hpp
                    have HS1 := Lib.hid (show (List.range (i' + 1 + 1)).all (SL.okAt t.per r) = true by rw [range_all_succ, HALL.out, hat, decide_eq_true (show 0 ≤ x by omega), decide_eq_true (show t.per ≤ x - y by omega)]; simp)
                    clear hneg hat hgd hxi hxb hyi hgy hpp HALL hyb cx0 cy0 hwi hall
                    go_wp2_with fail
                    go_quiet (fail)
                    go_wp2_with fail
                    refine ⟨⟨i' + 1 + 1, qi + nq, hil, by simp, HS1.out, by rw [HWI.out, World.drewN_drewN]⟩, by simp [intOf]; omega⟩
            · have q5 : ¬ (i : Int) < (r.length : Int) := by omega
              have HN := Lib.hid (show SL.okRels (ts.drop (k + 1)) (rs.drop (k + 1)) = R by
                rw [← HREL.out, HRD.out, show r.length = i from by omega, HALL.out, Bool.true_and])
              clear hwi hall
              go_wp2_with fail
              refine ⟨⟨k + 1, qi, hlt, by simp, HN.out, HWI.out⟩, by simp [intOf]; omega⟩
      · have q0 : ¬ (k : Int) < (ts.length : Int) := by omega
        have HRT := Lib.hid (show R = true by rw [← hrel, List.drop_eq_nil_of_le (show ts.length ≤ k by omega)]; rfl)
        clear hrel hwr
        go_wp2_with fail
        go_ret
        rw [HRT.out]
        exact ⟨rfl, q, HWR.out⟩
  · have HRF := Lib.hid (show R = false by
      rw [hR, ← Bool.not_eq_true]
      intro h
      simp only [Bool.and_eq_true, decide_eq_true_eq] at h
      exact hok ⟨h.1.1.1.1, h.1.1.1.2, h.1.1.2, h.1.2⟩)
    have hcs : SL.okTs ts = false ∨ (SL.okTs ts = true ∧ (decide (cores < 1) = true ∨ (decide (cores < 1) = false ∧ (decide ((8 : Int) < cores) = true ∨ (decide ((8 : Int) < cores) = false ∧ ((rs.length : Int) != (ts.length : Int)) = true))))) := by
      cases ho : SL.okTs ts with
      | false => exact .inl rfl
      | true =>
        right
        rw [ho] at hok
        simp only [true_and] at hok
        refine ⟨rfl, ?_⟩
        simp only [decide_eq_true_eq, decide_eq_false_iff_not, bne_iff_ne, ne_eq]
        omega
    clear hok hR hrr hrow hr hx
    rcases hcs with ho | ⟨ho, d1 | ⟨d1, d2 | ⟨d2, d3⟩⟩⟩
    all_goals
      rw [ho] at HV
      clear h40 ho
      go_enter Try.func30, Try.ntmps30
      go_wp2_with fail
      refine HV.out.mono ?_
      rintro e w1 ⟨rfl, q1, hw1⟩
      have HW1 := Lib.hid hw1
      clear hw1 HV
      go_wp2_with fail
      go_ret
      rw [HRF.out]
      exact ⟨rfl, q1, HW1.out⟩
end
end Go.Proofs.Ytdlbokcndbbgnaa
