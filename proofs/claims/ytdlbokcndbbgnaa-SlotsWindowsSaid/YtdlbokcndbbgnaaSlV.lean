/- Valid plans. -/
import Derived.Test.YtdlbokcndbbgnaaSlD
import Derived.BigQuiet
namespace Go.Proofs.Ytdlbokcndbbgnaa
open Go.RowKit Go.Maps
open SL (Tk Jb Ms Cd)
theorem range_all_succ (f : Nat → Bool) (k : Nat) : (List.range (k + 1)).all f = ((List.range k).all f && f k) := by
  rw [List.range_succ, List.all_append]; simp
theorem all_range_false {f : Nat → Bool} {n k : Nat} (hk : k < n) (h : f k = false) : (List.range n).all f = false := by
  rw [List.all_eq_false]
  exact ⟨k, by simpa using hk, by simp [h]⟩
theorem okRels_drop : ∀ (ts : List Tk) (rs : List (List Int)) (k : Nat) (t : Tk) (r : List Int), ts[k]? = some t → rs[k]? = some r → SL.okRels (ts.drop k) (rs.drop k) = (SL.okRel t r && SL.okRels (ts.drop (k + 1)) (rs.drop (k + 1)))
  | ts, rs, k, t, r, h1, h2 => by
    obtain ⟨h3, h4⟩ := List.getElem?_eq_some_iff.1 h1
    obtain ⟨h5, h6⟩ := List.getElem?_eq_some_iff.1 h2
    rw [List.drop_eq_getElem_cons h3, List.drop_eq_getElem_cons h5, h4, h6]
    rfl
section
set_option maxHeartbeats 1000000
set_option maxRecDepth 100000
theorem valid_any (M : Mdl) (cores : Int) (w : World) (hr : Row w M.A (tkRow M.ts)) (hl : RelV w M.rv M.rs) (hx : ∀ r ∈ M.rs, r.length ≤ maxLen ∧ ∀ x ∈ r, x ≤ 9223372036854775807) (hrl : M.rs.length ≤ maxLen) :
    Calls Try.prog 22 #[M.tv, .int .i64 cores, M.rv] w fun e w' => e = .returned (.bool (SL.valid M.ts cores M.rs)) ∧ Gr w w' := by
  have hnot : ∀ (x : Bool) (w : World), (Op.unary .not (.bool x)).run Try.prog w = .ok (.bool (!x)) w := fun _ _ => rfl
  have hmx : maxLen = 9223372036854775807 := rfl
  have HX := Lib.hid hx
  have HV := Lib.hid (tsvalid_any M.ts M.A M.ts.length M.c w rfl hr)
  have hR : SL.valid M.ts cores M.rs = (SL.okTs M.ts && decide (1 ≤ cores) && decide (cores ≤ 8) && decide (M.rs.length = M.ts.length) && SL.okRels M.ts M.rs) := rfl
  generalize SL.valid M.ts cores M.rs = R at *
  obtain ⟨RA, RC, hsr, hrv, hsl, hrow, hrr⟩ := hl
  rw [show M.tv = .slice M.A M.ts.length M.c from rfl, hrv]
  have h40 : SL.okTs M.ts = true → M.ts.length ≤ 40 := fun h => by unfold SL.okTs at h; simp at h; exact h.1
  by_cases hok : SL.okTs M.ts = true ∧ 1 ≤ cores ∧ cores ≤ 8 ∧ M.rs.length = M.ts.length
  · obtain ⟨ho, hc1, hc2, hlen⟩ := hok
    have h40' := h40 ho
    rw [ho] at HV
    have d1 : decide (cores < 1) = false := decide_eq_false (by omega)
    have d2 : decide ((8 : Int) < cores) = false := decide_eq_false (by omega)
    have d3 : ((M.rs.length : Int) != (M.ts.length : Int)) = false := by simp [hlen]
    have HR := Lib.hid (show R = SL.okRels M.ts M.rs by rw [hR, ho, decide_eq_true hc1, decide_eq_true hc2, decide_eq_true hlen]; rfl)
    have HRR := Lib.hid hrr
    have HROW := Lib.hid hrow
    have HTR := Lib.hid hr
    have HLEN := Lib.hid hlen
    clear hR hrr hrow hr h40 hlen ho
    go_enter Try.func22, Try.ntmps22
    go_wp2_with fail
    refine HV.out.mono ?_
    rintro e w1 ⟨rfl, hb1⟩
    have HB1 := Lib.hid hb1
    clear hb1 HV
    go_wp2_with fail
    go_loopw [31] (fun v wr => ∃ k q : Nat, k ≤ M.rs.length ∧ v = .int .i64 (k : Int) ∧ SL.okRels (M.ts.drop k) (M.rs.drop k) = R ∧ wr = w1.drewN q) (fun v _ => M.rs.length - (intOf v).toNat)
    case atStart => exact ⟨0, 0, Nat.zero_le _, rfl, HR.out.symm, rfl⟩
    case round =>
      obtain ⟨k, q, hk, rfl, hrel, hwr⟩ := hrel
      have hgw : Gr w wr := by rw [hwr]; exact HB1.out.drewN q
      have HG := Lib.hid hgw
      have HWR := Lib.hid hwr
      clear hwr
      by_cases hlt : k < M.rs.length
      · have q0 : (k : Int) < (M.rs.length : Int) := by omega
        obtain ⟨r, hr⟩ : ∃ r, M.rs[k]? = some r := ⟨_, List.getElem?_eq_getElem hlt⟩
        obtain ⟨t, ht⟩ : ∃ t, M.ts[k]? = some t := ⟨_, List.getElem?_eq_getElem (by rw [← HLEN.out]; exact hlt)⟩
        obtain ⟨Ai, ci, hsi, hri⟩ := HRR.out k r hr
        obtain ⟨rb, ro, rfl, hrb, cr⟩ := (HROW.out.below hgw.1).at hsi
        obtain ⟨tb, to_, hA, htb, t0, t1, t2⟩ := (HTR.out.below hgw.1).tk ht
        rw [hA]
        have q1 : (k : Int) < (M.ts.length : Int) := by rw [← HLEN.out]; exact q0
        rw [okRels_drop M.ts M.rs k t r ht hr] at hrel
        have hrd : SL.okRel t r = (decide (r.length ≤ 10000) && (List.range r.length).all (SL.okAt t.per r)) := rfl
        have HRI0 := Lib.hid hri
        have HTK := Lib.hid ht
        have HA := Lib.hid hA
        have HRK := Lib.hid hr
        have HXL := Lib.hid (HX.out r (List.mem_of_getElem? hr)).1
        rw [hmx] at HXL
        have HREL := Lib.hid hrel
        clear hsi hri hgw ht hr htb hrel hrb
        by_cases hbig : 10000 < r.length
        · have d5 : decide ((10000 : Int) < (r.length : Int)) = true := by simp; omega
          have HRF := Lib.hid (show R = false by rw [← HREL.out, hrd, decide_eq_false (by omega)]; rfl)
          clear hbig hrd
          go_wp2_with fail
          go_ret
          rw [HRF.out]
          exact ⟨rfl, HG.out⟩
        · have d5 : decide ((10000 : Int) < (r.length : Int)) = false := by simp; omega
          have HRD := Lib.hid (show SL.okRel t r = (List.range r.length).all (SL.okAt t.per r) by rw [hrd, decide_eq_true (by omega), Bool.true_and])
          clear hrd
          have hxr := (HX.out r (List.mem_of_getElem? HRK.out)).2
          have HXR := Lib.hid hxr
          clear hxr
          go_wp2_with fail
          go_loopw [41] (fun v wx => ∃ i q : Nat, i ≤ r.length ∧ v = .int .i64 (i : Int) ∧ (List.range i).all (SL.okAt t.per r) = true ∧ wx = w1.drewN q) (fun v _ => r.length - (intOf v).toNat)
          case atStart => exact ⟨0, q, Nat.zero_le _, rfl, rfl, HWR.out⟩
          case round =>
            obtain ⟨i, qi, hi, rfl, hall, hwi⟩ := hrel
            have hgi : Gr w wr := by rw [hwi]; exact HB1.out.drewN qi
            have HGI := Lib.hid hgi
            have HWI := Lib.hid hwi
            have HALL := Lib.hid hall
            obtain ⟨tb', to_', hA', htb', t0, t1, t2⟩ := (HTR.out.below hgi.1).tk HTK.out
            rw [HA.out] at hA'
            injection hA' with hA'
            injection hA' with hA1 hA2
            subst hA1 hA2
            clear hwi hall htb'
            by_cases hil : i < r.length
            · have q5 : (i : Int) < (r.length : Int) := by omega
              obtain ⟨x, hxi⟩ : ∃ x, r[i]? = some x := ⟨_, List.getElem?_eq_getElem hil⟩
              have hgd : r.getD i 0 = x := by rw [List.getD_eq_getElem?_getD, hxi]; rfl
              have hxb := HXR.out x (List.mem_of_getElem? hxi)
              have hat : SL.okAt t.per r i = (decide (0 ≤ x) && (decide (i = 0) || decide (t.per ≤ x - r.getD (i - 1) 0))) := by unfold SL.okAt; rw [hgd]
              have hrow' : Row wr Ai (r.map (Value.int .i64)) := HRI0.out.below hgi.1
              obtain ⟨ab, ao, hAi, hab, cx⟩ := hrow'.at (show (r.map (Value.int .i64))[i]? = some (.int .i64 x) by simp [hxi])
              rw [hAi]
              by_cases hneg : x < 0
              · have d6 : decide (x < 0) = true := decide_eq_true hneg
                have HRF := Lib.hid (show R = false by
                  rw [← HREL.out, HRD.out, all_range_false hil (by rw [hat, decide_eq_false (by omega)]; rfl)]; rfl)
                clear hneg hat hgd hxi hgi hrow' hab hxb
                go_wp2_with fail
                go_quiet (fail)
                go_wp2_with fail
                go_ret
                rw [HRF.out]
                exact ⟨rfl, HGI.out.drewN _⟩
              · have d6 : decide (x < 0) = false := decide_eq_false hneg
                cases i with
                | zero =>
                  have cx : wr.cell? ⟨ab, ao, none⟩ = some (.int .i64 x) := cx
                  have HS1 := Lib.hid (show (List.range (0 + 1)).all (SL.okAt t.per r) = true by rw [range_all_succ, HALL.out, hat, decide_eq_true (by omega)]; rfl)
                  clear hneg hat hgd hxi hgi hrow' hab hxb HALL
                  go_wp2_with fail
                  go_quiet (fail)
                  go_wp2_with fail
                  refine ⟨⟨0 + 1, qi + nq, hil, by simp, HS1.out, by rw [HWI.out, World.drewN_drewN]⟩, by simp [intOf]; omega⟩
                | succ i' =>
                  obtain ⟨y, hyi⟩ : ∃ y, r[i']? = some y := ⟨_, List.getElem?_eq_getElem (by omega)⟩
                  have hgy : r.getD i' 0 = y := by rw [List.getD_eq_getElem?_getD, hyi]; rfl
                  obtain ⟨ab', ao', hAi', _, cy⟩ := hrow'.at (show (r.map (Value.int .i64))[i']? = some (.int .i64 y) by simp [hyi])
                  rw [hAi] at hAi'
                  injection hAi' with hAi'
                  injection hAi' with e1 e2
                  subst e1 e2
                  have hy0 : 0 ≤ y := by
                    have h := HALL.out
                    rw [range_all_succ, Bool.and_eq_true] at h
                    have h2 := h.2
                    unfold SL.okAt at h2
                    rw [hgy] at h2
                    simp at h2
                    exact h2.1
                  rw [Nat.add_sub_cancel, hgy] at hat
                  have hyb := HXR.out y (List.mem_of_getElem? hyi)
                  have z1 : IntKind.i64.wrap (x - y) = x - y := IntWalk.i64_in _ (by omega)
                  have q6 : (i' : Int) < (r.length : Int) := by omega
                  have z2 : IntKind.i64.wrap ((i' : Int) + 1 - 1) = (i' : Int) := by rw [show (i' : Int) + 1 - 1 = (i' : Int) from by omega]; exact IntWalk.i64_in _ (by have := HXL.out; omega)
                  by_cases hpp : x - y < t.per
                  · have d7 : decide (x - y < t.per) = true := decide_eq_true hpp
                    have HRF := Lib.hid (show R = false by
                      rw [← HREL.out, HRD.out, all_range_false hil (by rw [hat, decide_eq_false (show ¬ t.per ≤ x - y by omega)]; simp)]; rfl)
                    clear hneg hat hgd hxi hgi hrow' hab hxb hyi hgy hpp HALL hyb
                    go_wp2_with fail
                    go_quiet (fail)
                    go_wp2_with fail
                    go_ret
                    rw [HRF.out]
                    exact ⟨rfl, HGI.out.drewN _⟩
                  · have d7 : decide (x - y < t.per) = false := decide_eq_false hpp
                    have HS1 := Lib.hid (show (List.range (i' + 1 + 1)).all (SL.okAt t.per r) = true by rw [range_all_succ, HALL.out, hat, decide_eq_true (show 0 ≤ x by omega), decide_eq_true (show t.per ≤ x - y by omega)]; simp)
                    clear hneg hat hgd hxi hgi hrow' hab hxb hyi hgy hpp HALL hyb
                    go_wp2_with fail
                    go_quiet (fail)
                    go_wp2_with fail
                    refine ⟨⟨i' + 1 + 1, qi + nq, hil, by simp, HS1.out, by rw [HWI.out, World.drewN_drewN]⟩, by simp [intOf]; omega⟩
            · have q5 : ¬ (i : Int) < (r.length : Int) := by omega
              have HN := Lib.hid (show SL.okRels (M.ts.drop (k + 1)) (M.rs.drop (k + 1)) = R by
                rw [← HREL.out, HRD.out, show r.length = i from by omega, HALL.out, Bool.true_and])
              clear hgi
              go_wp2_with fail
              refine ⟨⟨k + 1, qi, hlt, by simp, HN.out, HWI.out⟩, by simp [intOf]; omega⟩
      · have q0 : ¬ (k : Int) < (M.rs.length : Int) := by omega
        have HRT := Lib.hid (show R = true by rw [← hrel, List.drop_eq_nil_of_le (show M.rs.length ≤ k by omega)]; cases M.ts.drop k <;> rfl)
        clear hrel hgw
        go_wp2_with fail
        go_ret
        rw [HRT.out]
        exact ⟨rfl, HG.out⟩
  · have HRF := Lib.hid (show R = false by
      rw [hR, ← Bool.not_eq_true]
      intro h
      simp only [Bool.and_eq_true, decide_eq_true_eq] at h
      exact hok ⟨h.1.1.1.1, h.1.1.1.2, h.1.1.2, h.1.2⟩)
    have hcs : SL.okTs M.ts = false ∨ (SL.okTs M.ts = true ∧ (decide (cores < 1) = true ∨ (decide (cores < 1) = false ∧ (decide ((8 : Int) < cores) = true ∨ (decide ((8 : Int) < cores) = false ∧ ((M.rs.length : Int) != (M.ts.length : Int)) = true))))) := by
      cases ho : SL.okTs M.ts with
      | false => exact .inl rfl
      | true =>
        right
        rw [ho] at hok
        simp only [true_and] at hok
        refine ⟨rfl, ?_⟩
        simp only [decide_eq_true_eq, decide_eq_false_iff_not, bne_iff_ne, ne_eq]
        omega
    clear hok hR hrr hrow hr hx
    rcases hcs with ho | ⟨ho, d1 | ⟨d1, d2 | ⟨d2, d3⟩⟩⟩
    all_goals
      rw [ho] at HV
      clear h40 ho
      go_enter Try.func22, Try.ntmps22
      go_wp2_with fail
      refine HV.out.mono ?_
      rintro e w1 ⟨rfl, hb1⟩
      have HB1 := Lib.hid hb1
      clear hb1 HV
      go_wp2_with fail
      go_ret
      rw [HRF.out]
      exact ⟨rfl, HB1.out⟩
end
end Go.Proofs.Ytdlbokcndbbgnaa
