/- SlotsCheck: Check's error and misses are the reference's. -/
import Derived.Test.YtgfojgabobakdaaSlL
import Derived.Test.YtgfojgabobakdaaSlM
import Derived.Test.YtgfojgabobakdaaSlQ
import Derived.Test.YtgfojgabobakdaaSlP
import Derived.Test.YtgfojgabobakdaaSlW
import Derived.Test.YtgfojgabobakdaaSlX
import Derived.Test.YtgfojgabobakdaaSlY
import Derived.Deep.RegionHeld3
namespace Go.Proofs.Ytgfojgabobakdaa
open Go.RowKit Go.Maps Go.Sort Go.Lib
open SL (Tk Jb Ms Cd)
theorem okTs_mem {ts : List Tk} (h : SL.okTs ts = true) : ∀ t ∈ ts, SL.okTk t = true := SL.okTs_all h
theorem okRels_ge {ts : List Tk} {rs : List (List Int)} (h : SL.okRels ts rs = true) (hl : rs.length = ts.length) : ∀ r ∈ rs, ∀ x ∈ r, 0 ≤ x := by
  intro r hr x hx
  obtain ⟨i, hi⟩ := List.mem_iff_getElem?.1 hr
  have hlt := (List.getElem?_eq_some_iff.1 hi).1
  obtain ⟨t, ht⟩ : ∃ t, ts[i]? = some t := ⟨_, List.getElem?_eq_getElem (by omega)⟩
  obtain ⟨j, hj⟩ := List.mem_iff_getElem?.1 hx
  exact SL.okRel_at (SL.okRels_all h ht hi) hj
section
set_option maxHeartbeats 2000000
set_option maxRecDepth 100000
theorem check_walk (p : Pl) (A : Option Addr) (n c : Nat) (S : List (List Int)) (w : World) (hp : PlIn w p) (hSl : S.length = n) (hnm : n ≤ maxLen) (hSr : ∀ r ∈ S, r.length ≤ maxLen ∧ ∀ k ∈ r, i64ok k) (hS : RelV w (.slice A n c) S) :
    Calls Try.prog 6 #[.agg (plV p), .slice A n c] w fun e w' => e = .returned (.bool true) ∧ Below w.heap.size w w' := by
  have hnot : ∀ (x : Bool) (w : World), (Op.unary .not (.bool x)).run Try.prog w = .ok (.bool (!x)) w := fun _ _ => rfl
  have mixed : Try.prog.follows .mixedOrders = true := by kernel_rfl
  have hmx : maxLen = 9223372036854775807 := rfl
  subst hSl
  rw [hmx] at hnm
  obtain ⟨⟨ts, TA, tc, rs, rA, rc⟩, cores, untl⟩ := p
  have hb := (Below.refl w.heap.size w).alloc (Nat.le_refl _) (.cells (plV ⟨⟨ts, TA, tc, rs, rA, rc⟩, cores, untl⟩) 25)
  have hk := Blk.new w 25 (plV ⟨⟨ts, TA, tc, rs, rA, rc⟩, cores, untl⟩)
  have HB := Lib.hid hb
  have HK := Lib.hid hk
  have HPI := Lib.hid (hp.below hb)
  have HS := Lib.hid (hS.below hb)
  have HSR := Lib.hid (show ∀ r ∈ S, r.length ≤ maxLen from fun r hr => (hSr r hr).1)
  have HPV := Lib.hid (show plV ⟨⟨ts, TA, tc, rs, rA, rc⟩, cores, untl⟩ = #[.slice TA ts.length tc, .int .i64 cores, .slice rA rs.length rc, .int .i64 untl] from rfl)
  rw [HPV.out] at hk HB HPI HK HS ⊢
  clear hb hk hp hS hSr hmx
  go_enter Try.func6, Try.ntmps6
  go_wp2_with fail
  (with_reducible refine (awake_any _).mono ?_)
  rintro e w1 ⟨rfl, hb1⟩
  have HB1 := Lib.hid (HB.out.trans (hb1.mono HB.out.size))
  have HK1 := Lib.hid (HK.out.below hb1)
  have HPI1 := Lib.hid (HPI.out.below hb1)
  have HS1 := Lib.hid (HS.out.below hb1)
  have HGR := Lib.hid (great_any ⟨⟨ts, TA, tc, rs, rA, rc⟩, cores, untl⟩ w1 HPI1.out)
  rw [HPV.out] at HGR
  obtain ⟨b0, b1, b2, b3⟩ := HK1.out.four.1
  clear hb1 HS HPI HK
  have HGP := Lib.hid (fun h => great_parts (p := ⟨⟨ts, TA, tc, rs, rA, rc⟩, cores, untl⟩) h)
  generalize greatP ⟨⟨ts, TA, tc, rs, rA, rc⟩, cores, untl⟩ = G at *
  cases G with
  | true =>
    go_wp2_with fail
    (with_reducible refine HGR.out.mono ?_)
    rintro e w2 ⟨rfl, hb2⟩
    have HB2 := Lib.hid (HB1.out.trans (hb2.mono HB1.out.size))
    clear hb2 HGR
    go_wp2_with fail
    go_ret
    exact ⟨rfl, HB2.out⟩
  | false =>
    obtain ⟨g1, g2, g3, g4⟩ := HGP.out rfl
    simp only at g1 g2 g3 g4
    have HG3 := Lib.hid g3
    clear g3 g4
    go_wp2_with fail
    (with_reducible refine HGR.out.mono ?_)
    rintro e w2 ⟨rfl, hb2⟩
    have HB2 := Lib.hid (HB1.out.trans (hb2.mono HB1.out.size))
    have HK2 := Lib.hid (HK1.out.below hb2)
    have HPI2 := Lib.hid (HPI1.out.below hb2)
    have HS2 := Lib.hid (HS1.out.below hb2)
    obtain ⟨c0, c1, c2, c3⟩ := HK2.out.four.1
    clear hb2 HGR b0 b1 b2 b3 HGP
    by_cases hbig : 100 < S.length
    · have d1 : decide ((100 : Int) < (S.length : Int)) = true := by simp; omega
      go_wp2_with fail
      go_ret
      exact ⟨rfl, HB2.out⟩
    have d1 : decide ((100 : Int) < (S.length : Int)) = false := by simp; omega
    cases hv : SL.valid ts cores rs with
    | false =>
      have HCH := Lib.hid (checkS_bad ⟨ts, TA, tc, rs, rA, rc⟩ cores w2 HPI2.out.row HPI2.out.rel hv HPI2.out.lx HPI2.out.lr (.slice A S.length c))
      rw [show Mdl.tv ⟨ts, TA, tc, rs, rA, rc⟩ = .slice TA ts.length tc from rfl, show Mdl.rv ⟨ts, TA, tc, rs, rA, rc⟩ = .slice rA rs.length rc from rfl] at HCH
      have HV := Lib.hid hv
      clear hv hbig
      go_wp2_with fail
      (with_reducible refine HCH.out.mono ?_)
      rintro e w3 ⟨rfl, hb3⟩
      have HB3 := Lib.hid (HB2.out.trans (hb3.mono HB2.out.size))
      have HK3 := Lib.hid (HK2.out.below hb3)
      have HPI3 := Lib.hid (HPI2.out.below hb3)
      obtain ⟨k0, k1, k2, k3⟩ := HK3.out.four.1
      have HPL := Lib.hid (plain_any ts TA tc w3 HPI3.out.row (by omega))
      clear hb3 HCH c0 c1 c2 c3
      go_wp2_with fail
      (with_reducible refine HPL.out.mono ?_)
      rintro e w4 ⟨PA, pc, rfl, hpr, hb4⟩
      have HB4 := Lib.hid (HB3.out.trans (hb4.mono HB3.out.size))
      have HK4 := Lib.hid (HK3.out.below hb4)
      have HPI4 := Lib.hid (HPI3.out.below hb4)
      obtain ⟨l0, l1, l2, l3⟩ := HK4.out.four.1
      have HRV := Lib.hid (rvalid_any ts PA pc rs (.slice rA rs.length rc) cores w4 hpr HPI4.out.rel HPI4.out.lx)
      rw [HV.out] at HRV
      clear hb4 HPL k0 k1 k2 k3 hpr
      go_wp2_with fail
      (with_reducible refine HRV.out.mono ?_)
      rintro e w5 ⟨rfl, q, hw5⟩
      have HB5 := Lib.hid (show Below w.heap.size w w5 by rw [hw5]; exact below_drewN HB4.out q)
      clear hw5 HRV
      go_wp2_with fail
      go_ret
      exact ⟨rfl, HB5.out⟩
    | true =>
      have HCH := Lib.hid (checkS_any ⟨ts, TA, tc, rs, rA, rc⟩ cores w2 (mc_of HPI2.out hv) hv HPI2.out.lx HPI2.out.lr S A c HS2.out (by omega) HSR.out)
      rw [show Mdl.tv ⟨ts, TA, tc, rs, rA, rc⟩ = .slice TA ts.length tc from rfl, show Mdl.rv ⟨ts, TA, tc, rs, rA, rc⟩ = .slice rA rs.length rc from rfl] at HCH
      have hcs : SL.chkS (Mdl.ts ⟨ts, TA, tc, rs, rA, rc⟩) (Mdl.rs ⟨ts, TA, tc, rs, rA, rc⟩) cores S 0 (List.replicate (Mdl.ts ⟨ts, TA, tc, rs, rA, rc⟩).length SL.jb0) = _ := SL.chkS_all (S := S) hv
      rw [hcs] at HCH
      simp only at HCH
      have HV := Lib.hid hv
      obtain ⟨p1, p2, p3, p4, p5⟩ := val_parts hv
      have HOT := Lib.hid (SL.okTs_all p1)
      have HRG := Lib.hid (okRels_ge p5 p4)
      have HRLL := Lib.hid p4
      have HML := Lib.hid (show (SL.missL ts rs S (S.length + 1)).length ≤ 16160 from by
        have h1 := SL.missL_len S HG3.out (S.length + 1) (ts := ts)
        have h2 : (S.length + 1) * (ts.length * 20) ≤ 101 * (8 * 20) := Nat.mul_le_mul (by omega) (Nat.mul_le_mul g1 (Nat.le_refl _))
        omega)
      clear hv p1 p2 p3 p4 p5 hcs
      generalize hF : SL.chkR ts rs S cores S 0 = F at *
      have HF := Lib.hid hF
      generalize hQ : (if F = 0 then SL.missL ts rs S (S.length + 1) else []) = Q at *
      have HQ := Lib.hid hQ
      clear hF hQ
      go_wp2_with fail
      (with_reducible refine HCH.out.mono ?_)
      rintro e w3 ⟨v, rfl, how, hb3⟩
      obtain ⟨mA, mc, rfl⟩ := own_slice how
      have HRM := Lib.hid (row_own how)
      have HB3 := Lib.hid (HB2.out.trans (hb3.mono HB2.out.size))
      have HK3 := Lib.hid (HK2.out.below hb3)
      have HPI3 := Lib.hid (HPI2.out.below hb3)
      have HS3 := Lib.hid (HS2.out.below hb3)
      obtain ⟨k0, k1, k2, k3⟩ := HK3.out.four.1
      have HPL := Lib.hid (plain_any ts TA tc w3 HPI3.out.row (by omega))
      clear hb3 HCH c0 c1 c2 c3 how
      go_wp2_with fail
      (with_reducible refine HPL.out.mono ?_)
      rintro e w4 ⟨PA, pc, rfl, hpr, hb4⟩
      have HB4 := Lib.hid (HB3.out.trans (hb4.mono HB3.out.size))
      have HK4 := Lib.hid (HK3.out.below hb4)
      have HPI4 := Lib.hid (HPI3.out.below hb4)
      have HS4 := Lib.hid (HS3.out.below hb4)
      have HRM4 := Lib.hid (HRM.out.below hb4)
      have HPR := Lib.hid hpr
      obtain ⟨l0, l1, l2, l3⟩ := HK4.out.four.1
      have HRV := Lib.hid (rvalid_any ts PA pc rs (.slice rA rs.length rc) cores w4 hpr HPI4.out.rel HPI4.out.lx)
      rw [HV.out] at HRV
      clear hb4 HPL k0 k1 k2 k3 hpr
      go_wp2_with fail
      (with_reducible refine HRV.out.mono ?_)
      rintro e w5 ⟨rfl, q, hw5⟩
      have hb5 : Below w4.heap.size w4 w5 := by rw [hw5]; exact below_drewN (Below.refl _ _) q
      have HB5 := Lib.hid (HB4.out.trans (hb5.mono HB4.out.size))
      have HK5 := Lib.hid (HK4.out.below hb5)
      have HPI5 := Lib.hid (HPI4.out.below hb5)
      have HS5 := Lib.hid (HS4.out.below hb5)
      have HRM5 := Lib.hid (HRM4.out.below hb5)
      have HPR5 := Lib.hid (HPR.out.below hb5)
      obtain ⟨m0, m1, m2, m3⟩ := HK5.out.four.1
      have HRC := Lib.hid (rcheck_any ts PA pc rs rA rc S A S.length c cores w5 HPR5.out HOT.out g1 HPI5.out.rel HRLL.out HG3.out HRG.out HS5.out (by omega) HSR.out)
      rw [HF.out] at HRC
      clear hw5 hb5 HRV l0 l1 l2 l3
      go_wp2_with fail
      (with_reducible refine HRC.out.mono ?_)
      rintro e w6 ⟨rfl, hg6⟩
      have hb6 := hg6.1
      have HB6 := Lib.hid (HB5.out.trans (hb6.mono HB5.out.size))
      have HK6 := Lib.hid (HK5.out.below hb6)
      have HPI6 := Lib.hid (HPI5.out.below hb6)
      have HS6 := Lib.hid (HS5.out.below hb6)
      have HRM6 := Lib.hid (HRM5.out.below hb6)
      have HPR6 := Lib.hid (HPR5.out.below hb6)
      obtain ⟨n0, n1, n2, n3⟩ := HK6.out.four.1
      clear hg6 hb6 HRC m0 m1 m2 m3
      by_cases hF0 : F = 0
      · have hq := HQ.out
        subst hF0
        rw [if_pos rfl] at hq
        subst hq
        have e1 : (((0 : Nat) : Int) != 0) = false := by simp
        have HM1 := Lib.hid (fun (W : World) (h : Below w6.heap.size w6 W) => misses_any (SL.missL ts rs S (S.length + 1)) mA mc W (HRM6.out.below h) (by have := HML.out; omega))
        have HM2 := Lib.hid (fun (W : World) (h : Below w6.heap.size w6 W) => rmisses_any ts PA pc rs rA rc S A S.length c W (HPR6.out.below h) HOT.out g1 (HPI6.out.rel.below h) HRLL.out HG3.out (fun r hr x hx => ⟨HRG.out r hr x hx, (HPI6.out.lx r hr).2 x hx⟩) (HS6.out.below h) (by omega) HSR.out)
        generalize SL.missL ts rs S (S.length + 1) = L at *
        have HSA := Lib.hid (fun (A1 A2 : Option Addr) (c1 c2 : Nat) (W : World) (h1 : Row W A1 (msC L)) (h2 : Row W A2 (msC L)) => same_any L A1 A2 c1 c2 W h1 h2 (by have := HML.out; have hmx : maxLen = 9223372036854775807 := rfl; omega))
        have hlt6 : w.heap.size < w6.heap.size := HK6.out.lt
        have HN2 := Lib.hid n2
        have HD := Lib.hid (show Below w6.heap.size w6 w6.drew from (Below.refl _ _).drew)
        clear HPV HRM HRM4 HRM5 HRM6 HPI1 HPI2 HPI3 HPI4 HPI5 HB1 HB2 HB3 HB4 HB5 HK1 HK2 HK3 HK4 HK5 HS1 HS2 HS3 HS4 HS5 HPR HPR5 HQ HF
        go_wp2_with fail
        go_region_held3 (fun W => W.cell? ⟨w.heap.size, 2, none⟩ = some (.slice rA rs.length rc))
          (first | exact HN2.out | exact (HB9.out.cell (p := ⟨w.heap.size, 2, none⟩) hlt6).trans HN2.out | exact (HBr.out.cell (p := ⟨w.heap.size, 2, none⟩) hlt6).trans HN2.out | exact (HBm.out.cell (p := ⟨w.heap.size, 2, none⟩) hlt6).trans HN2.out)
          (first
            | (go_at_call 16; (first | (with_reducible refine (HM1.out _ HBr.out).mono ?_) | (with_reducible refine (HM1.out _ HD.out).mono ?_)); rintro e wm ⟨mA2, mc2, rfl, hrm, hbm⟩; (first | (have HBm := Lib.hid (HBr.out.trans (hbm.mono HBr.out.size)); have HRr2 := Lib.hid (HRr.out.below hbm)) | (have HBm := Lib.hid (HD.out.trans (hbm.mono HD.out.size)))); have HRm := Lib.hid hrm; clear hrm hbm)
            | (go_at_call 17; (first | (with_reducible refine (HM2.out _ HBm.out).mono ?_) | (with_reducible refine (HM2.out _ HD.out).mono ?_)); rintro e wr ⟨rA2, rc2, rfl, hrr, hbr⟩; (first | (have HBr := Lib.hid (HBm.out.trans (hbr.mono HBm.out.size)); have HRm2 := Lib.hid (HRm.out.below hbr)) | (have HBr := Lib.hid (HD.out.trans (hbr.mono HD.out.size)))); have HRr := Lib.hid hrr; clear hrr hbr)
            | (go_at_call 15; (first | (with_reducible refine (HSA.out _ _ _ _ _ HRm2.out HRr.out).mono ?_) | (with_reducible refine (HSA.out _ _ _ _ _ HRm.out HRr2.out).mono ?_)); rintro e w9 ⟨rfl, q9, hw9⟩; (first | (have HB9 := Lib.hid (show Below w6.heap.size w6 w9 by rw [hw9]; exact below_drewN HBr.out q9)) | (have HB9 := Lib.hid (show Below w6.heap.size w6 w9 by rw [hw9]; exact below_drewN HBm.out q9))); clear hw9))
        all_goals
          go_wp2_with fail
          go_ret
          exact ⟨rfl, HB6.out.trans (HB9.out.mono HB6.out.size)⟩
      · have hq := HQ.out
        rw [if_neg hF0] at hq
        subst hq
        have e1 : ((F : Int) != 0) = true := by simp; omega
        have e2 : ((F : Int) == (F : Int)) = true := by simp
        clear HRM6 HRM5 HRM4 HRM
        go_wp2_with fail
        go_ret
        exact ⟨rfl, HB6.out⟩
end
end Go.Proofs.Ytgfojgabobakdaa
