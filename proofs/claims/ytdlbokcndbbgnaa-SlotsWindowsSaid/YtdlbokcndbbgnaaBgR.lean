/- Whether the load of tasks fits the cores: taskset.Fits. -/
import Derived.Test.YtdlbokcndbbgnaaBgQ
import Derived.Test.YtdlbokcndbbgnaaPlainFit2
import Derived.Deep.RegionHeld3
import Derived.ProofKit
namespace Go.Proofs.Ytdlbokcndbbgnaa
open Go.RowKit Go.Maps
open SL (Tk)
open PD (fitsP ldF)
open BG (val dig)
theorem cmpI_le {x y : Int} : cmpI x y ≤ 0 ↔ x ≤ y := by
  unfold cmpI
  split
  · omega
  · split <;> omega
theorem FitR.cmp {l : List Tk} {k N D N' D' M : Nat} (h : FitR l k N D) (hk : l.length ≤ k) (hD : 0 < D) (e1 : N' = M * D') (e2 : D' ≤ 1) (e3 : 0 < D') : decide (cmpI ((N : Int) * (D' : Int)) ((N' : Int) * (D : Int)) ≤ 0) = true ↔ fitsP l M := by
  obtain rfl : D' = 1 := by omega
  rw [decide_eq_true_eq, cmpI_le, h.fits hk hD, e1, Nat.mul_one, ← Int.natCast_mul, ← Int.natCast_mul, Int.ofNat_le, Nat.mul_one]
theorem okTs_rows {l : List Tk} (h : SL.okTs l = true) : l.length ≤ 40 ∧ ∀ t ∈ l, 1 ≤ t.cost ∧ t.cost ≤ t.per ∧ t.per ≤ 1000 := by
  unfold SL.okTs at h
  rw [Bool.and_eq_true, decide_eq_true_eq, List.all_eq_true] at h
  exact ⟨h.1, fun t ht => SL.okTk_iff.1 (h.2 t ht)⟩
/-- The load at the loop's head. -/
def LdAt (w wr : World) (g : Nat) (l : List Tk) (k : Nat) : Prop := ∃ (N D : Nat) (b1 : Bool) (A1 : Option Addr) (n1 c1 : Nat) (b2 : Bool) (A2 : Option Addr) (n2 c2 : Nat), Blk wr g tR #[.bool b1, .slice A1 n1 c1, .bool b2, .slice A2 n2 c2] ∧ RT wr (.agg #[.bool b1, .slice A1 n1 c1, .bool b2, .slice A2 n2 c2]) N D ∧ FitR l k N D ∧ Below w.heap.size w wr
theorem LdAt.set {w W : World} {g : Nat} {l : List Tk} {k N D : Nat} {b1 : Bool} {A1 : Option Addr} {n1 c1 : Nat} {b2 : Bool} {A2 : Option Addr} {n2 c2 : Nat} {a b c d : Value} (hB : Blk W g tR #[a, b, c, d]) (hR : RT W (.agg #[.bool b1, .slice A1 n1 c1, .bool b2, .slice A2 n2 c2]) N D) (hF : FitR l k N D) (hb : Below w.heap.size w W) (hg : w.heap.size ≤ g) :
    LdAt w ((((W.setCell ⟨g, 0, none⟩ (.bool b1)).setCell ⟨g, 1, none⟩ (.slice A1 n1 c1)).setCell ⟨g, 2, none⟩ (.bool b2)).setCell ⟨g, 3, none⟩ (.slice A2 n2 c2)) g l k := by
  have h1 := hB.set_ 0 (.bool b1)
  have h2 := h1.set_ 1 (.slice A1 n1 c1)
  have h3 := h2.set_ 2 (.bool b2)
  have h4 := h3.set_ 3 (.slice A2 n2 c2)
  have f1 := (FxT.refl [tR] W).set hB (by simp) 0 (.bool b1)
  have f2 := f1.set h1 (by simp) 1 (.slice A1 n1 c1)
  have f3 := f2.set h2 (by simp) 2 (.bool b2)
  have f4 := f3.set h3 (by simp) 3 (.slice A2 n2 c2)
  exact ⟨N, D, b1, A1, n1, c1, b2, A2, n2, c2, h4, hR.fx f4 (by decide), hF, (((hb.setCell hg _).setCell hg _).setCell hg _).setCell hg _⟩
theorem cells4_drew {w : World} {g : Nat} {a b c d : Option Value} (k : w.cell? ⟨g, 0, none⟩ = a ∧ w.cell? ⟨g, 1, none⟩ = b ∧ w.cell? ⟨g, 2, none⟩ = c ∧ w.cell? ⟨g, 3, none⟩ = d) : w.drew.cell? ⟨g, 0, none⟩ = a ∧ w.drew.cell? ⟨g, 1, none⟩ = b ∧ w.drew.cell? ⟨g, 2, none⟩ = c ∧ w.drew.cell? ⟨g, 3, none⟩ = d := k
section
set_option maxHeartbeats 4000000
set_option maxRecDepth 100000
theorem fits_any (l : List Tk) (M : Nat) (hM : M ≤ 9223372036854775807) (hM2 : M < BG.B ^ 200) (A : Option Addr) (n c : Nat) (w : World) (hN : l.length = n) (hr : Row w A (tkRow l)) :
    Calls Try.prog 7 #[.slice A n c, .int .i64 (M : Int)] w fun e w' => ∃ b, e = .returned (.bool b) ∧ (b = true ↔ SL.okTs l = true ∧ fitsP l M) ∧ Below w.heap.size w w' := by
  have HTV := Lib.hid (tsvalid_any l A n c w hN hr)
  have HO := Lib.hid (fun W => rof_any 0 (by omega) W)
  have HOM := Lib.hid (fun W => rof_any M hM W)
  have HM2 := Lib.hid hM2
  have HN := Lib.hid hN
  have HR := Lib.hid hr
  clear hN hr hM2
  go_enter Try.func7, Try.ntmps7
  go_wp2_with fail
  refine HTV.out.mono ?_
  rintro e w1 ⟨rfl, hw1⟩
  have HG1 := Lib.hid hw1.1
  have HOK := Lib.hid (rfl : SL.okTs l = SL.okTs l)
  cases hv : SL.okTs l with
  | false =>
    have HVF := Lib.hid hv
    clear HTV hw1 hv
    go_wp2_with fail
    go_ret
    exact ⟨false, rfl, by rw [HVF.out]; simp, HG1.out⟩
  | true =>
    have HVO := Lib.hid hv
    have HV2 := Lib.hid (okTs_rows hv)
    clear HTV hw1 hv
    go_wp2_with fail
    refine (HO.out w1).mono ?_
    rintro e w2 ⟨v2, N, D, rfl, hv2, h1, h2, h3, hb2⟩
    obtain ⟨b1, A1, n1, c1, b2, A2, n2, c2, rfl⟩ := hv2.agg
    have HLD := Lib.hid (show LdAt w (w2.alloc (.cells #[.bool b1, .slice A1 n1 c1, .bool b2, .slice A2 n2 c2] tR)) w2.heap.size l 0 from ⟨N, D, b1, A1, n1, c1, b2, A2, n2, c2, Blk.new w2 tR _, hv2.below ((Below.refl w2.heap.size w2).alloc (Nat.le_refl _) _), FitR.zero h1 h3, (HG1.out.trans (hb2.mono HG1.out.size)).alloc (Nat.le_trans HG1.out.size hb2.size) _⟩)
    have HSZ := Lib.hid (show w.heap.size ≤ w2.heap.size from Nat.le_trans HG1.out.size hb2.size)
    clear h1 h2 h3 hb2 hv2
    go_upto_region 4 with fail
    generalize hw3 : w2.alloc (.cells #[.bool b1, .slice A1 n1 c1, .bool b2, .slice A2 n2 c2] _) = w3
    rw [show w2.alloc (.cells #[.bool b1, .slice A1 n1 c1, .bool b2, .slice A2 n2 c2] tR) = w3 from hw3] at HLD
    clear hw3
    generalize w2.heap.size = g at *
    go_wp2_with fail
    go_loopw [16] (fun v wr => ∃ k : Nat, k ≤ n ∧ v = .int .i64 (k : Int) ∧ LdAt w wr g l k) (fun v _ => n - (intOf v).toNat)
    case atStart => exact ⟨0, Nat.zero_le _, rfl, HLD.out⟩
    case round =>
      obtain ⟨k, hk, rfl, hld⟩ := hrel
      obtain ⟨N, D, d1, E1, m1, e1, d2, E2, m2, e2, hB, hRT, hF, hbw⟩ := hld
      have HB := Lib.hid hB
      have HRT := Lib.hid hRT
      have HF := Lib.hid hF
      have HBW := Lib.hid hbw
      by_cases hlt : k < n
      · obtain ⟨t, ht⟩ : ∃ t, l[k]? = some t := ⟨_, List.getElem?_eq_getElem (by rw [HN.out]; exact hlt)⟩
        obtain ⟨v1, v2, v3⟩ := HV2.out.2 t (List.mem_of_getElem? ht)
        obtain ⟨rb, ro, rfl, hrb, c0, c1, c2⟩ := (HR.out.below hbw).tk ht
        have q0 : (k : Int) < (n : Int) := by omega
        have htk : l.take (k + 1) = l.take k ++ [t] := by
          obtain ⟨h1, h2⟩ := List.getElem?_eq_some_iff.1 ht
          rw [List.take_succ_eq_append_getElem h1, h2]
        have HTK := Lib.hid htk
        obtain ⟨a, ha⟩ := Int.eq_ofNat_of_zero_le (show (0 : Int) ≤ t.cost by omega)
        obtain ⟨p, hp⟩ := Int.eq_ofNat_of_zero_le (show (0 : Int) ≤ t.per by omega)
        rw [ha] at c1
        rw [hp] at c2
        have HA := Lib.hid (show t.cost = (a : Int) ∧ t.per = (p : Int) ∧ a ≤ p ∧ 0 < p ∧ p ≤ 1000 from ⟨ha, hp, by omega, by omega, by omega⟩)
        have HFR := Lib.hid (fun W => frac_any a p (by omega) (by omega) (by omega) W)
        have HK40 := Lib.hid (show k ≤ 40 by have := HV2.out.1; have := HN.out; omega)
        clear ha hp htk ht v1 v2 v3 hB hRT hF
        go_wp2_with fail
        refine (HFR.out _).mono ?_
        rintro e w4 ⟨v', N', D', rfl, hv', f1, f2, f3, hb4⟩
        obtain ⟨d1', E1', m1', e1', d2', E2', m2', e2', rfl⟩ := hv'.agg
        have HV' := Lib.hid hv'
        have HP' := Lib.hid hv'.pos
        have HF3 := Lib.hid (show N' * p = a * D' ∧ N' ≤ a ∧ D' ≤ p from ⟨f1, f2, f3⟩)
        have hb4' := below_unalloc hb4
        have HB4 := Lib.hid (HB.out.below hb4')
        have HRT4 := Lib.hid (HRT.out.below hb4')
        have HBW4 := Lib.hid (HBW.out.trans (hb4'.mono HBW.out.size))
        clear hv' f1 f2 f3 hb4 hb4' c0 c1 c2 hrb
        go_upto_region 8 with fail
        have HB5 := Lib.hid (HB4.out.alloc (.cells #[.bool d1', .slice E1' m1' e1', .bool d2', .slice E2' m2' e2'] tR))
        have HX5 := Lib.hid (Blk.new w4 tR #[.bool d1', .slice E1' m1' e1', .bool d2', .slice E2' m2' e2'])
        have hal := (Below.refl w4.heap.size w4).alloc (Nat.le_refl _) (.cells #[.bool d1', .slice E1' m1' e1', .bool d2', .slice E2' m2' e2'] tR)
        have HRT5 := Lib.hid (HRT4.out.below hal)
        have HV5 := Lib.hid (HV'.out.below hal)
        have HBW5 := Lib.hid (HBW4.out.trans (hal.mono HBW4.out.size))
        clear hal
        generalize hw5 : w4.alloc (.cells #[.bool d1', .slice E1' m1' e1', .bool d2', .slice E2' m2' e2'] _) = w5
        rw [show w4.alloc (.cells #[.bool d1', .slice E1' m1' e1', .bool d2', .slice E2' m2' e2'] tR) = w5 from hw5] at HB5 HX5 HRT5 HV5 HBW5
        clear hw5
        generalize w4.heap.size = g8 at *
        obtain ⟨c0, c1, c2, c3⟩ := HB5.out.four.1
        obtain ⟨x0, x1, x2, x3⟩ := HX5.out.four.1
        go_wp2_with fail
        have HBD := Lib.hid (HF.out.lt HK40.out)
        have hA := HA.out
        have hF3 := HF3.out
        refine (radd_any _ _ N D N' D' w5 HRT5.out HV5.out ⟨HBD.out.1, HBD.out.2, Nat.lt_of_le_of_lt hF3.2.1 (Nat.lt_of_le_of_lt (show a ≤ 1000 by omega) fit_small), Nat.lt_of_le_of_lt hF3.2.2 (Nat.lt_of_le_of_lt (show p ≤ 1000 by omega) fit_small)⟩).mono ?_
        rintro e w6 ⟨v6, N1, D1, rfl, hv6, g1, g2, g3, hb6⟩
        obtain ⟨d1, E1, m1, e1, d2, E2, m2, e2, rfl⟩ := hv6.agg
        have HB6 := Lib.hid (HB5.out.below hb6)
        have HF6 := Lib.hid (HF.out.step HTK.out hA.1 hA.2.1 hA.2.2.1 hA.2.2.2.1 hA.2.2.2.2 HRT5.out.pos HP'.out hF3.1 hF3.2.1 hF3.2.2 g1 g2 g3)
        have HBW6 := Lib.hid (HBW5.out.trans (hb6.mono HBW5.out.size))
        have HL6 := Lib.hid (LdAt.set HB6.out hv6 HF6.out HBW6.out HSZ.out)
        obtain ⟨⟨y0, y1, y2, y3⟩, z0, z1, z2, z3⟩ := HB6.out.four
        have hk40 := HK40.out
        clear hA hF3 hv6 g1 g2 g3 hb6 c0 c1 c2 c3 x0 x1 x2 x3
        go_wp2_with fail
        exact ⟨⟨k + 1, hlt, by simp, HL6.out⟩, by simp [intOf]; omega⟩
      · have q1 : ¬ (k : Int) < (n : Int) := by omega
        have HP := Lib.hid hRT.pos
        have HKL := Lib.hid (show l.length ≤ k by rw [HN.out]; omega)
        have HBD := Lib.hid (hF.lt (by have := HV2.out.1; have := HN.out; omega))
        have C4 := HB.out.four.1
        obtain ⟨x0, x1, x2, x3⟩ := C4
        clear hB hRT hF hbw hk
        go_upto_region 12 with fail
        go_region_held3 (fun V => V.cell? ⟨g, 0, none⟩ = some (.bool d1) ∧ V.cell? ⟨g, 1, none⟩ = some (.slice E1 m1 e1) ∧ V.cell? ⟨g, 2, none⟩ = some (.bool d2) ∧ V.cell? ⟨g, 3, none⟩ = some (.slice E2 m2 e2)) (first | (with_reducible exact ⟨x0, x1, x2, x3⟩) | (with_reducible exact HB.out.four.1) | (with_reducible exact cells4_drew HB.out.four.1) | fail) (first | (go_at_call 16; (with_reducible refine (HOM.out _).mono ?_); rintro e V' ⟨v', N', D', rfl, hv', f1, f2, f3, hb'⟩; have hb : Below _ _ V' := (by first | (with_reducible exact below_undrew hb') | (with_reducible exact hb')); have HB := Lib.hid (HB.out.below hb); have HRT := Lib.hid (HRT.out.below hb); have HBW := Lib.hid (HBW.out.trans (hb.mono HBW.out.size)); have C4 := HB.out.four.1; obtain ⟨x0, x1, x2, x3⟩ := C4; have HV := Lib.hid hv'; have HP' := Lib.hid hv'.pos; have HF3 := Lib.hid (show N' = M * D' ∧ N' ≤ M ∧ D' ≤ 1 from ⟨f1, f2, f3⟩); clear f1 f2 f3) | (go_at_call 19; (with_reducible refine (rcmp_any _ _ N D _ _ _ HRT.out HV.out ⟨HBD.out.1, HBD.out.2, Nat.lt_of_le_of_lt HF3.out.2.1 HM2.out, Nat.lt_of_le_of_lt (Nat.le_trans HF3.out.2.2 (by decide)) fit_small⟩).mono ?_); rintro e V' ⟨rfl, hb'⟩; have hb : Below _ _ V' := (by first | (with_reducible exact below_undrew hb') | (with_reducible exact hb')); have HB := Lib.hid (HB.out.below hb); have HRT := Lib.hid (HRT.out.below hb); have HBW := Lib.hid (HBW.out.trans (hb.mono HBW.out.size)); have C4 := HB.out.four.1; obtain ⟨x0, x1, x2, x3⟩ := C4) | fail)
        go_wp2_with fail
        go_ret
        exact ⟨_, rfl, (by rw [HF.out.cmp HKL.out HP.out HF3.out.1 HF3.out.2.2 HP'.out]; exact ⟨fun h => ⟨HVO.out, h⟩, fun h => h.2⟩), HBW.out⟩
end
end Go.Proofs.Ytdlbokcndbbgnaa
