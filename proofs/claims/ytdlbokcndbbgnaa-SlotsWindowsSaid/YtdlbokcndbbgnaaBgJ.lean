/- Numbers as digits in memory: long division. -/
import Derived.Test.YtdlbokcndbbgnaaBgI
import Derived.Test.YtdlbokcndbbgnaaShelf
namespace Go.Proofs.Ytdlbokcndbbgnaa
open Go.RowKit Go.Maps Go.Sort
open BG (val dig)
theorem pow_norm {y m a s : Nat} (t1 : a * BG.B ^ m ≤ y) (t2 : y < (a + 1) * BG.B ^ m) (h1 : 2147483648 ≤ a * 2 ^ s) (h2 : a * 2 ^ s < 4294967296) (hs : s ≤ 31) : 2147483648 * BG.B ^ m ≤ y * 2 ^ s ∧ y * 2 ^ s < BG.B ^ (m + 1) := by
  constructor
  · have h3 := Nat.mul_le_mul_right (2 ^ s) t1
    have h4 := Nat.mul_le_mul_right (BG.B ^ m) h1
    have e : a * 2 ^ s * BG.B ^ m = a * BG.B ^ m * 2 ^ s := by rw [Nat.mul_assoc, Nat.mul_comm (2 ^ s), ← Nat.mul_assoc]
    omega
  · have h3 : (a + 1) * 2 ^ s ≤ 4294967296 := by
      -- 2 ^ s divides 2 ^ 32
      have e : 2 ^ (32 - s) * 2 ^ s = 4294967296 := by rw [← Nat.pow_add, show 32 - s + s = 32 by omega]
      have h5 : a < 2 ^ (32 - s) := by
        refine Nat.lt_of_mul_lt_mul_right (a := 2 ^ s) ?_
        rw [e]; exact h2
      rw [← e]
      exact Nat.mul_le_mul_right _ h5
    have h4 := Nat.mul_lt_mul_of_pos_right t2 (show 0 < 2 ^ s from Nat.pow_pos (by omega))
    have e : (a + 1) * BG.B ^ m * 2 ^ s = (a + 1) * 2 ^ s * BG.B ^ m := by rw [Nat.mul_assoc, Nat.mul_comm (BG.B ^ m), ← Nat.mul_assoc]
    have h6 := Nat.mul_le_mul_right (BG.B ^ m) h3
    rw [Nat.pow_succ, Nat.mul_comm (BG.B ^ m), show BG.B = 4294967296 from rfl] at *
    omega
theorem win_tail {R R' : List Nat} {j k : Nat} (h : Win R R' j k) (hs : val ((R.drop j).take k) = val (R.drop j)) : val (R'.drop j) = val ((R'.drop j).take k) ∧ R'.take j = R.take j := by
  constructor
  · by_cases hk : k ≤ (R'.drop j).length
    · have h1 := BG.val_split (R'.drop j) k hk
      have hk2 : k ≤ (R.drop j).length := by rw [List.length_drop, ← h.len, ← List.length_drop]; exact hk
      have h2 := BG.val_split (R.drop j) k hk2
      have h3 : (R'.drop j).drop k = (R.drop j).drop k := by
        rw [List.drop_drop, List.drop_drop]
        refine List.ext_getElem? fun i => ?_
        rw [List.getElem?_drop, List.getElem?_drop]
        exact h.out _ (by omega)
      have h4 : BG.B ^ k * val ((R.drop j).drop k) = 0 := by omega
      rw [h3, h4, Nat.add_zero] at h1
      exact h1
    · rw [BG.val_take_end (by omega)]
  · refine List.ext_getElem? fun i => ?_
    rw [List.getElem?_take, List.getElem?_take]
    split
    · exact h.out i (by omega)
    · rfl
section
set_option maxHeartbeats 16000000
set_option maxRecDepth 100000
theorem div_long_case (x y : Nat) (hle : y ≤ x) (A A' : Option Addr) (n c n' c' : Nat) (w : World) (hN : (dig x).length = n) (hN' : (dig y).length = n') (hn2 : 2 ≤ n') (hr : DG w A (dig x)) (hr' : DG w A' (dig y)) (hl : n ≤ 10000) :
    Calls Try.prog 76 #[.slice A n c, .slice A' n' c'] w fun e w' => DvR w w' (x / y) (x % y) e := by
  have hnn : n' ≤ n := by
    rw [← hN, ← hN', BG.dig_len_iff]
    have := BG.val_lt (BG.ok_dig x)
    rw [BG.val_dig] at this
    omega
  have HCM := Lib.hid (compare_any x y A A' n c n' c' w hN hN' hr hr' (by omega) (by omega))
  have hcm : ¬ cmpN x y < 0 := by unfold cmpN; rw [if_neg (by omega)]; split <;> omega
  obtain ⟨m, hm⟩ : ∃ m, n' = m + 1 := ⟨n' - 1, by omega⟩
  obtain ⟨a, ha⟩ : ∃ a, (dig y)[m]? = some a := ⟨_, List.getElem?_eq_getElem (by omega)⟩
  obtain ⟨t1, t2, t3⟩ := top_bounds (hN'.trans hm) ha
  have haB := BG.ok_at (BG.ok_dig y) ha
  have hB : BG.B = 4294967296 := rfl
  rw [hB] at haB
  obtain ⟨s, hs, hs1, hs2, hs3⟩ := lead32 t3 haB
  obtain ⟨hV1, hV2⟩ := pow_norm t1 t2 hs2 hs3 hs
  obtain ⟨g0, o0, rfl, hg0, c0⟩ := dg_at hr' ha
  have HLZ := Lib.hid (fun W => Try.bits_LeadingZeros32 (a : Int) W (by omega) (by omega))
  have HSB := Lib.hid (fun (W : World) (h : DG W (some ⟨g0, o0, none⟩) (dig y)) => shifted_any y s hs (some ⟨g0, o0, none⟩) n' c' W hN' h (by omega))
  have HSA := Lib.hid (fun (W : World) (h : DG W A (dig x)) => shifted_any x s hs A n c W hN h (by omega))
  have hs4 : (32 : Int) - (Lib.bitLen (a : Int).toNat : Int) = (s : Int) := hs1
  rw [hs4] at HLZ
  have z0 : IntKind.i64.wrap ((n' : Int) - 1) = (m : Int) := by rw [show (n' : Int) - 1 = (m : Int) by omega]; exact IntWalk.i64_in _ (by omega)
  have q0 : (m : Int) < (n' : Int) := by omega
  have q1 : ((n' : Int) == 1) = false := by simp; omega
  have q2 : (n' : Int) ≤ (n' : Int) + 1 := by omega
  obtain ⟨cnt, hcnt⟩ : ∃ k, k = n - n' + 1 := ⟨_, rfl⟩
  have z1 : IntKind.i64.wrap ((n : Int) - (n' : Int)) = (n : Int) - (n' : Int) := IntWalk.i64_in _ (by omega)
  have z2 : IntKind.i64.wrap ((n : Int) - (n' : Int) + 1) = (cnt : Int) := by rw [show (n : Int) - (n' : Int) + 1 = (cnt : Int) by omega]; exact IntWalk.i64_in _ (by omega)
  have hmk : ∀ W : World, (Instr.makeSlice 48 (.int .i64 (cnt : Int)) (.int .i64 (cnt : Int))).run Try.prog W = .ok (.slice (some ⟨W.heap.size, 0, none⟩) cnt cnt) (W.alloc (.cells (dgC (List.replicate cnt 0)) 104)) := fun W => make_u32 cnt (by omega) W
  have HVV := Lib.hid (And.intro hV1 hV2)
  have HM := Lib.hid hm
  have HR := Lib.hid hr
  have HR' := Lib.hid hr'
  have HNN := Lib.hid (And.intro hN hN')
  have HCN := Lib.hid hcnt
  have HLE := Lib.hid hle
  have HS := Lib.hid hs
  have HY0 := Lib.hid (show 0 < y by
    refine Nat.pos_of_ne_zero fun h => ?_
    rw [h, BG.dig_zero] at hN'
    simp at hN'
    omega)
  generalize cmpN x y = cv at *
  clear hN hN' hr hr' ha t1 t2 t3 hs1 hs2 hs3 hs4 hV1 hV2 hle hm hcnt
  go_enter Try.func76, Try.ntmps76
  go_wp2_with fail
  refine HCM.out.mono ?_
  rintro e w1 ⟨rfl, q, rfl⟩
  have c1 : (w.drewN q).cell? ⟨g0, o0 + m, none⟩ = some (.int .u32 (a : Int)) := c0
  have HB1 := Lib.hid (show Below w.heap.size w (w.drewN q) from below_drewN (Below.refl _ _) q)
  have HSB1 := Lib.hid (HSB.out (w.drewN q) (HR'.out.below HB1.out))
  have HRX1 := Lib.hid (HR.out.below HB1.out)
  have HL1 := Lib.hid (HLZ.out (w.drewN q))
  clear c0 HCM HLZ HSB HR HR'
  generalize w.drewN q = w1 at *
  go_wp2_with fail
  refine HL1.out.mono ?_
  rintro e w2 ⟨rfl, rfl⟩
  clear c1 HL1
  go_wp2_with fail
  refine HSB1.out.mono ?_
  rintro e w3 ⟨gb, Bs, rfl, hgb, hbb, hbl, hbo, hbv, hb3⟩
  have HBB := Lib.hid hbb
  have HBL := Lib.hid hbl
  have HBO := Lib.hid hbo
  have HBV := Lib.hid hbv
  have HB3 := Lib.hid (HB1.out.trans (hb3.mono HB1.out.size))
  have HSA3 := Lib.hid (HSA.out w3 (HRX1.out.below hb3))
  have hgbl := hbb.lt
  clear hbb hbl hbo hbv hb3 HSB1 HSA HRX1
  go_wp2_with fail
  refine HSA3.out.mono ?_
  rintro e w4 ⟨gr, Rs, rfl, hgr, hrb, hrl, hro, hrv, hb4⟩
  have HRB := Lib.hid hrb
  have HRL := Lib.hid hrl
  have HRO := Lib.hid hro
  have HRV := Lib.hid hrv
  have HB4 := Lib.hid (HB3.out.trans (hb4.mono HB3.out.size))
  have HBB4 := Lib.hid (HBB.out.below hb4)
  have hne : gb ≠ gr := by omega
  have hgrl := hrb.lt
  have HK0 := Lib.hid (Blk.new w4 104 (dgC (List.replicate cnt 0)))
  have hg4 := (Below.refl w4.heap.size w4).alloc (Nat.le_refl _) (.cells (dgC (List.replicate cnt 0)) 104)
  have HRB5 := Lib.hid (hrb.below hg4)
  have HBB5 := Lib.hid (HBB4.out.below hg4)
  have HB5 := Lib.hid (HB4.out.trans (hg4.mono HB4.out.size))
  have hlow : w.heap.size ≤ gr ∧ w.heap.size ≤ w4.heap.size ∧ w.heap.size ≤ gb := ⟨Nat.le_trans HB3.out.size hgr, HB4.out.size, Nat.le_trans HB1.out.size hgb⟩
  clear hrb hrl hro hrv hb4 HSA3 HBB HBB4 HRB hg4
  go_wp2_with fail
  clear hmk z1 z2
  have hgbl4 : gb < w4.heap.size := by omega
  generalize hgq : w4.heap.size = gq at *
  have HGQ := Lib.hid hgq
  clear hgq
  have hgqr : gq ≠ gr := by omega
  have hgqb : gq ≠ gb := by omega
  -- the divisor's digits
  have hvV : val (Bs.take n') = y * 2 ^ s := by
    rw [val_take_small (by rw [HBV.out, HM.out]; exact HVV.out.2)]
    exact HBV.out
  have HVS := Lib.hid (show (Bs.take n').length = n' ∧ BG.ok (Bs.take n') ∧ val (Bs.take n') = y * 2 ^ s from ⟨by rw [List.length_take, HBL.out]; omega, BG.ok_take HBO.out n', hvV⟩)
  have HTG := Lib.hid (fun (v1 : Nat) (h : (Bs.take n')[n' - 1]? = some v1) => top_ge (c := 2147483648) HVS.out.2.1 (m := m) (by rw [HVS.out.1]; exact HM.out) (by rw [show n' - 1 = m by have := HM.out; omega] at h; exact h) (by rw [hvV]; exact HVV.out.1))
  have hp0 : 0 < 2 ^ s := Nat.pow_pos (by omega)
  have hVpos : 0 < y * 2 ^ s := Nat.mul_pos HY0.out hp0
  have HVP := Lib.hid hVpos
  have hstart : val (Rs.drop cnt) < y * 2 ^ s := by
    have h1 := BG.val_split Rs cnt (by rw [HRL.out]; have := HCN.out; omega)
    have h2 := BG.val_lt (BG.ok_dig x)
    rw [BG.val_dig, HNN.out.1] at h2
    have h3 : x * 2 ^ s < BG.B ^ cnt * (BG.B ^ m * 2147483648) := by
      have h4 : x * 2 ^ s < BG.B ^ n * 2 ^ s := Nat.mul_lt_mul_of_pos_right h2 hp0
      have h5 : 2 ^ s ≤ 2147483648 := Nat.pow_le_pow_right (show 0 < 2 by omega) HS.out
      have h6 : BG.B ^ n * 2 ^ s ≤ BG.B ^ n * 2147483648 := Nat.mul_le_mul_left _ h5
      have h7 : BG.B ^ cnt * (BG.B ^ m * 2147483648) = BG.B ^ n * 2147483648 := by
        rw [← Nat.mul_assoc, ← Nat.pow_add, show cnt + m = n by have := HCN.out; have := HM.out; omega]
      omega
    have h8 : BG.B ^ cnt * val (Rs.drop cnt) < BG.B ^ cnt * (BG.B ^ m * 2147483648) := by rw [← HRV.out] at h3; omega
    have h9 := Nat.lt_of_mul_lt_mul_left h8
    have := HVV.out.1
    rw [Nat.mul_comm] at this
    omega
  have HST := Lib.hid hstart
  clear hvV hVpos hstart
  go_loopw [62] (fun v wr => ∃ (k : Nat) (R Q : List Nat), k ≤ cnt ∧ v = .int .i64 (k : Int) ∧ R.length = n + 1 ∧ BG.ok R ∧ Q.length = cnt ∧ BG.ok Q ∧ x * 2 ^ s = val R + BG.B ^ (cnt - k) * (y * 2 ^ s) * val (Q.drop (cnt - k)) ∧ val (R.drop (cnt - k)) < y * 2 ^ s ∧ Blk wr gr 104 (dgC R) ∧ Blk wr gq 104 (dgC Q) ∧ Blk wr gb 104 (dgC Bs) ∧ Below w.heap.size w wr) (fun v _ => cnt - (intOf v).toNat)
  case atStart => exact ⟨0, Rs, List.replicate cnt 0, Nat.zero_le _, rfl, HRL.out, HRO.out, by simp, fun d hd => by rw [(List.mem_replicate.1 hd).2]; decide, by rw [Nat.sub_zero, show (List.replicate cnt 0).drop cnt = [] from List.drop_eq_nil_of_le (by simp), HRV.out]; simp [val], by rw [Nat.sub_zero]; exact HST.out, HRB5.out, HK0.out, HBB5.out, HB5.out⟩
  case round =>
    obtain ⟨k, R, Q, hk, rfl, hRl, hRo, hQl, hQo, hA, hlt, hbR, hbQ, hbB, hbel⟩ := hrel
    have HRl := Lib.hid hRl
    have HRo := Lib.hid hRo
    have HQl := Lib.hid hQl
    have HQo := Lib.hid hQo
    have HA := Lib.hid hA
    have HLT := Lib.hid hlt
    have HBR := Lib.hid hbR
    have HBQ := Lib.hid hbQ
    have HBB := Lib.hid hbB
    have HBE := Lib.hid hbel
    by_cases hkc : k < cnt
    · obtain ⟨j, hj⟩ : ∃ j, cnt = k + 1 + j := ⟨cnt - k - 1, by omega⟩
      have r1 : (k : Int) < (cnt : Int) := by omega
      have hcn2 := HCN.out
      have r2 : IntKind.i64.wrap ((cnt : Int) - 1) = (cnt : Int) - 1 := IntWalk.i64_in _ (by omega)
      have r3 : IntKind.i64.wrap ((cnt : Int) - 1 - (k : Int)) = (j : Int) := by rw [show (cnt : Int) - 1 - (k : Int) = (j : Int) by omega]; exact IntWalk.i64_in _ (by omega)
      have r4 : IntKind.i64.wrap ((j : Int) + (n' : Int)) = (j : Int) + (n' : Int) := IntWalk.i64_in _ (by omega)
      have r5 : IntKind.i64.wrap ((j : Int) + (n' : Int) + 1) = (j : Int) + (n' : Int) + 1 := IntWalk.i64_in _ (by omega)
      have r6 : (j : Int) ≤ (j : Int) + (n' : Int) + 1 := by omega
      have r7 : (j : Int) + (n' : Int) + 1 ≤ (n : Int) + 1 := by omega
      have r8 : IntKind.i64.wrap ((k : Int) + 1) = (k : Int) + 1 := IntWalk.i64_in _ (by omega)
      have r9 : (j : Int) < (cnt : Int) := by omega
      have HJ := Lib.hid hj
      obtain ⟨d, hd⟩ : ∃ d, R[j]? = some d := ⟨_, List.getElem?_eq_getElem (by omega)⟩
      have hdB := BG.ok_at hRo hd
      have e1 : cnt - k = j + 1 := by omega
      rw [e1] at hA hlt
      have hW : val (R.drop j) = d + BG.B * val (R.drop (j + 1)) := by rw [BG.drop_cons hd]; rfl
      have hWlt : val (R.drop j) < BG.B * (y * 2 ^ s) := by
        have h1 : BG.B * (val (R.drop (j + 1)) + 1) ≤ BG.B * (y * 2 ^ s) := Nat.mul_le_mul_left _ hlt
        rw [Nat.mul_add] at h1
        omega
      have hWsm : val ((R.drop j).take (n' + 1)) = val (R.drop j) := val_take_small (by
        have h1 : y * 2 ^ s < BG.B ^ n' := by rw [HM.out]; exact HVV.out.2
        have h2 : BG.B * (y * 2 ^ s) ≤ BG.B * BG.B ^ n' := Nat.mul_le_mul_left _ (Nat.le_of_lt h1)
        rw [Nat.pow_succ, Nat.mul_comm (BG.B ^ n')]
        omega)
      have HDD := Lib.hid (divDigit_any R (Bs.take n') hRo HVS.out.2.1 gr j gb 0 n' (n + 1 - j) (n' + 1) hne wr hbR ((dgC_row hbB).take n') HVS.out.1 hn2 (by omega) (by omega) HTG.out (by rw [hWsm, HVS.out.2.2]; exact hWlt))
      have hsl : j + n' + 1 - j = n' + 1 := by omega
      have HSL := Lib.hid hsl
      have HWS := Lib.hid (And.intro hWsm hWlt)
      have HAJ := Lib.hid hA
      clear hRl hRo hQl hQo hA hlt hbR hbQ hbB hbel hj hcn2 hd hdB e1 hW hWlt hWsm hsl
      go_wp2_with fail
      rw [HSL.out]
      refine HDD.out.mono ?_
      rintro e w7 ⟨rfl, hfr, R', hwin, hval', hbR'⟩
      rw [HWS.out.1, HVS.out.2.2] at hval' ⊢
      have HFR := Lib.hid hfr
      have HWN := Lib.hid hwin
      have HVL := Lib.hid hval'
      have HBR' := Lib.hid hbR'
      have HBQ7 := Lib.hid (HBQ.out.fr hfr hgqr)
      have HBB7 := Lib.hid (HBB.out.fr hfr hne)
      obtain ⟨qd, hqd⟩ : ∃ qd, qd = val (R.drop j) / (y * 2 ^ s) := ⟨_, rfl⟩
      have hqB : qd < BG.B := by rw [hqd, Nat.div_lt_iff_lt_mul HVP.out]; exact HWS.out.2
      rw [← hqd]
      have HQD := Lib.hid hqd
      obtain ⟨x0, hx0⟩ : ∃ x0, Q[j]? = some x0 := ⟨_, List.getElem?_eq_getElem (by rw [HQl.out]; have := HJ.out; omega)⟩
      have k0 := dgC_cell HBQ7.out hx0
      have f0 := HBQ7.out.frozen j
      have hgq7 := HBQ7.out.lt
      have HQB := Lib.hid hqB
      clear hfr hwin hval' hbR' hqd hx0 hqB HDD
      go_wp2_with fail
      refine ⟨⟨k + 1, R', Q.set j qd, hkc, by simp, by rw [HWN.out.len]; exact HRl.out, HWN.out.ok, by rw [List.length_set]; exact HQl.out, ok_set HQo.out HQB.out, ?_, ?_, HBR'.out.far hgqr.symm _, dgC_put HBQ7.out _ _, HBB7.out.far hgqb.symm _, ?_⟩, by simp [intOf]; omega⟩
      · have hc1 : cnt - (k + 1) = j := by have := HJ.out; omega
        obtain ⟨w1', w2'⟩ := win_tail HWN.out (by rw [HWS.out.1])
        rw [hc1, BG.drop_cons (l := Q.set j qd) (d := qd) (by rw [List.getElem?_set_self (by rw [HQl.out]; have := HJ.out; omega)]), List.drop_set_of_lt (by omega)]
        have hR' : val R' = val (R.take j) + BG.B ^ j * (val (R.drop j) % (y * 2 ^ s)) := by
          rw [BG.val_split R' j (by rw [HWN.out.len, HRl.out]; have := HJ.out; have := HCN.out; omega), w1', w2', HVL.out]
        rw [hR']
        have h1 := HAJ.out
        rw [Nat.pow_succ] at h1
        exact BG.long_step (A := x * 2 ^ s) (V := y * 2 ^ s) (Q := val (Q.drop (j + 1))) (R := val R) (lo := val (R.take j)) (W := val (R.drop j)) (q := qd) (r := val (R.drop j) % (y * 2 ^ s)) (P := BG.B ^ j) h1 (BG.val_split R j (by rw [HRl.out]; have := HJ.out; have := HCN.out; omega)) (by rw [HQD.out, Nat.mul_comm]; exact (Nat.div_add_mod _ _).symm)
      · have hc1 : cnt - (k + 1) = j := by have := HJ.out; omega
        obtain ⟨w1', _⟩ := win_tail HWN.out (by rw [HWS.out.1])
        rw [hc1, w1', HVL.out]
        exact Nat.mod_lt _ HVP.out
      · exact (below_grow HBE.out HFR.out HBE.out.size (fun k hk => by injection hk with hk; rw [← hk]; exact hlow.1)).setCell (p := ⟨gq, j, none⟩) hlow.2.1 _
    · have r1 : ¬ (k : Int) < (cnt : Int) := by omega
      have hke : k = cnt := by omega
      subst hke
      rw [Nat.sub_self, List.drop_zero, Nat.pow_zero, Nat.one_mul] at hA
      rw [Nat.sub_self, List.drop_zero] at hlt
      obtain ⟨d1, d2⟩ := BG.div_of (a := x * 2 ^ s) (b := y * 2 ^ s) (q := val Q) (r := val R) hlt (by rw [hA, Nat.mul_comm (y * 2 ^ s), Nat.add_comm])
      obtain ⟨s1, s2⟩ := BG.shift_div x y (2 ^ s) hp0 HY0.out
      rw [s1] at d1
      rw [s2] at d2
      have hRsm : val (R.take n') = val R := val_take_small (by
        have := HVV.out.2
        rw [← HM.out] at this
        omega)
      have hun : val (R.take n') / 2 ^ s = x % y := by rw [hRsm, ← d2, Nat.mul_div_cancel _ hp0]
      have HUN := Lib.hid hun
      have HQV := Lib.hid d1.symm
      have HT1 := Lib.hid (fun W (h : Blk W gq 104 (dgC Q)) => trim_any Q (some ⟨gq, 0, none⟩) k k W hQl (dgC_row h) hQo (by have := HCN.out; omega) (Nat.le_refl _))
      have HUS := Lib.hid (fun W (h : Blk W gr 104 (dgC R)) => unshifted_any (R.take n') (BG.ok_take hRo n') s HS.out (some ⟨gr, 0, none⟩) n' (n + 1) W (by rw [List.length_take, hRl]; omega) ((dgC_row h).take n') (by omega))
      have q3 : (n' : Int) ≤ (n : Int) + 1 := by omega
      clear hRl hRo hQl hQo hA hlt hbR hbQ hbB hbel d1 d2 s1 s2 hRsm hun
      go_upto_region 17 with fail
      have HT1a := Lib.hid (HT1.out wr HBQ.out)
      have HT1b := Lib.hid (HT1.out wr.drew HBQ.out)
      have HUSa := Lib.hid (HUS.out wr HBR.out)
      have HUSb := Lib.hid (HUS.out wr.drew HBR.out)
      go_region_held3 (fun _ => True) (exact trivial) (first | (go_at_call 77; (first | (with_reducible refine HT1a.out.mono ?_) | (with_reducible refine HT1b.out.mono ?_)); rintro e w8 ⟨A8, c8, rfl, hr8, hc8, rfl⟩; rw [HQV.out] at hr8 hc8 ⊢; have HR8 := Lib.hid hr8; have HC8 := Lib.hid hc8) | (go_at_call 94; (first | (with_reducible refine HUSa.out.mono ?_) | (with_reducible refine HUSb.out.mono ?_)); rintro e w9 ⟨g9, ds9, rfl, hg9, hb9, hl9, ho9, hv9, hbe9⟩; have HV9 := Lib.hid (hv9.trans HUN.out); have HB9 := Lib.hid hb9; have HE9 := Lib.hid hbe9; have HT9 := Lib.hid (trim_any ds9 (some ⟨g9, 0, none⟩) n' n' w9 hl9 (dgC_row hb9) ho9 (by omega) (Nat.le_refl _))) | (go_at_call 77; (with_reducible refine HT9.out.mono ?_); rintro e w10 ⟨A10, c10, rfl, hr10, hc10, rfl⟩; rw [HV9.out] at hr10 hc10 ⊢; have HR10 := Lib.hid hr10; have HC10 := Lib.hid hc10))
      all_goals
        go_wp2_with fail
        go_ret2
        have hbe : RowKit.Below wr.heap.size wr w10 := by first | exact HE9.out | exact below_undrew HE9.out
        refine ⟨A8, c8, A10, c10, rfl, HR8.out _ (dgC_row (HBQ.out.below hbe)), HC8.out, HR10.out _ (dgC_row HB9.out), HC10.out, HBE.out.trans (hbe.mono HBE.out.size)⟩
theorem divide_any (x y : Nat) (hy : 0 < y) (A A' : Option Addr) (n c n' c' : Nat) (w : World) (hN : (dig x).length = n) (hN' : (dig y).length = n') (hr : DG w A (dig x)) (hr' : DG w A' (dig y)) (hc : n ≤ c) (hl : n ≤ 10000) (hl' : n' ≤ 10000) :
    Calls Try.prog 76 #[.slice A n c, .slice A' n' c'] w fun e w' => DvR w w' (x / y) (x % y) e := by
  by_cases hlt : x < y
  · exact div_small_case x y hlt A A' n c n' c' w hN hN' hr hr' hc (by omega) (by omega)
  · by_cases h1 : n' = 1
    · subst h1
      exact div_one_case x y (by omega) A A' n c c' w hN hN' hr hr' (by omega)
    · have h0 : n' ≠ 0 := fun h => by
        have h2 := BG.val_dig y
        rw [List.length_eq_zero_iff.1 (hN'.trans h)] at h2
        simp [val] at h2
        omega
      exact div_long_case x y (by omega) A A' n c n' c' w hN hN' (by omega) hr hr' hl
end
end Go.Proofs.Ytdlbokcndbbgnaa
