/- Integers in memory: conversion, comparison. -/
import Derived.Test.YtdlbokcndbbgnaaBgD
import Derived.Test.YtdlbokcndbbgnaaSlC
namespace Go.Proofs.Ytdlbokcndbbgnaa
open Go.RowKit Go.Maps Go.Sort
open BG (val dig)
def cmpI (x y : Int) : Int := if x < y then -1 else if y < x then 1 else 0
theorem cmpI_sign {x y : Int} (h : x.sign ≠ y.sign) : cmpI x y = if x.sign < y.sign then -1 else 1 := by
  unfold cmpI
  rcases Int.lt_trichotomy x 0 with h1 | h1 | h1 <;> rcases Int.lt_trichotomy y 0 with h2 | h2 | h2
  all_goals
    first
    | rw [Int.sign_eq_neg_one_of_neg h1] at h ⊢
    | rw [Int.sign_eq_one_of_pos h1] at h ⊢
    | (subst h1; rw [Int.sign_zero] at h ⊢)
    first
    | rw [Int.sign_eq_neg_one_of_neg h2] at h ⊢
    | rw [Int.sign_eq_one_of_pos h2] at h ⊢
    | (subst h2; rw [Int.sign_zero] at h ⊢)
    first
    | exact absurd rfl h
    | (rw [if_pos (by omega), if_pos (by omega)])
    | (rw [if_neg (by omega), if_pos (by omega), if_neg (by omega)])
theorem cmpI_nat {x y : Int} (h : x.sign = y.sign) : cmpI x y = if x < 0 then cmpN y.natAbs x.natAbs else cmpN x.natAbs y.natAbs := by
  unfold cmpI cmpN
  rcases Int.lt_trichotomy x 0 with h1 | h1 | h1 <;> rcases Int.lt_trichotomy y 0 with h2 | h2 | h2
  all_goals
    first
    | rw [Int.sign_eq_neg_one_of_neg h1] at h
    | rw [Int.sign_eq_one_of_pos h1] at h
    | (rw [h1, Int.sign_zero] at h)
    first
    | rw [Int.sign_eq_neg_one_of_neg h2] at h
    | rw [Int.sign_eq_one_of_pos h2] at h
    | (rw [h2, Int.sign_zero] at h)
    first
    | omega
    | (repeat' split) <;> omega
theorem two_dig (n : Nat) (h : n < 18446744073709551616) : BG.ok [n % 4294967296, n / 4294967296] ∧ val [n % 4294967296, n / 4294967296] = n := by
  constructor
  · intro d hd
    simp only [List.mem_cons, List.not_mem_nil, or_false] at hd
    show d < 4294967296
    omega
  · simp only [val]
    show n % 4294967296 + 4294967296 * (n / 4294967296 + 4294967296 * 0) = n
    omega
section
set_option maxHeartbeats 4000000
set_option maxRecDepth 100000
theorem bcmp_any (x y : Int) (vx vy : Value) (w : World) (hx : BI w vx x) (hy : BI w vy y) (hl : (dig x.natAbs).length ≤ 1000) (hl' : (dig y.natAbs).length ≤ 1000) :
    Calls Try.prog 38 #[vx, vy] w fun e w' => e = .returned (.int .i64 (cmpI x y)) ∧ Gr w w' := by
  obtain ⟨A, c, rfl, hr, hc⟩ := hx
  obtain ⟨A', c', rfl, hr', hc'⟩ := hy
  obtain ⟨n, hn⟩ : ∃ n, n = (dig x.natAbs).length := ⟨_, rfl⟩
  obtain ⟨n', hn'⟩ : ∃ n, n = (dig y.natAbs).length := ⟨_, rfl⟩
  rw [← hn] at hl hc ⊢
  rw [← hn'] at hl' hc' ⊢
  have hd1 := BG.val_lt (BG.ok_dig x.natAbs)
  have hd2 := BG.val_lt (BG.ok_dig y.natAbs)
  rw [BG.val_dig, ← hn] at hd1
  rw [BG.val_dig, ← hn'] at hd2
  have HD := Lib.hid (And.intro hd1 hd2)
  have HBX := Lib.hid (fun (W : World) (h : DG W A (dig x.natAbs)) => (show BI W (.agg #[.bool (decide (x < 0)), .slice A n c]) x from ⟨A, c, by rw [hn], h, by rw [← hn]; exact hc⟩))
  have HBY := Lib.hid (fun (W : World) (h : DG W A' (dig y.natAbs)) => (show BI W (.agg #[.bool (decide (y < 0)), .slice A' n' c']) y from ⟨A', c', by rw [hn'], h, by rw [← hn']; exact hc'⟩))
  generalize hnx : decide (x < 0) = nx at *
  generalize hny : decide (y < 0) = ny at *
  have HNX := Lib.hid (And.intro hnx.symm hny.symm)
  have HSX := Lib.hid (fun W h => sign_any x _ W (HBX.out W h))
  have HSY := Lib.hid (fun W h => sign_any y _ W (HBY.out W h))
  have hg := ((((Below.refl w.heap.size w).alloc (Nat.le_refl _) (.cells #[.bool nx, .slice A n c] 50)).alloc (by simp) (.cells #[.bool ny, .slice A' n' c'] 50)))
  have hX := ((Blk.new w 50 #[.bool nx, .slice A n c]).alloc (.cells #[.bool ny, .slice A' n' c'] 50))
  have hY := (blk_second w 50 50 #[.bool nx, .slice A n c] #[.bool ny, .slice A' n' c'])
  have HG := Lib.hid hg
  have HX := Lib.hid hX
  have HY := Lib.hid hY
  have HR := Lib.hid (hr.below hg)
  have HR' := Lib.hid (hr'.below hg)
  have HN' := Lib.hid (And.intro hn hn')
  clear hg hX hY hr hr' hn hn' hd1 hd2 hnx hny
  go_enter Try.func38, Try.ntmps38
  go_upto_region 1 with fail
  generalize hw0 : (w.alloc (.cells #[.bool nx, .slice A n c] 50)).alloc (.cells #[.bool ny, .slice A' n' c'] 50) = w0 at *
  have HG0 := Lib.hid (show Gr w w0 by rw [← hw0]; exact ((Gr.refl w).alloc _).alloc _)
  clear hw0
  have mixed : Try.prog.follows .mixedOrders = true := by kernel_rfl
  have HGX := Lib.hid (fun n os => HSX.out (grow (w0.drewN n) os) (HR.out.below (gr_grown (Gr.refl w0) n os).1))
  have HGY := Lib.hid (fun n os => HSY.out (grow (w0.drewN n) os) (HR'.out.below (gr_grown (Gr.refl w0) n os).1))
  have x0 := fun n os => ((HX.out.grown n os).pair).1
  have x1 := fun n os => ((HX.out.grown n os).pair).2
  have y0 := fun n os => ((HY.out.grown n os).pair).1
  have y1 := fun n os => ((HY.out.grown n os).pair).2
  by_cases hs : x.sign = y.sign
  · have e0 : (x.sign != y.sign) = false := by simp [hs]
    have HC := Lib.hid (cmpI_nat hs)
    clear hs
    go_quiet_grown (first | (go_at_call 46; first | (with_reducible exact Calls.grown_of (Calls.gr (HGX.out _ _))) | (with_reducible exact Calls.grown_of (Calls.gr (HGY.out _ _)))))
    have HGW := Lib.hid (gr_grown (Gr.refl w0) nq osq)
    have HX2 := Lib.hid (HX.out.grown nq osq)
    have HY2 := Lib.hid (HY.out.grown nq osq)
    have HR2 := Lib.hid (HR.out.below HGW.out.1)
    have HR2' := Lib.hid (HR'.out.below HGW.out.1)
    have HGG2 := Lib.hid (HG0.out.trans HGW.out)
    clear HGW x0 x1 y0 y1
    generalize grow (w0.drewN nq) osq = w2 at *
    obtain ⟨x0, x1⟩ := HX2.out.pair
    obtain ⟨y0, y1⟩ := HY2.out.pair
    cases nx with
    | true =>
      have HCM := Lib.hid (compare_any y.natAbs x.natAbs A' A n' c' n c w2 HN'.out.2.symm HN'.out.1.symm HR2'.out HR2.out (by omega) (by omega))
      go_wp2_with fail
      refine HCM.out.mono ?_
      rintro e w3 ⟨rfl, q, rfl⟩
      go_wp2_with fail
      go_ret
      rw [HC.out, if_pos (by have := HNX.out.1; simpa using this.symm)]
      exact ⟨rfl, HGG2.out.drewN q⟩
    | false =>
      have HCM := Lib.hid (compare_any x.natAbs y.natAbs A A' n c n' c' w2 HN'.out.1.symm HN'.out.2.symm HR2.out HR2'.out (by omega) (by omega))
      go_wp2_with fail
      refine HCM.out.mono ?_
      rintro e w3 ⟨rfl, q, rfl⟩
      go_wp2_with fail
      go_ret
      rw [HC.out, if_neg (by have := HNX.out.1; simpa using this.symm)]
      exact ⟨rfl, HGG2.out.drewN q⟩
  · have e0 : (x.sign != y.sign) = true := by simp [hs]
    have HC := Lib.hid (cmpI_sign hs)
    go_quiet_grown (first | (go_at_call 46; first | (with_reducible exact Calls.grown_of (Calls.gr (HGX.out _ _))) | (with_reducible exact Calls.grown_of (Calls.gr (HGY.out _ _)))))
    have HGW := Lib.hid (gr_grown (Gr.refl w0) nq osq)
    have HX2 := Lib.hid (HX.out.grown nq osq)
    have HY2 := Lib.hid (HY.out.grown nq osq)
    have HR2 := Lib.hid (HR.out.below HGW.out.1)
    have HR2' := Lib.hid (HR'.out.below HGW.out.1)
    have HGG2 := Lib.hid (HG0.out.trans HGW.out)
    clear HGW x0 x1 y0 y1
    generalize grow (w0.drewN nq) osq = w2 at *
    have HGX2 := Lib.hid (fun n os => HSX.out (grow (w2.drewN n) os) (HR2.out.below (gr_grown (Gr.refl w2) n os).1))
    have HGY2 := Lib.hid (fun n os => HSY.out (grow (w2.drewN n) os) (HR2'.out.below (gr_grown (Gr.refl w2) n os).1))
    have x0 := fun n os => ((HX2.out.grown n os).pair).1
    have x1 := fun n os => ((HX2.out.grown n os).pair).2
    have y0 := fun n os => ((HY2.out.grown n os).pair).1
    have y1 := fun n os => ((HY2.out.grown n os).pair).2
    go_wp2_with fail
    by_cases hlt : x.sign < y.sign
    · have d0 : decide (x.sign < y.sign) = true := decide_eq_true hlt
      have HLT := Lib.hid hlt
      go_quiet_grown (first | (go_at_call 46; first | (with_reducible exact Calls.grown_of (Calls.gr (HGX2.out _ _))) | (with_reducible exact Calls.grown_of (Calls.gr (HGY2.out _ _)))))
      go_wp2_with fail
      go_ret
      rw [HC.out, if_pos HLT.out]
      exact ⟨rfl, gr_grown HGG2.out _ _⟩
    · have d0 : decide (x.sign < y.sign) = false := decide_eq_false hlt
      have HLT := Lib.hid hlt
      go_quiet_grown (first | (go_at_call 46; first | (with_reducible exact Calls.grown_of (Calls.gr (HGX2.out _ _))) | (with_reducible exact Calls.grown_of (Calls.gr (HGY2.out _ _)))))
      go_wp2_with fail
      go_ret
      rw [HC.out, if_neg (by have := HLT.out; omega)]
      exact ⟨rfl, gr_grown HGG2.out _ _⟩
theorem of_any (z : Int) (w : World) (h1 : -9223372036854775808 ≤ z) (h2 : z ≤ 9223372036854775807) :
    Calls Try.prog 33 #[.int .i64 z] w fun e w' => ∃ v, e = .returned v ∧ BI w' v z ∧ Below w.heap.size w w' := by
  by_cases hz : z < 0
  · obtain ⟨n, hn⟩ : ∃ n : Nat, z = -(n : Int) := ⟨z.natAbs, by omega⟩
    have hn1 : 0 < n := by omega
    have hnB : n ≤ 9223372036854775808 := by omega
    subst hn
    have HA := Lib.hid (show sgI true n = -(n : Int) from rfl)
    have zz : IntKind.u64.wrap (-IntKind.u64.wrap (-(n : Int))) = (n : Int) := by simp only [u64_mod]; omega
    clear hz h1 h2
    have HM1 := Lib.hid (show (n : Int) % 4294967296 = ((n % 4294967296 : Nat) : Int) by omega)
    have HM2 := Lib.hid (show (n : Int) / 4294967296 = ((n / 4294967296 : Nat) : Int) by omega)
    have HK0 := Lib.hid ((Blk.new w 50 #[.bool false, .slice none 0 0]).alloc (.cells #[.int .u32 ((n % 4294967296 : Nat) : Int), .int .u32 ((n / 4294967296 : Nat) : Int)] 104))
    have HB0 := Lib.hid (((Below.refl w.heap.size w).alloc (Nat.le_refl _) (.cells #[.bool false, .slice none 0 0] 50)).alloc (by simp) (.cells #[.int .u32 ((n % 4294967296 : Nat) : Int), .int .u32 ((n / 4294967296 : Nat) : Int)] 104))
    obtain ⟨ho, hv⟩ := two_dig n (by omega)
    have HC := Lib.hid (signed_any true [n % 4294967296, n / 4294967296] (some ⟨w.heap.size + 1, 0, none⟩) 2 2 ((w.alloc (.cells #[.bool false, .slice none 0 0] 50)).alloc (.cells #[.int .u32 ((n % 4294967296 : Nat) : Int), .int .u32 ((n / 4294967296 : Nat) : Int)] 104)) rfl (dgC_row (blk_second w _ _ _ _)) ho (by omega) (Nat.le_refl _))
    rw [hv, HA.out] at HC
    clear ho hv
    go_enter Try.func33, Try.ntmps33
    go_wp2_with fail
    rw [HM1.out, HM2.out]
    generalize (w.alloc (.cells #[.bool false, .slice none 0 0] 50)).alloc (.cells #[.int .u32 ((n % 4294967296 : Nat) : Int), .int .u32 ((n / 4294967296 : Nat) : Int)] 104) = w1 at *
    refine HC.out.mono ?_
    rintro e w2 ⟨v, rfl, hv, hb⟩
    have HV := Lib.hid hv
    have HG := Lib.hid (HB0.out.trans (hb.mono HB0.out.size))
    have HK := Lib.hid (HK0.out.below hb)
    obtain ⟨A6, c6, rfl, _, _⟩ := hv
    have HV2 := Lib.hid (show BI w2 (.agg #[.bool true, .slice A6 (dig n).length c6]) (-(n : Int)) from by
      have h := HV.out
      rw [decide_eq_true (show -(n : Int) < 0 by omega), show (-(n : Int)).natAbs = n by omega] at h
      exact h)
    have f0 := HK.out.frozen 0
    have f1 := HK.out.frozen 1
    have k0 := HK.out.cell 0
    have k1 := HK.out.cell 1
    clear hb HC HK0 HB0
    go_wp2_with fail
    have hfx := fun (u0 u1 : Value) => ((FxT.refl [50] w2).set HK.out (by simp) 0 u0).set (HK.out.set_ 0 u0) (by simp) 1 u1
    refine bodyPost_ret (bi_result rfl rfl ((HK.out.set_ 0 _).set_ 1 _)) rfl ?_
    exact ⟨_, rfl, HV2.out.fx (hfx _ _) (by decide), (HG.out.setCell (p := ⟨w.heap.size, 0, none⟩) (Nat.le_refl _) _).setCell (p := ⟨w.heap.size, 1, none⟩) (Nat.le_refl _) _⟩
  · obtain ⟨n, hn⟩ : ∃ n : Nat, z = (n : Int) := ⟨z.natAbs, by omega⟩
    have hnB : n ≤ 9223372036854775807 := by omega
    subst hn
    have HA := Lib.hid (show sgI false n = (n : Int) from rfl)
    have zz : IntKind.u64.wrap (n : Int) = (n : Int) := by simp only [u64_mod]; omega
    have q0 : ¬ (n : Int) < 0 := by omega
    clear hz h1 h2
    have HM1 := Lib.hid (show (n : Int) % 4294967296 = ((n % 4294967296 : Nat) : Int) by omega)
    have HM2 := Lib.hid (show (n : Int) / 4294967296 = ((n / 4294967296 : Nat) : Int) by omega)
    have HK0 := Lib.hid ((Blk.new w 50 #[.bool false, .slice none 0 0]).alloc (.cells #[.int .u32 ((n % 4294967296 : Nat) : Int), .int .u32 ((n / 4294967296 : Nat) : Int)] 104))
    have HB0 := Lib.hid (((Below.refl w.heap.size w).alloc (Nat.le_refl _) (.cells #[.bool false, .slice none 0 0] 50)).alloc (by simp) (.cells #[.int .u32 ((n % 4294967296 : Nat) : Int), .int .u32 ((n / 4294967296 : Nat) : Int)] 104))
    obtain ⟨ho, hv⟩ := two_dig n (by omega)
    have HC := Lib.hid (signed_any false [n % 4294967296, n / 4294967296] (some ⟨w.heap.size + 1, 0, none⟩) 2 2 ((w.alloc (.cells #[.bool false, .slice none 0 0] 50)).alloc (.cells #[.int .u32 ((n % 4294967296 : Nat) : Int), .int .u32 ((n / 4294967296 : Nat) : Int)] 104)) rfl (dgC_row (blk_second w _ _ _ _)) ho (by omega) (Nat.le_refl _))
    rw [hv, HA.out] at HC
    clear ho hv
    go_enter Try.func33, Try.ntmps33
    go_wp2_with fail
    rw [HM1.out, HM2.out]
    generalize (w.alloc (.cells #[.bool false, .slice none 0 0] 50)).alloc (.cells #[.int .u32 ((n % 4294967296 : Nat) : Int), .int .u32 ((n / 4294967296 : Nat) : Int)] 104) = w1 at *
    refine HC.out.mono ?_
    rintro e w2 ⟨v, rfl, hv, hb⟩
    have HV := Lib.hid hv
    have HG := Lib.hid (HB0.out.trans (hb.mono HB0.out.size))
    have HK := Lib.hid (HK0.out.below hb)
    obtain ⟨A6, c6, rfl, _, _⟩ := hv
    have f0 := HK.out.frozen 0
    have f1 := HK.out.frozen 1
    have k0 := HK.out.cell 0
    have k1 := HK.out.cell 1
    clear hb HC HK0 HB0
    go_wp2_with fail
    have hfx := fun (u0 u1 : Value) => ((FxT.refl [50] w2).set HK.out (by simp) 0 u0).set (HK.out.set_ 0 u0) (by simp) 1 u1
    refine bodyPost_ret (bi_result rfl rfl ((HK.out.set_ 0 _).set_ 1 _)) rfl ?_
    exact ⟨_, rfl, HV.out.fx (hfx _ _) (by decide), (HG.out.setCell (p := ⟨w.heap.size, 0, none⟩) (Nat.le_refl _) _).setCell (p := ⟨w.heap.size, 1, none⟩) (Nat.le_refl _) _⟩
end
end Go.Proofs.Ytdlbokcndbbgnaa
