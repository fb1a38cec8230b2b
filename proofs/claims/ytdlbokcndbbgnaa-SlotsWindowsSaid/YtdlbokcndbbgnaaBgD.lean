/- Integers in memory: products, sums, comparison. -/
import Derived.Test.YtdlbokcndbbgnaaBgC
import Derived.ProofKit
namespace Go.Proofs.Ytdlbokcndbbgnaa
open Go.RowKit Go.Maps
open BG (val dig)
theorem sgI_of (z : Int) : sgI (decide (z < 0)) z.natAbs = z := by
  unfold sgI
  by_cases h : z < 0
  · rw [if_pos (by simpa using h)]; omega
  · rw [if_neg (by simpa using h)]; omega
theorem sgI_mul (x y : Int) : sgI (!(decide (x < 0) == decide (y < 0))) (x.natAbs * y.natAbs) = x * y := by
  have h1 := sgI_of x
  have h2 := sgI_of y
  conv => rhs; rw [← h1, ← h2]
  unfold sgI
  cases decide (x < 0) <;> cases decide (y < 0) <;> simp [Int.neg_mul, Int.mul_neg]
theorem below_undrew {w w' : World} (h : Below w.drew.heap.size w.drew w') : Below w.heap.size w w' := ⟨h.os, h.tape, h.output, h.size, h.block⟩
theorem dig_len_le {n k : Nat} (h : n < BG.B ^ k) (hk : k ≤ 1000000) : (dig n).length ≤ 1000000 := Nat.le_trans (BG.dig_len h) hk
theorem lt_pow_two {a b n n' : Nat} (ha : a < BG.B ^ n) (hb : b < BG.B ^ n') : a * b < BG.B ^ (n + n') ∧ a + b < BG.B ^ (n + n' + 1) := by
  have h1 : BG.B ^ n ≤ BG.B ^ (n + n') := Nat.pow_le_pow_right BG.B_pos (by omega)
  have h2 : BG.B ^ n' ≤ BG.B ^ (n + n') := Nat.pow_le_pow_right BG.B_pos (by omega)
  constructor
  · rw [Nat.pow_add]
    exact Nat.mul_lt_mul'' ha hb
  · rw [Nat.pow_succ]
    have : BG.B ^ (n + n') * 2 ≤ BG.B ^ (n + n') * BG.B := Nat.mul_le_mul_left _ (by decide)
    omega
theorem sgI_add {x y : Int} {nx ny : Bool} (h1 : nx = decide (x < 0)) (h2 : ny = decide (y < 0)) (h : nx = ny) : x + y = sgI nx (x.natAbs + y.natAbs) := by
  unfold sgI
  rw [h1] at h ⊢
  rw [h2] at h
  by_cases hx : x < 0
  · rw [decide_eq_true hx] at h ⊢
    have hy : y < 0 := by simpa using h.symm
    rw [if_pos rfl]; omega
  · rw [decide_eq_false hx] at h ⊢
    have hy : ¬ y < 0 := by simpa using h.symm
    rw [if_neg (by simp)]; omega
theorem sgI_sub {x y : Int} {nx ny : Bool} (h1 : nx = decide (x < 0)) (h2 : ny = decide (y < 0)) (h : ¬ nx = ny) (hle : y.natAbs ≤ x.natAbs) : x + y = sgI nx (x.natAbs - y.natAbs) := by
  unfold sgI
  rw [h1] at h ⊢
  rw [h2] at h
  by_cases hx : x < 0
  · rw [decide_eq_true hx] at h ⊢
    have hy : ¬ y < 0 := fun hy => h (by simp [hy])
    rw [if_pos rfl]; omega
  · rw [decide_eq_false hx] at h ⊢
    have hy : y < 0 := Classical.byContradiction fun hy => h (by simp [hy])
    rw [if_neg (by simp)]; omega
section
set_option maxHeartbeats 4000000
set_option maxRecDepth 100000
theorem mul_any (x y : Int) (vx vy : Value) (w : World) (hx : BI w vx x) (hy : BI w vy y) (hl : (dig x.natAbs).length ≤ 1000) (hl' : (dig y.natAbs).length ≤ 1000) :
    Calls Try.prog 35 #[vx, vy] w fun e w' => ∃ v, e = .returned v ∧ BI w' v (x * y) ∧ Below w.heap.size w w' := by
  obtain ⟨A, c, rfl, hr, hc⟩ := hx
  obtain ⟨A', c', rfl, hr', hc'⟩ := hy
  obtain ⟨n, hn⟩ : ∃ n, n = (dig x.natAbs).length := ⟨_, rfl⟩
  obtain ⟨n', hn'⟩ : ∃ n, n = (dig y.natAbs).length := ⟨_, rfl⟩
  rw [← hn] at hl hc ⊢
  rw [← hn'] at hl' hc' ⊢
  have hd1 := BG.val_lt (BG.ok_dig x.natAbs)
  have hd2 := BG.val_lt (BG.ok_dig y.natAbs)
  rw [BG.val_dig, ← hn] at hd1
  rw [BG.val_dig, ← hn'] at hd2
  have HD := Lib.hid (And.intro hd1 hd2)
  generalize hnx : decide (x < 0) = nx at *
  generalize hny : decide (y < 0) = ny at *
  have HNX := Lib.hid (And.intro hnx.symm hny.symm)
  have hg := ((((Below.refl w.heap.size w).alloc (Nat.le_refl _) (.cells #[.bool nx, .slice A n c] 50)).alloc (by simp) (.cells #[.bool ny, .slice A' n' c'] 50)).alloc (by simp; omega) (.cells #[.bool false, .slice none 0 0] 50))
  have hX := ((Blk.new w 50 #[.bool nx, .slice A n c]).alloc (.cells #[.bool ny, .slice A' n' c'] 50)).alloc (.cells #[.bool false, .slice none 0 0] 50)
  have hY := (blk_second w 50 50 #[.bool nx, .slice A n c] #[.bool ny, .slice A' n' c']).alloc (.cells #[.bool false, .slice none 0 0] 50)
  have hZ := Blk.new ((w.alloc (.cells #[.bool nx, .slice A n c] 50)).alloc (.cells #[.bool ny, .slice A' n' c'] 50)) 50 #[.bool false, .slice none 0 0]
  rw [show ((w.alloc (.cells #[.bool nx, .slice A n c] 50)).alloc (.cells #[.bool ny, .slice A' n' c'] 50)).heap.size = w.heap.size + 2 by simp] at hZ
  have HZ := Lib.hid hZ
  clear hZ
  have HG := Lib.hid hg
  have HX := Lib.hid hX
  have HY := Lib.hid hY
  have HR := Lib.hid (hr.below hg)
  have HR' := Lib.hid (hr'.below hg)
  have HN' := Lib.hid (And.intro hn hn')
  clear hg hX hY hr hr' hn hn' hd1 hd2 hnx hny
  go_enter Try.func35, Try.ntmps35
  go_upto_region 1 with fail
  generalize ((w.alloc (.cells #[.bool nx, .slice A n c] 50)).alloc (.cells #[.bool ny, .slice A' n' c'] 50)).alloc (.cells #[.bool false, .slice none 0 0] 50) = w0 at *
  have x0 := HX.out.cell 0
  have x1 := HX.out.cell 1
  have y0 := HY.out.cell 0
  have y1 := HY.out.cell 1
  simp only [List.getElem?_toArray, List.getElem?_cons_zero, List.getElem?_cons_succ] at x0 x1 y0 y1
  have HC := Lib.hid (product_any x.natAbs y.natAbs A A' n c n' c' w0 HN'.out.1.symm HN'.out.2.symm HR.out HR'.out (by omega) (by omega))
  have HCD := Lib.hid (product_any x.natAbs y.natAbs A A' n c n' c' w0.drew HN'.out.1.symm HN'.out.2.symm HR.out HR'.out (by omega) (by omega))
  have HL := Lib.hid (show (dig (x.natAbs * y.natAbs)).length ≤ 1000000 by exact dig_len_le (lt_pow_two HD.out.1 HD.out.2).1 (by omega))
  go_region_held3 (fun V => V.cell? ⟨w.heap.size, 0, none⟩ = some (.bool nx) ∧ V.cell? ⟨w.heap.size, 1, none⟩ = some (.slice A n c) ∧ V.cell? ⟨w.heap.size + 1, 0, none⟩ = some (.bool ny) ∧ V.cell? ⟨w.heap.size + 1, 1, none⟩ = some (.slice A' n' c')) (first | exact ⟨x0, x1, y0, y1⟩ | exact ⟨p0, p1, p2, p3⟩ | exact ⟨s0, s1, s2, s3⟩ | exact ⟨(T.out _ _).1.1, (T.out _ _).1.2, (T.out _ _).2.1, (T.out _ _).2.2⟩) (first | (go_at_call 51; (first | (with_reducible refine HC.out.mono ?_) | (with_reducible refine HCD.out.mono ?_)); rintro e w5 ⟨A2, c2, rfl, hr2, hc2, hb2'⟩; have hb2 : Below w0.heap.size w0 w5 := (by first | exact hb2' | exact below_undrew hb2'); have HR2 := Lib.hid hr2; have HX5 := Lib.hid (HX.out.below hb2); have HY5 := Lib.hid (HY.out.below hb2); have HZ5 := Lib.hid (HZ.out.below hb2); have HG5 := Lib.hid (HG.out.trans (hb2.mono HG.out.size)); have p0 := HX5.out.cell 0; have p1 := HX5.out.cell 1; have p2 := HY5.out.cell 0; have p3 := HY5.out.cell 1; simp only [List.getElem?_toArray, List.getElem?_cons_zero, List.getElem?_cons_succ] at p0 p1 p2 p3) | (go_at_call 50; (with_reducible refine (signed_any (!(nx == ny)) (dig (x.natAbs * y.natAbs)) A2 _ c2 w5 rfl HR2.out (BG.ok_dig _) HL.out hc2).mono ?_); rintro e w6 ⟨v6, rfl, hv6, hb6⟩; have HZ6 := Lib.hid (HZ5.out.below hb6); have HV6 := Lib.hid hv6; have HG6 := Lib.hid (HG5.out.trans (hb6.mono HG5.out.size)); have HX6 := Lib.hid (HX5.out.below hb6); have HY6 := Lib.hid (HY5.out.below hb6); have s0 := HX6.out.cell 0; have s1 := HX6.out.cell 1; have s2 := HY6.out.cell 0; have s3 := HY6.out.cell 1; simp only [List.getElem?_toArray, List.getElem?_cons_zero, List.getElem?_cons_succ] at s0 s1 s2 s3; have T := Lib.hid (fun (u0 u1 : Value) => And.intro ((HX6.out.far (p := ⟨w.heap.size + 2, 0, none⟩) (by simp) u0).far (p := ⟨w.heap.size + 2, 1, none⟩) (by simp) u1).pair ((HY6.out.far (p := ⟨w.heap.size + 2, 0, none⟩) (by simp) u0).far (p := ⟨w.heap.size + 2, 1, none⟩) (by simp) u1).pair); obtain ⟨A6, c6, rfl, hr6, hc6⟩ := hv6; have f0 := HZ6.out.frozen 0; have f1 := HZ6.out.frozen 1; have k0 := HZ6.out.cell 0; have k1 := HZ6.out.cell 1))
  all_goals
    go_wp2_with fail
    have hfx := fun (u0 u1 : Value) => ((FxT.refl [50] w6).set HZ6.out (by simp) 0 u0).set (HZ6.out.set_ 0 u0) (by simp) 1 u1
    refine bodyPost_ret (bi_result rfl rfl ((HZ6.out.set_ 0 _).set_ 1 _)) rfl ?_
    refine ⟨_, rfl, ?_, (HG6.out.setCell (p := ⟨w.heap.size + 2, 0, none⟩) (by simp) _).setCell (p := ⟨w.heap.size + 2, 1, none⟩) (by simp) _⟩
    rw [show x * y = sgI (!(nx == ny)) (val (dig (x.natAbs * y.natAbs))) by rw [BG.val_dig, HNX.out.1, HNX.out.2]; exact (sgI_mul x y).symm]
    exact HV6.out.fx (hfx _ _) (by decide)
theorem add_any (x y : Int) (vx vy : Value) (w : World) (hx : BI w vx x) (hy : BI w vy y) (hl : (dig x.natAbs).length ≤ 1000) (hl' : (dig y.natAbs).length ≤ 1000) :
    Calls Try.prog 37 #[vx, vy] w fun e w' => ∃ v, e = .returned v ∧ BI w' v (x + y) ∧ Below w.heap.size w w' := by
  obtain ⟨A, c, rfl, hr, hc⟩ := hx
  obtain ⟨A', c', rfl, hr', hc'⟩ := hy
  obtain ⟨n, hn⟩ : ∃ n, n = (dig x.natAbs).length := ⟨_, rfl⟩
  obtain ⟨n', hn'⟩ : ∃ n, n = (dig y.natAbs).length := ⟨_, rfl⟩
  rw [← hn] at hl hc ⊢
  rw [← hn'] at hl' hc' ⊢
  have hd1 := BG.val_lt (BG.ok_dig x.natAbs)
  have hd2 := BG.val_lt (BG.ok_dig y.natAbs)
  rw [BG.val_dig, ← hn] at hd1
  rw [BG.val_dig, ← hn'] at hd2
  have HD := Lib.hid (And.intro hd1 hd2)
  generalize hnx : decide (x < 0) = nx at *
  generalize hny : decide (y < 0) = ny at *
  have HNX := Lib.hid (And.intro hnx.symm hny.symm)
  have hg := ((((Below.refl w.heap.size w).alloc (Nat.le_refl _) (.cells #[.bool nx, .slice A n c] 50)).alloc (by simp) (.cells #[.bool ny, .slice A' n' c'] 50)).alloc (by simp; omega) (.cells #[.bool false, .slice none 0 0] 50))
  have hX := ((Blk.new w 50 #[.bool nx, .slice A n c]).alloc (.cells #[.bool ny, .slice A' n' c'] 50)).alloc (.cells #[.bool false, .slice none 0 0] 50)
  have hY := (blk_second w 50 50 #[.bool nx, .slice A n c] #[.bool ny, .slice A' n' c']).alloc (.cells #[.bool false, .slice none 0 0] 50)
  have hZ := Blk.new ((w.alloc (.cells #[.bool nx, .slice A n c] 50)).alloc (.cells #[.bool ny, .slice A' n' c'] 50)) 50 #[.bool false, .slice none 0 0]
  rw [show ((w.alloc (.cells #[.bool nx, .slice A n c] 50)).alloc (.cells #[.bool ny, .slice A' n' c'] 50)).heap.size = w.heap.size + 2 by simp] at hZ
  have HZ := Lib.hid hZ
  clear hZ
  have HG := Lib.hid hg
  have HX := Lib.hid hX
  have HY := Lib.hid hY
  have HR := Lib.hid (hr.below hg)
  have HR' := Lib.hid (hr'.below hg)
  have HN' := Lib.hid (And.intro hn hn')
  clear hg hX hY hr hr' hn hn' hd1 hd2 hnx hny
  go_enter Try.func37, Try.ntmps37
  by_cases hs : nx = ny
  · have HSG := Lib.hid hs
    have e0 : (nx == ny) = true := by simp [hs]
    clear hs
    go_upto_region 2 with fail
    generalize ((w.alloc (.cells #[.bool nx, .slice A n c] 50)).alloc (.cells #[.bool ny, .slice A' n' c'] 50)).alloc (.cells #[.bool false, .slice none 0 0] 50) = w0 at *
    have x0 := HX.out.cell 0
    have x1 := HX.out.cell 1
    have y0 := HY.out.cell 0
    have y1 := HY.out.cell 1
    simp only [List.getElem?_toArray, List.getElem?_cons_zero, List.getElem?_cons_succ] at x0 x1 y0 y1
    have HC := Lib.hid (sum_any x.natAbs y.natAbs A A' n c n' c' w0 HN'.out.1.symm HN'.out.2.symm HR.out HR'.out (by omega) (by omega))
    have HCD := Lib.hid (sum_any x.natAbs y.natAbs A A' n c n' c' w0.drew HN'.out.1.symm HN'.out.2.symm HR.out HR'.out (by omega) (by omega))
    have HL := Lib.hid (show (dig (x.natAbs + y.natAbs)).length ≤ 1000000 by exact dig_len_le (lt_pow_two HD.out.1 HD.out.2).2 (by omega))
    go_region_held3 (fun V => V.cell? ⟨w.heap.size, 0, none⟩ = some (.bool nx) ∧ V.cell? ⟨w.heap.size, 1, none⟩ = some (.slice A n c) ∧ V.cell? ⟨w.heap.size + 1, 0, none⟩ = some (.bool ny) ∧ V.cell? ⟨w.heap.size + 1, 1, none⟩ = some (.slice A' n' c')) (first | exact ⟨x0, x1, y0, y1⟩ | exact ⟨p0, p1, p2, p3⟩ | exact ⟨s0, s1, s2, s3⟩ | exact ⟨(T.out _ _).1.1, (T.out _ _).1.2, (T.out _ _).2.1, (T.out _ _).2.2⟩) (first | (go_at_call 52; (first | (with_reducible refine HC.out.mono ?_) | (with_reducible refine HCD.out.mono ?_)); rintro e w5 ⟨A2, c2, rfl, hr2, hc2, hb2'⟩; have hb2 : Below w0.heap.size w0 w5 := (by first | exact hb2' | exact below_undrew hb2'); have HR2 := Lib.hid hr2; have HX5 := Lib.hid (HX.out.below hb2); have HY5 := Lib.hid (HY.out.below hb2); have HZ5 := Lib.hid (HZ.out.below hb2); have HG5 := Lib.hid (HG.out.trans (hb2.mono HG.out.size)); have p0 := HX5.out.cell 0; have p1 := HX5.out.cell 1; have p2 := HY5.out.cell 0; have p3 := HY5.out.cell 1; simp only [List.getElem?_toArray, List.getElem?_cons_zero, List.getElem?_cons_succ] at p0 p1 p2 p3) | (go_at_call 50; (with_reducible refine (signed_any nx (dig (x.natAbs + y.natAbs)) A2 _ c2 w5 rfl HR2.out (BG.ok_dig _) HL.out hc2).mono ?_); rintro e w6 ⟨v6, rfl, hv6, hb6⟩; have HZ6 := Lib.hid (HZ5.out.below hb6); have HV6 := Lib.hid hv6; have HG6 := Lib.hid (HG5.out.trans (hb6.mono HG5.out.size)); have HX6 := Lib.hid (HX5.out.below hb6); have HY6 := Lib.hid (HY5.out.below hb6); have s0 := HX6.out.cell 0; have s1 := HX6.out.cell 1; have s2 := HY6.out.cell 0; have s3 := HY6.out.cell 1; simp only [List.getElem?_toArray, List.getElem?_cons_zero, List.getElem?_cons_succ] at s0 s1 s2 s3; have T := Lib.hid (fun (u0 u1 : Value) => And.intro ((HX6.out.far (p := ⟨w.heap.size + 2, 0, none⟩) (by simp) u0).far (p := ⟨w.heap.size + 2, 1, none⟩) (by simp) u1).pair ((HY6.out.far (p := ⟨w.heap.size + 2, 0, none⟩) (by simp) u0).far (p := ⟨w.heap.size + 2, 1, none⟩) (by simp) u1).pair); obtain ⟨A6, c6, rfl, hr6, hc6⟩ := hv6; have f0 := HZ6.out.frozen 0; have f1 := HZ6.out.frozen 1; have k0 := HZ6.out.cell 0; have k1 := HZ6.out.cell 1))
    all_goals
      go_wp2_with fail
      have hfx := fun (u0 u1 : Value) => ((FxT.refl [50] w6).set HZ6.out (by simp) 0 u0).set (HZ6.out.set_ 0 u0) (by simp) 1 u1
      refine bodyPost_ret (bi_result rfl rfl ((HZ6.out.set_ 0 _).set_ 1 _)) rfl ?_
      refine ⟨_, rfl, ?_, (HG6.out.setCell (p := ⟨w.heap.size + 2, 0, none⟩) (by simp) _).setCell (p := ⟨w.heap.size + 2, 1, none⟩) (by simp) _⟩
      rw [show x + y = sgI nx (val (dig (x.natAbs + y.natAbs))) by rw [BG.val_dig]; exact sgI_add HNX.out.1 HNX.out.2 HSG.out]
      exact HV6.out.fx (hfx _ _) (by decide)
  · have HSG := Lib.hid hs
    have e0 : (nx == ny) = false := by simp [hs]
    clear hs
    have HCM := Lib.hid (compare_any x.natAbs y.natAbs A A' n c n' c' (((w.alloc (.cells #[.bool nx, .slice A n c] 50)).alloc (.cells #[.bool ny, .slice A' n' c'] 50)).alloc (.cells #[.bool false, .slice none 0 0] 50)) HN'.out.1.symm HN'.out.2.symm HR.out HR'.out (by omega) (by omega))
    go_wp2_with fail
    refine HCM.out.mono ?_
    rintro e w1 ⟨rfl, q, hw1⟩
    generalize ((w.alloc (.cells #[.bool nx, .slice A n c] 50)).alloc (.cells #[.bool ny, .slice A' n' c'] 50)).alloc (.cells #[.bool false, .slice none 0 0] 50) = w0 at *
    have hb1 : Below w0.heap.size w0 w1 := by rw [hw1]; exact below_drewN (Below.refl _ _) q
    have HX1 := Lib.hid (HX.out.below hb1)
    have HY1 := Lib.hid (HY.out.below hb1)
    have HZ1 := Lib.hid (HZ.out.below hb1)
    have HG1 := Lib.hid (HG.out.trans (hb1.mono HG.out.size))
    have HR1 := Lib.hid (HR.out.below hb1)
    have HR1' := Lib.hid (HR'.out.below hb1)
    clear hw1 hb1 HX HY HZ HG HR HR' HCM
    by_cases hge : y.natAbs ≤ x.natAbs
    · have q0 : (0 : Int) ≤ cmpN x.natAbs y.natAbs := by unfold cmpN; split <;> (try split) <;> omega
      have HGE := Lib.hid hge
      generalize cmpN x.natAbs y.natAbs = cv at *
      clear hge
      go_wp2_with fail
      have x0 := HX1.out.cell 0
      have x1 := HX1.out.cell 1
      have y0 := HY1.out.cell 0
      have y1 := HY1.out.cell 1
      simp only [List.getElem?_toArray, List.getElem?_cons_zero, List.getElem?_cons_succ] at x0 x1 y0 y1
      have HC := Lib.hid (difference_any x.natAbs y.natAbs HGE.out A A' n c n' c' w1 HN'.out.1.symm HN'.out.2.symm HR1.out HR1'.out (by omega))
      have HCD := Lib.hid (difference_any x.natAbs y.natAbs HGE.out A A' n c n' c' w1.drew HN'.out.1.symm HN'.out.2.symm HR1.out HR1'.out (by omega))
      have HL := Lib.hid (show (dig (x.natAbs - y.natAbs)).length ≤ 1000000 by exact dig_len_le (Nat.lt_of_le_of_lt (Nat.sub_le _ _) HD.out.1) (by omega))
      go_region_held3 (fun V => V.cell? ⟨w.heap.size, 0, none⟩ = some (.bool nx) ∧ V.cell? ⟨w.heap.size, 1, none⟩ = some (.slice A n c) ∧ V.cell? ⟨w.heap.size + 1, 0, none⟩ = some (.bool ny) ∧ V.cell? ⟨w.heap.size + 1, 1, none⟩ = some (.slice A' n' c')) (first | exact ⟨x0, x1, y0, y1⟩ | exact ⟨p0, p1, p2, p3⟩ | exact ⟨s0, s1, s2, s3⟩ | exact ⟨(T.out _ _).1.1, (T.out _ _).1.2, (T.out _ _).2.1, (T.out _ _).2.2⟩) (first | (go_at_call 54; (first | (with_reducible refine HC.out.mono ?_) | (with_reducible refine HCD.out.mono ?_)); rintro e w5 ⟨A2, c2, rfl, hr2, hc2, hb2'⟩; have hb2 : Below w1.heap.size w1 w5 := (by first | exact hb2' | exact below_undrew hb2'); have HR2 := Lib.hid hr2; have HX5 := Lib.hid (HX1.out.below hb2); have HY5 := Lib.hid (HY1.out.below hb2); have HZ5 := Lib.hid (HZ1.out.below hb2); have HG5 := Lib.hid (HG1.out.trans (hb2.mono HG1.out.size)); have p0 := HX5.out.cell 0; have p1 := HX5.out.cell 1; have p2 := HY5.out.cell 0; have p3 := HY5.out.cell 1; simp only [List.getElem?_toArray, List.getElem?_cons_zero, List.getElem?_cons_succ] at p0 p1 p2 p3) | (go_at_call 50; (with_reducible refine (signed_any nx (dig (x.natAbs - y.natAbs)) A2 _ c2 w5 rfl HR2.out (BG.ok_dig _) HL.out hc2).mono ?_); rintro e w6 ⟨v6, rfl, hv6, hb6⟩; have HZ6 := Lib.hid (HZ5.out.below hb6); have HV6 := Lib.hid hv6; have HG6 := Lib.hid (HG5.out.trans (hb6.mono HG5.out.size)); have HX6 := Lib.hid (HX5.out.below hb6); have HY6 := Lib.hid (HY5.out.below hb6); have s0 := HX6.out.cell 0; have s1 := HX6.out.cell 1; have s2 := HY6.out.cell 0; have s3 := HY6.out.cell 1; simp only [List.getElem?_toArray, List.getElem?_cons_zero, List.getElem?_cons_succ] at s0 s1 s2 s3; have T := Lib.hid (fun (u0 u1 : Value) => And.intro ((HX6.out.far (p := ⟨w.heap.size + 2, 0, none⟩) (by simp) u0).far (p := ⟨w.heap.size + 2, 1, none⟩) (by simp) u1).pair ((HY6.out.far (p := ⟨w.heap.size + 2, 0, none⟩) (by simp) u0).far (p := ⟨w.heap.size + 2, 1, none⟩) (by simp) u1).pair); obtain ⟨A6, c6, rfl, hr6, hc6⟩ := hv6; have f0 := HZ6.out.frozen 0; have f1 := HZ6.out.frozen 1; have k0 := HZ6.out.cell 0; have k1 := HZ6.out.cell 1))
      all_goals
        go_wp2_with fail
        have hfx := fun (u0 u1 : Value) => ((FxT.refl [50] w6).set HZ6.out (by simp) 0 u0).set (HZ6.out.set_ 0 u0) (by simp) 1 u1
        refine bodyPost_ret (bi_result rfl rfl ((HZ6.out.set_ 0 _).set_ 1 _)) rfl ?_
        refine ⟨_, rfl, ?_, (HG6.out.setCell (p := ⟨w.heap.size + 2, 0, none⟩) (by simp) _).setCell (p := ⟨w.heap.size + 2, 1, none⟩) (by simp) _⟩
        rw [show x + y = sgI nx (val (dig (x.natAbs - y.natAbs))) by rw [BG.val_dig]; exact sgI_sub HNX.out.1 HNX.out.2 HSG.out HGE.out]
        exact HV6.out.fx (hfx _ _) (by decide)
    · have q0 : ¬ (0 : Int) ≤ cmpN x.natAbs y.natAbs := by unfold cmpN; split <;> (try split) <;> omega
      have HGE := Lib.hid hge
      generalize cmpN x.natAbs y.natAbs = cv at *
      clear hge
      go_wp2_with fail
      have x0 := HX1.out.cell 0
      have x1 := HX1.out.cell 1
      have y0 := HY1.out.cell 0
      have y1 := HY1.out.cell 1
      simp only [List.getElem?_toArray, List.getElem?_cons_zero, List.getElem?_cons_succ] at x0 x1 y0 y1
      have HC := Lib.hid (difference_any y.natAbs x.natAbs (by have := HGE.out; omega) A' A n' c' n c w1 HN'.out.2.symm HN'.out.1.symm HR1'.out HR1.out (by omega))
      have HCD := Lib.hid (difference_any y.natAbs x.natAbs (by have := HGE.out; omega) A' A n' c' n c w1.drew HN'.out.2.symm HN'.out.1.symm HR1'.out HR1.out (by omega))
      have HL := Lib.hid (show (dig (y.natAbs - x.natAbs)).length ≤ 1000000 by exact dig_len_le (Nat.lt_of_le_of_lt (Nat.sub_le _ _) HD.out.2) (by omega))
      go_region_held3 (fun V => V.cell? ⟨w.heap.size, 0, none⟩ = some (.bool nx) ∧ V.cell? ⟨w.heap.size, 1, none⟩ = some (.slice A n c) ∧ V.cell? ⟨w.heap.size + 1, 0, none⟩ = some (.bool ny) ∧ V.cell? ⟨w.heap.size + 1, 1, none⟩ = some (.slice A' n' c')) (first | exact ⟨x0, x1, y0, y1⟩ | exact ⟨p0, p1, p2, p3⟩ | exact ⟨s0, s1, s2, s3⟩ | exact ⟨(T.out _ _).1.1, (T.out _ _).1.2, (T.out _ _).2.1, (T.out _ _).2.2⟩) (first | (go_at_call 54; (first | (with_reducible refine HC.out.mono ?_) | (with_reducible refine HCD.out.mono ?_)); rintro e w5 ⟨A2, c2, rfl, hr2, hc2, hb2'⟩; have hb2 : Below w1.heap.size w1 w5 := (by first | exact hb2' | exact below_undrew hb2'); have HR2 := Lib.hid hr2; have HX5 := Lib.hid (HX1.out.below hb2); have HY5 := Lib.hid (HY1.out.below hb2); have HZ5 := Lib.hid (HZ1.out.below hb2); have HG5 := Lib.hid (HG1.out.trans (hb2.mono HG1.out.size)); have p0 := HX5.out.cell 0; have p1 := HX5.out.cell 1; have p2 := HY5.out.cell 0; have p3 := HY5.out.cell 1; simp only [List.getElem?_toArray, List.getElem?_cons_zero, List.getElem?_cons_succ] at p0 p1 p2 p3) | (go_at_call 50; (with_reducible refine (signed_any ny (dig (y.natAbs - x.natAbs)) A2 _ c2 w5 rfl HR2.out (BG.ok_dig _) HL.out hc2).mono ?_); rintro e w6 ⟨v6, rfl, hv6, hb6⟩; have HZ6 := Lib.hid (HZ5.out.below hb6); have HV6 := Lib.hid hv6; have HG6 := Lib.hid (HG5.out.trans (hb6.mono HG5.out.size)); have HX6 := Lib.hid (HX5.out.below hb6); have HY6 := Lib.hid (HY5.out.below hb6); have s0 := HX6.out.cell 0; have s1 := HX6.out.cell 1; have s2 := HY6.out.cell 0; have s3 := HY6.out.cell 1; simp only [List.getElem?_toArray, List.getElem?_cons_zero, List.getElem?_cons_succ] at s0 s1 s2 s3; have T := Lib.hid (fun (u0 u1 : Value) => And.intro ((HX6.out.far (p := ⟨w.heap.size + 2, 0, none⟩) (by simp) u0).far (p := ⟨w.heap.size + 2, 1, none⟩) (by simp) u1).pair ((HY6.out.far (p := ⟨w.heap.size + 2, 0, none⟩) (by simp) u0).far (p := ⟨w.heap.size + 2, 1, none⟩) (by simp) u1).pair); obtain ⟨A6, c6, rfl, hr6, hc6⟩ := hv6; have f0 := HZ6.out.frozen 0; have f1 := HZ6.out.frozen 1; have k0 := HZ6.out.cell 0; have k1 := HZ6.out.cell 1))
      all_goals
        go_wp2_with fail
        have hfx := fun (u0 u1 : Value) => ((FxT.refl [50] w6).set HZ6.out (by simp) 0 u0).set (HZ6.out.set_ 0 u0) (by simp) 1 u1
        refine bodyPost_ret (bi_result rfl rfl ((HZ6.out.set_ 0 _).set_ 1 _)) rfl ?_
        refine ⟨_, rfl, ?_, (HG6.out.setCell (p := ⟨w.heap.size + 2, 0, none⟩) (by simp) _).setCell (p := ⟨w.heap.size + 2, 1, none⟩) (by simp) _⟩
        rw [show x + y = sgI ny (val (dig (y.natAbs - x.natAbs))) by rw [BG.val_dig, Int.add_comm]; exact sgI_sub HNX.out.2 HNX.out.1 (fun h => HSG.out h.symm) (by have := HGE.out; omega)]
        exact HV6.out.fx (hfx _ _) (by decide)
end
end Go.Proofs.Ytdlbokcndbbgnaa
