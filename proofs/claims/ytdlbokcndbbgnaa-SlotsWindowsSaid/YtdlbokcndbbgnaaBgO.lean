/- Rational numbers in memory: integers, fractions. -/
import Derived.Test.YtdlbokcndbbgnaaBgN
import Derived.ProofKit
namespace Go.Proofs.Ytdlbokcndbbgnaa
open Go.RowKit Go.Maps
open BG (val dig)
theorem dig_len2 {n : Nat} (h : n ≤ 9223372036854775807) : (dig n).length ≤ 2 := BG.dig_len (Nat.lt_of_le_of_lt h (by decide))
theorem rt_result2 {fn : Func} {p u : Tmp} (h : fn.results = #[.cell p tR, .tmp u]) {tmps : Array Value} {w : World} {g : Nat} {a0 a1 a2 a3 z : Value} (hp : tmps.getD p undef = .pointer (some ⟨g, 0, none⟩)) (hz : tmps.getD u undef = z) (hb : Blk w g tR #[a0, a1, a2, a3]) :
    (results fn tmps).run Try.prog w = .ok (.tuple #[.agg #[a0, a1, a2, a3], z]) w := by
  have hp' : tmps[p]?.getD undef = .pointer (some ⟨g, 0, none⟩) := by simpa using hp
  have hz' : tmps[u]?.getD undef = z := by simpa using hz
  have hi : (Try.prog.info? tR).map (·.size) = some (#[a0, a1, a2, a3] : Array Value).size := by kernel_rfl
  simp [results, h, hp', hz', asAddr, run_loadVar_row w g tR tR _ (0, 0) _ hb Try.underlying52 rfl hi]
theorem RT.agg {w : World} {v : Value} {N D : Nat} (h : RT w v N D) : ∃ b1 A1 n1 c1 b2 A2 n2 c2, v = .agg #[.bool b1, .slice A1 n1 c1, .bool b2, .slice A2 n2 c2] := by
  obtain ⟨A, c, A', c', E, rfl, -⟩ := h
  exact ⟨_, _, _, _, _, _, _, _, rfl⟩
section
set_option maxHeartbeats 4000000
set_option maxRecDepth 100000
theorem rof_any (k : Nat) (hk : k ≤ 9223372036854775807) (w : World) :
    Calls Try.prog 16 #[.int .i64 (k : Int)] w fun e w' => ∃ v N D, e = .returned v ∧ RT w' v N D ∧ N = k * D ∧ N ≤ k ∧ D ≤ 1 ∧ Below w.heap.size w w' := by
  have HZ := Lib.hid (Blk.new w tR #[.bool false, .slice none 0 0, .bool false, .slice none 0 0])
  have HG := Lib.hid ((Below.refl w.heap.size w).alloc (Nat.le_refl _) (.cells #[.bool false, .slice none 0 0, .bool false, .slice none 0 0] tR))
  have HO := Lib.hid (fun W => of_any (k : Int) W (by omega) (by omega))
  go_enter Try.func16, Try.ntmps16
  go_upto_region 1 with fail
  generalize w.alloc (.cells #[.bool false, .slice none 0 0, .bool false, .slice none 0 0] tR) = w0 at *
  go_wp2_with fail
  refine (HO.out w0).mono ?_
  rintro e w1 ⟨v1, rfl, hv1, hb1⟩
  have HV1 := Lib.hid hv1
  have HZ1 := Lib.hid (HZ.out.below hb1)
  have HG1 := Lib.hid (HG.out.trans (hb1.mono HG.out.size))
  have HO1 := Lib.hid (of_any 1 w1 (by omega) (by omega))
  clear hv1 hb1 HZ HG
  go_wp2_with fail
  refine HO1.out.mono ?_
  rintro e w2 ⟨v2, rfl, hv2, hb2⟩
  have HRD := Lib.hid (reduced_any k 1 v1 v2 w2 (HV1.out.below hb2) hv2 (by omega) (Nat.le_trans (dig_len2 hk) (by omega)) (Nat.le_trans (dig_len2 (by omega)) (by omega)))
  have HZ2 := Lib.hid (HZ1.out.below hb2)
  have HG2 := Lib.hid (HG1.out.trans (hb2.mono HG1.out.size))
  clear hv2 hb2 HZ1 HG1 HO1 HV1
  go_wp2_with fail
  refine HRD.out.mono ?_
  rintro e w3 ⟨v3, N, D, rfl, hv3, h1, h2, h3, hb3⟩
  have HZ3 := Lib.hid (HZ2.out.below hb3)
  have HG3 := Lib.hid (HG2.out.trans (hb3.mono HG2.out.size))
  have HV3 := Lib.hid hv3
  have HN := Lib.hid (And.intro h1 (And.intro h2 h3))
  obtain ⟨b1, A1, n1, c1, b2, A2, n2, c2, rfl⟩ := hv3.agg
  obtain ⟨⟨k0, k1', k2', k3'⟩, f0, f1, f2, f3⟩ := rt_cells HZ3.out
  clear hv3 h1 h2 h3 hb3 HZ2 HG2 HRD
  go_wp2_with fail
  refine bodyPost_ret (rt_result rfl rfl (rt_set4 HZ3.out _ _ _ _)) rfl ?_
  exact ⟨_, N, D, rfl, HV3.out.fx (rt_set4f HZ3.out _ _ _ _) (by decide), by have := HN.out.1; omega, HN.out.2.1, HN.out.2.2, rt_set4b (g := w.heap.size) HG3.out (Nat.le_refl _) _ _ _ _⟩
theorem make_any (n d : Nat) (vn vd : Value) (w : World) (hn : BI w vn (n : Int)) (hd : BI w vd (d : Int)) (hd0 : 0 < d) (hl : (dig n).length ≤ 1000) (hl' : (dig d).length ≤ 1000) :
    Calls Try.prog 34 #[vn, vd] w fun e w' => ∃ v N D, e = .returned (.tuple #[v, .int .i64 0]) ∧ RT w' v N D ∧ N * d = n * D ∧ N ≤ n ∧ D ≤ d ∧ Below w.heap.size w w' := by
  obtain ⟨A, c, rfl, hr, hc⟩ := nat_bi hn
  obtain ⟨A', c', rfl, hr', hc'⟩ := nat_bi hd
  have HL := Lib.hid (And.intro hl hl')
  obtain ⟨k1, hk1⟩ : ∃ k, k = (dig n).length := ⟨_, rfl⟩
  obtain ⟨k2, hk2⟩ : ∃ k, k = (dig d).length := ⟨_, rfl⟩
  rw [← hk1] at hn ⊢
  rw [← hk2] at hd ⊢
  have hg := (((Below.refl w.heap.size w).alloc (Nat.le_refl _) (.cells #[.bool false, .slice A k1 c] tI)).alloc (by simp) (.cells #[.bool false, .slice A' k2 c'] tI)).alloc (by simp; omega) (.cells #[.bool false, .slice none 0 0, .bool false, .slice none 0 0] tR)
  have hX := ((Blk.new w tI #[.bool false, .slice A k1 c]).alloc (.cells #[.bool false, .slice A' k2 c'] tI)).alloc (.cells #[.bool false, .slice none 0 0, .bool false, .slice none 0 0] tR)
  have hY := (blk_second w tI tI #[.bool false, .slice A k1 c] #[.bool false, .slice A' k2 c']).alloc (.cells #[.bool false, .slice none 0 0, .bool false, .slice none 0 0] tR)
  have hZ := Blk.new ((w.alloc (.cells #[.bool false, .slice A k1 c] tI)).alloc (.cells #[.bool false, .slice A' k2 c'] tI)) tR #[.bool false, .slice none 0 0, .bool false, .slice none 0 0]
  rw [show ((w.alloc (.cells #[.bool false, .slice A k1 c] tI)).alloc (.cells #[.bool false, .slice A' k2 c'] tI)).heap.size = w.heap.size + 2 by simp] at hZ
  have HSD := Lib.hid (sign_any (d : Int) _ _ (hd.below hg))
  have HBN := Lib.hid hn
  have HBD := Lib.hid hd
  have HD0 := Lib.hid hd0
  have HG := Lib.hid hg
  have HX := Lib.hid hX
  have HY := Lib.hid hY
  have HZ := Lib.hid hZ
  have e0 : ((d : Int).sign == 0) = false := by rw [Int.sign_eq_one_of_pos (by omega)]; rfl
  generalize (d : Int).sign = sg at *
  clear hn hd hr hr' hg hX hY hZ hk1 hk2 hc hc' hd0 hl hl'
  go_enter Try.func34, Try.ntmps34
  go_upto_region 1 with fail
  obtain ⟨y0, y1⟩ := HY.out.pair
  generalize (((w.alloc (.cells #[.bool false, .slice A k1 c] tI)).alloc (.cells #[.bool false, .slice A' k2 c'] tI)).alloc (.cells #[.bool false, .slice none 0 0, .bool false, .slice none 0 0] tR)) = w0 at *
  go_wp2_with fail
  refine HSD.out.mono ?_
  rintro e w1 ⟨rfl, hw1⟩
  have HX1 := Lib.hid (HX.out.below hw1.1)
  have HY1 := Lib.hid (HY.out.below hw1.1)
  have HZ1 := Lib.hid (HZ.out.below hw1.1)
  have HG1 := Lib.hid (HG.out.trans (hw1.1.mono HG.out.size))
  have HRD := Lib.hid (reduced_any n d _ _ w1 (HBN.out.below HG1.out) (HBD.out.below HG1.out) HD0.out HL.out.1 HL.out.2)
  clear HX HY HZ HG HSD hw1 y0 y1
  obtain ⟨x0, x1⟩ := HX1.out.pair
  obtain ⟨y0, y1⟩ := HY1.out.pair
  go_wp2_with fail
  refine HRD.out.mono ?_
  rintro e w3 ⟨v3, N, D, rfl, hv3, h1, h2, h3, hb3⟩
  have HZ3 := Lib.hid (HZ1.out.below hb3)
  have HG3 := Lib.hid (HG1.out.trans (hb3.mono HG1.out.size))
  have HV3 := Lib.hid hv3
  have HN := Lib.hid (And.intro h1 (And.intro h2 h3))
  obtain ⟨b1, A1, n1, c1, b2, A2, n2, c2, rfl⟩ := hv3.agg
  obtain ⟨⟨k0, k1', k2', k3'⟩, f0, f1, f2, f3⟩ := rt_cells HZ3.out
  clear hv3 h1 h2 h3 hb3 HZ1 HX1 HY1 HG1 HRD x0 x1 y0 y1
  go_wp2_with fail
  refine bodyPost_ret (rt_result2 rfl rfl rfl (rt_set4 HZ3.out _ _ _ _)) rfl ?_
  exact ⟨_, N, D, rfl, HV3.out.fx (rt_set4f HZ3.out _ _ _ _) (by decide), HN.out.1, HN.out.2.1, HN.out.2.2, rt_set4b (g := w.heap.size + 2) HG3.out (by omega) _ _ _ _⟩
theorem frac_any (n d : Nat) (hn : n ≤ 9223372036854775807) (hd : d ≤ 9223372036854775807) (hd0 : 0 < d) (w : World) :
    Calls Try.prog 17 #[.int .i64 (n : Int), .int .i64 (d : Int)] w fun e w' => ∃ v N D, e = .returned (.tuple #[v, .int .i64 0]) ∧ RT w' v N D ∧ N * d = n * D ∧ N ≤ n ∧ D ≤ d ∧ Below w.heap.size w w' := by
  have HZ := Lib.hid (Blk.new w tR #[.bool false, .slice none 0 0, .bool false, .slice none 0 0])
  have HG := Lib.hid ((Below.refl w.heap.size w).alloc (Nat.le_refl _) (.cells #[.bool false, .slice none 0 0, .bool false, .slice none 0 0] tR))
  have HO := Lib.hid (fun W => of_any (n : Int) W (by omega) (by omega))
  have HO' := Lib.hid (fun W => of_any (d : Int) W (by omega) (by omega))
  go_enter Try.func17, Try.ntmps17
  go_upto_region 1 with fail
  generalize w.alloc (.cells #[.bool false, .slice none 0 0, .bool false, .slice none 0 0] tR) = w0 at *
  go_wp2_with fail
  refine (HO.out w0).mono ?_
  rintro e w1 ⟨v1, rfl, hv1, hb1⟩
  have HV1 := Lib.hid hv1
  have HZ1 := Lib.hid (HZ.out.below hb1)
  have HG1 := Lib.hid (HG.out.trans (hb1.mono HG.out.size))
  clear hv1 hb1 HZ HG
  go_wp2_with fail
  refine (HO'.out _).mono ?_
  rintro e w2 ⟨v2, rfl, hv2, hb2⟩
  have HRD := Lib.hid (make_any n d v1 v2 w2 (HV1.out.below hb2) hv2 hd0 (Nat.le_trans (dig_len2 hn) (by omega)) (Nat.le_trans (dig_len2 hd) (by omega)))
  have HZ2 := Lib.hid (HZ1.out.below hb2)
  have HG2 := Lib.hid (HG1.out.trans (hb2.mono HG1.out.size))
  clear hv2 hb2 HZ1 HG1 HV1
  go_wp2_with fail
  refine HRD.out.mono ?_
  rintro e w3 ⟨v3, N, D, rfl, hv3, h1, h2, h3, hb3⟩
  have HZ3 := Lib.hid (HZ2.out.below hb3)
  have HG3 := Lib.hid (HG2.out.trans (hb3.mono HG2.out.size))
  have HV3 := Lib.hid hv3
  have HN := Lib.hid (And.intro h1 (And.intro h2 h3))
  obtain ⟨b1, A1, n1, c1, b2, A2, n2, c2, rfl⟩ := hv3.agg
  obtain ⟨⟨k0, k1', k2', k3'⟩, f0, f1, f2, f3⟩ := rt_cells HZ3.out
  clear hv3 h1 h2 h3 hb3 HZ2 HG2 HRD
  go_wp2_with fail
  refine bodyPost_ret (rt_result2 rfl rfl rfl (rt_set4 HZ3.out _ _ _ _)) rfl ?_
  exact ⟨_, N, D, rfl, HV3.out.fx (rt_set4f HZ3.out _ _ _ _) (by decide), HN.out.1, HN.out.2.1, HN.out.2.2, rt_set4b (g := w.heap.size) HG3.out (Nat.le_refl _) _ _ _ _⟩
end
end Go.Proofs.Ytdlbokcndbbgnaa
