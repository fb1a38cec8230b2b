/- Rational numbers in memory: lowest terms. -/
import Derived.Test.YtdlbokcndbbgnaaBgM
import Derived.ProofKit
namespace Go.Proofs.Ytdlbokcndbbgnaa
open Go.RowKit Go.Maps
open BG (val dig)
theorem rt_result {fn : Func} {p : Tmp} (h : fn.results = #[.cell p tR]) {tmps : Array Value} {w : World} {g : Nat} {a0 a1 a2 a3 : Value} (hp : tmps.getD p undef = .pointer (some ⟨g, 0, none⟩)) (hb : Blk w g tR #[a0, a1, a2, a3]) :
    (results fn tmps).run Try.prog w = .ok (.agg #[a0, a1, a2, a3]) w :=
  results_cell_row h tmps w g tR _ (0, 0) _ hp hb Try.underlying52 rfl (by kernel_rfl)
theorem rt_set4 {w : World} {g : Nat} {a b c d : Value} (h : Blk w g tR #[a, b, c, d]) (x y z u : Value) : Blk ((((w.setCell ⟨g, 0, none⟩ x).setCell ⟨g, 1, none⟩ y).setCell ⟨g, 2, none⟩ z).setCell ⟨g, 3, none⟩ u) g tR #[x, y, z, u] :=
  (((h.set_ 0 x).set_ 1 y).set_ 2 z).set_ 3 u
theorem rt_set4b {b : Nat} {w0 w : World} (h : Below b w0 w) {g : Nat} (hg : b ≤ g) (x y z u : Value) : Below b w0 ((((w.setCell ⟨g, 0, none⟩ x).setCell ⟨g, 1, none⟩ y).setCell ⟨g, 2, none⟩ z).setCell ⟨g, 3, none⟩ u) :=
  (((h.setCell (p := ⟨g, 0, none⟩) hg x).setCell (p := ⟨g, 1, none⟩) hg y).setCell (p := ⟨g, 2, none⟩) hg z).setCell (p := ⟨g, 3, none⟩) hg u
theorem rt_set4f {w : World} {g : Nat} {a b c d : Value} (h : Blk w g tR #[a, b, c, d]) (x y z u : Value) : FxT [tR] w ((((w.setCell ⟨g, 0, none⟩ x).setCell ⟨g, 1, none⟩ y).setCell ⟨g, 2, none⟩ z).setCell ⟨g, 3, none⟩ u) :=
  ((((FxT.refl [tR] w).set h (by simp) 0 x).set (h.set_ 0 x) (by simp) 1 y).set ((h.set_ 0 x).set_ 1 y) (by simp) 2 z).set (((h.set_ 0 x).set_ 1 y).set_ 2 z) (by simp) 3 u
theorem rt_cells {w : World} {g : Nat} {a b c d : Value} (h : Blk w g tR #[a, b, c, d]) : (w.cell? ⟨g, 0, none⟩ = some a ∧ w.cell? ⟨g, 1, none⟩ = some b ∧ w.cell? ⟨g, 2, none⟩ = some c ∧ w.cell? ⟨g, 3, none⟩ = some d) ∧ w.frozen? ⟨g, 0, none⟩ = false ∧ w.frozen? ⟨g, 1, none⟩ = false ∧ w.frozen? ⟨g, 2, none⟩ = false ∧ w.frozen? ⟨g, 3, none⟩ = false :=
  ⟨⟨h.cell 0, h.cell 1, h.cell 2, h.cell 3⟩, h.frozen 0, h.frozen 1, h.frozen 2, h.frozen 3⟩
theorem sgI_div (n g : Nat) : sgI (!(decide ((n : Int) < 0) == decide ((g : Int) < 0))) ((n : Int).natAbs / (g : Int).natAbs) = ((n / g : Nat) : Int) := by
  rw [show decide ((n : Int) < 0) = false from by simp, show decide ((g : Int) < 0) = false from by simp, Int.natAbs_natCast, Int.natAbs_natCast]
  rfl
section
set_option maxHeartbeats 4000000
set_option maxRecDepth 100000
theorem reduced_any (n d : Nat) (vn vd : Value) (w : World) (hn : BI w vn (n : Int)) (hd : BI w vd (d : Int)) (hd0 : 0 < d) (hl : (dig n).length ≤ 1000) (hl' : (dig d).length ≤ 1000) :
    Calls Try.prog 32 #[vn, vd] w fun e w' => ∃ v N D, e = .returned v ∧ RT w' v N D ∧ N * d = n * D ∧ N ≤ n ∧ D ≤ d ∧ Below w.heap.size w w' := by
  obtain ⟨A, c, rfl, hr, hc⟩ := nat_bi hn
  obtain ⟨A', c', rfl, hr', hc'⟩ := nat_bi hd
  generalize hk1 : (dig n).length = k1 at *
  generalize hk2 : (dig d).length = k2 at *
  have hg := (((Below.refl w.heap.size w).alloc (Nat.le_refl _) (.cells #[.bool false, .slice A k1 c] tI)).alloc (by simp) (.cells #[.bool false, .slice A' k2 c'] tI)).alloc (by simp; omega) (.cells #[.bool false, .slice none 0 0, .bool false, .slice none 0 0] tR)
  have hX := ((Blk.new w tI #[.bool false, .slice A k1 c]).alloc (.cells #[.bool false, .slice A' k2 c'] tI)).alloc (.cells #[.bool false, .slice none 0 0, .bool false, .slice none 0 0] tR)
  have hY := (blk_second w tI tI #[.bool false, .slice A k1 c] #[.bool false, .slice A' k2 c']).alloc (.cells #[.bool false, .slice none 0 0, .bool false, .slice none 0 0] tR)
  have hZ := Blk.new ((w.alloc (.cells #[.bool false, .slice A k1 c] tI)).alloc (.cells #[.bool false, .slice A' k2 c'] tI)) tR #[.bool false, .slice none 0 0, .bool false, .slice none 0 0]
  rw [show ((w.alloc (.cells #[.bool false, .slice A k1 c] tI)).alloc (.cells #[.bool false, .slice A' k2 c'] tI)).heap.size = w.heap.size + 2 by simp] at hZ
  have HSN := Lib.hid (sign_any (n : Int) _ _ (hn.below hg))
  have HSD := Lib.hid (fun (W : World) (h : Below w.heap.size w W) => sign_any (d : Int) _ W (hd.below h))
  have HBN := Lib.hid hn
  have HBD := Lib.hid hd
  have HL := Lib.hid (And.intro hl hl')
  have HK := Lib.hid (And.intro hk1 hk2)
  have HD0 := Lib.hid hd0
  have HG := Lib.hid hg
  have HX := Lib.hid hX
  have HY := Lib.hid hY
  have HZ := Lib.hid hZ
  clear hn hd hr hr' hg hX hY hZ hk1 hk2 hc hc' hd0
  go_enter Try.func32, Try.ntmps32
  go_upto_region 1 with fail
  obtain ⟨x0, x1⟩ := HX.out.pair
  generalize (((w.alloc (.cells #[.bool false, .slice A k1 c] tI)).alloc (.cells #[.bool false, .slice A' k2 c'] tI)).alloc (.cells #[.bool false, .slice none 0 0, .bool false, .slice none 0 0] tR)) = w0 at *
  go_wp2_with fail
  refine HSN.out.mono ?_
  rintro e w1 ⟨rfl, hw1⟩
  have HX1 := Lib.hid (HX.out.below hw1.1)
  have HY1 := Lib.hid (HY.out.below hw1.1)
  have HZ1 := Lib.hid (HZ.out.below hw1.1)
  have HG1 := Lib.hid (HG.out.trans (hw1.1.mono HG.out.size))
  clear HX HY HZ HG HSN hw1 x0 x1
  by_cases h0 : n = 0
  · subst h0
    obtain ⟨⟨k0, k1', k2', k3'⟩, f0, f1, f2, f3⟩ := rt_cells HZ1.out
    go_wp2_with fail
    refine bodyPost_ret (rt_result rfl rfl (rt_set4 HZ1.out _ _ _ _)) rfl ?_
    refine ⟨_, 0, 1, rfl, ⟨none, 0, none, 0, 0, ?_, ?_, ?_, ?_, ?_, by simp⟩, by simp, Nat.le_refl _, HD0.out, rt_set4b (g := w.heap.size + 2) HG1.out (by omega) _ _ _ _⟩
    · rw [BG.dig_zero]; rfl
    · rw [BG.dig_zero]; exact DG.nil _ _
    · rw [BG.dig_zero]; exact Nat.le_refl _
    · rw [BG.dig_zero]; exact DG.nil _ _
    · rw [BG.dig_zero]; exact Nat.le_refl _
  · have e0 : ((n : Int).sign == 0) = false := by rw [Int.sign_eq_one_of_pos (by omega)]; rfl
    have e1 : ¬ ((d : Int).sign < 0) := by rw [Int.sign_eq_one_of_pos (by have := HD0.out; omega)]; omega
    have HN0 := Lib.hid h0
    generalize (n : Int).sign = sg at *
    obtain ⟨y0, y1⟩ := HY1.out.pair
    have HSD1 := Lib.hid (HSD.out w1 HG1.out)
    generalize (d : Int).sign = sg' at *
    clear HSD h0
    go_wp2_with fail
    refine HSD1.out.mono ?_
    rintro e w2 ⟨rfl, hw2⟩
    have HX2 := Lib.hid (HX1.out.below hw2.1)
    have HY2 := Lib.hid (HY1.out.below hw2.1)
    have HZ2 := Lib.hid (HZ1.out.below hw2.1)
    have HG2 := Lib.hid (HG1.out.trans (hw2.1.mono HG1.out.size))
    obtain ⟨x0, x1⟩ := HX2.out.pair
    obtain ⟨y0, y1⟩ := HY2.out.pair
    have HGC := Lib.hid (gcd_any (n : Int) (d : Int) _ _ w2 (HBN.out.below HG2.out) (HBD.out.below HG2.out) (by rw [Int.natAbs_natCast, HK.out.1]; exact hl) (by rw [Int.natAbs_natCast, HK.out.2]; exact hl'))
    clear HX1 HY1 HZ1 HG1 HSD1 hw2
    go_wp2_with fail
    refine HGC.out.mono ?_
    rintro e w3 ⟨v3, rfl, hv3, hb3⟩
    rw [Int.natAbs_natCast, Int.natAbs_natCast] at hv3
    have HV3 := Lib.hid hv3
    have HX3 := Lib.hid (HX2.out.below hb3)
    have HY3 := Lib.hid (HY2.out.below hb3)
    have HZ3 := Lib.hid (HZ2.out.below hb3)
    have HG3 := Lib.hid (HG2.out.trans (hb3.mono HG2.out.size))
    obtain ⟨A3, c3, rfl, _, _⟩ := nat_bi hv3
    obtain ⟨x0, x1⟩ := HX3.out.pair
    obtain ⟨y0, y1⟩ := HY3.out.pair
    clear hb3 hv3 HGC HX2 HY2 HZ2 HG2
    go_upto_region 6 with fail
    have HT4 := Lib.hid (Blk.new w3 tI #[.bool false, .slice A3 (dig (n.gcd d)).length c3])
    have hb4 := (Below.refl w3.heap.size w3).alloc (Nat.le_refl _) (.cells #[.bool false, .slice A3 (dig (n.gcd d)).length c3] tI)
    have HV4 := Lib.hid (HV3.out.below hb4)
    have HX4 := Lib.hid (HX3.out.below hb4)
    have HY4 := Lib.hid (HY3.out.below hb4)
    have HZ4 := Lib.hid (HZ3.out.below hb4)
    have HG4 := Lib.hid (HG3.out.trans (hb4.mono HG3.out.size))
    clear hb4 HX3 HY3 HZ3 HG3 HV3 x0 x1 y0 y1
    generalize w3.alloc (.cells #[.bool false, .slice A3 (dig (n.gcd d)).length c3] 50) = w4 at *
    generalize w3.heap.size = g5 at *
    obtain ⟨x0, x1⟩ := HX4.out.pair
    obtain ⟨y0, y1⟩ := HY4.out.pair
    obtain ⟨t0, t1⟩ := HT4.out.pair
    have hgp : 0 < Nat.gcd n d := Nat.gcd_pos_of_pos_right n HD0.out
    have hgl : (dig (n.gcd d)).length ≤ 1000 := by
      have h1 := BG.val_lt (BG.ok_dig d)
      rw [BG.val_dig, HK.out.2] at h1
      exact Nat.le_trans (BG.dig_len (Nat.lt_of_le_of_lt (Nat.gcd_le_right n HD0.out) h1)) hl'
    have HGP := Lib.hid (And.intro hgp hgl)
    have HDV := Lib.hid (idiv_any (n : Int) (Nat.gcd n d : Int) (by omega) _ _ w4 (HBN.out.below HG4.out) HV4.out (by rw [Int.natAbs_natCast, HK.out.1]; exact hl) (by rw [Int.natAbs_natCast]; exact hgl))
    rw [sgI_div] at HDV
    clear hgp hgl
    obtain ⟨k3, hk3⟩ : ∃ k, k = (dig (n.gcd d)).length := ⟨_, rfl⟩
    rw [← hk3] at t1 HT4 HGP HDV ⊢
    have HK3 := Lib.hid hk3
    clear hk3
    go_wp2_with fail
    refine HDV.out.mono ?_
    rintro e w5 ⟨v5, rb, rA, rn, rc, rfl, hv5, hb5⟩
    have HV5 := Lib.hid hv5
    have HX5 := Lib.hid (HX4.out.below hb5)
    have HY5 := Lib.hid (HY4.out.below hb5)
    have HZ5 := Lib.hid (HZ4.out.below hb5)
    have HT5 := Lib.hid (HT4.out.below hb5)
    have HG5 := Lib.hid (HG4.out.trans (hb5.mono HG4.out.size))
    have HV5b := Lib.hid (HV4.out.below hb5)
    obtain ⟨A5, c5, rfl, _, _⟩ := nat_bi hv5
    clear hb5 hv5 HDV HX4 HY4 HZ4 HG4 HV4 HT4 x0 x1 y0 y1 t0 t1
    go_upto_region 7 with fail
    have hgl5 : (dig (n / n.gcd d)).length ≤ 1000 := by
      have h1 := BG.val_lt (BG.ok_dig n)
      rw [BG.val_dig, HK.out.1] at h1
      exact Nat.le_trans (BG.dig_len (Nat.lt_of_le_of_lt (Nat.div_le_self _ _) h1)) hl
    obtain ⟨k5, hk5⟩ : ∃ k, k = (dig (n / n.gcd d)).length := ⟨_, rfl⟩
    rw [← hk5] at HV5 hgl5 ⊢
    have HK5 := Lib.hid hk5
    have hb6 := ((Below.refl w5.heap.size w5).alloc (Nat.le_refl _) (.cells #[.bool false, .slice A5 k5 c5] tI)).alloc (by simp) (.cells #[.bool rb, .slice rA rn rc] tI)
    have HT6 := Lib.hid ((Blk.new w5 tI #[.bool false, .slice A5 k5 c5]).alloc (.cells #[.bool rb, .slice rA rn rc] tI))
    have HX6 := Lib.hid (HX5.out.below hb6)
    have HY6 := Lib.hid (HY5.out.below hb6)
    have HZ6 := Lib.hid (HZ5.out.below hb6)
    have HU6 := Lib.hid (HT5.out.below hb6)
    have HG6 := Lib.hid (HG5.out.trans (hb6.mono HG5.out.size))
    have HV6 := Lib.hid (HV5.out.below hb6)
    have HV6b := Lib.hid (HV5b.out.below hb6)
    clear hb6 HX5 HY5 HZ5 HT5 HG5 HV5 HV5b hk5
    generalize ((w5.alloc (.cells #[.bool false, .slice A5 k5 c5] 50)).alloc (.cells #[.bool rb, .slice rA rn rc] 50)) = w6 at *
    generalize w5.heap.size = g6 at *
    obtain ⟨y0, y1⟩ := HY6.out.pair
    obtain ⟨t0, t1⟩ := HU6.out.pair
    have HDV := Lib.hid (idiv_any (d : Int) (Nat.gcd n d : Int) (by have := HGP.out.1; omega) _ _ w6 (HBD.out.below HG6.out) HV6b.out (by rw [Int.natAbs_natCast, HK.out.2]; exact hl') (by rw [Int.natAbs_natCast, ← HK3.out]; exact HGP.out.2))
    rw [sgI_div, ← HK3.out] at HDV
    go_wp2_with fail
    refine HDV.out.mono ?_
    rintro e w7 ⟨v7, rb7, rA7, rn7, rc7, rfl, hv7, hb7⟩
    have HV7 := Lib.hid hv7
    have HT7 := Lib.hid (HT6.out.below hb7)
    have HZ7 := Lib.hid (HZ6.out.below hb7)
    have HG7 := Lib.hid (HG6.out.trans (hb7.mono HG6.out.size))
    have HV7b := Lib.hid (HV6.out.below hb7)
    obtain ⟨A7, c7, rfl, _, _⟩ := nat_bi hv7
    clear hb7 hv7 HDV HX6 HY6 HZ6 HG6 HV6 HV6b HT6 HU6 y0 y1 t0 t1
    go_upto_region 8 with fail
    obtain ⟨k7, hk7⟩ : ∃ k, k = (dig (d / n.gcd d)).length := ⟨_, rfl⟩
    rw [← hk7] at HV7 ⊢
    have HK7 := Lib.hid hk7
    have hb8 := ((Below.refl w7.heap.size w7).alloc (Nat.le_refl _) (.cells #[.bool false, .slice A7 k7 c7] tI)).alloc (by simp) (.cells #[.bool rb7, .slice rA7 rn7 rc7] tI)
    have HS8 := Lib.hid ((Blk.new w7 tI #[.bool false, .slice A7 k7 c7]).alloc (.cells #[.bool rb7, .slice rA7 rn7 rc7] tI))
    have HT8 := Lib.hid (HT7.out.below hb8)
    have HZ8 := Lib.hid (HZ7.out.below hb8)
    have HG8 := Lib.hid (HG7.out.trans (hb8.mono HG7.out.size))
    have HV8 := Lib.hid (HV7.out.below hb8)
    have HV8b := Lib.hid (HV7b.out.below hb8)
    clear hb8 HT7 HZ7 HG7 HV7 HV7b hk7
    generalize ((w7.alloc (.cells #[.bool false, .slice A7 k7 c7] 50)).alloc (.cells #[.bool rb7, .slice rA7 rn7 rc7] 50)) = w8 at *
    generalize w7.heap.size = g8 at *
    obtain ⟨t0, t1⟩ := HT8.out.pair
    obtain ⟨s0, s1⟩ := HS8.out.pair
    obtain ⟨⟨k0, k1', k2', k3'⟩, f0, f1, f2, f3⟩ := rt_cells HZ8.out
    go_wp2_with fail
    refine bodyPost_ret (rt_result rfl rfl (rt_set4 HZ8.out _ _ _ _)) rfl ?_
    have hfx := rt_set4f HZ8.out (.bool false) (.slice A5 k5 c5) (.bool false) (.slice A7 k7 c7)
    obtain ⟨A9, c9, e1, e2, e3⟩ := nat_bi HV8b.out
    obtain ⟨A10, c10, e4, e5, e6⟩ := nat_bi HV8.out
    rw [HK5.out] at e1 hfx ⊢
    rw [HK7.out] at e4 hfx ⊢
    injection e1 with e1
    injection e4 with e4
    simp at e1 e4
    obtain ⟨rfl, rfl⟩ := e1
    obtain ⟨rfl, rfl⟩ := e4
    have hdg : 0 < d / n.gcd d := Nat.div_pos (Nat.gcd_le_right n HD0.out) HGP.out.1
    refine ⟨_, n / n.gcd d, d / n.gcd d, rfl, ⟨A5, c5, A7, c7, d / n.gcd d, rfl, e2.fx hfx (by decide), e3, e5.fx hfx (by decide), e6, by rw [if_neg (by omega)]⟩, ?_, Nat.div_le_self _ _, Nat.div_le_self _ _, rt_set4b (g := w.heap.size + 2) HG8.out (by omega) _ _ _ _⟩
    obtain ⟨a, ha⟩ := Nat.gcd_dvd_left n d
    obtain ⟨b, hb⟩ := Nat.gcd_dvd_right n d
    generalize n.gcd d = g at *
    rw [ha, hb, Nat.mul_div_cancel_left _ HGP.out.1, Nat.mul_div_cancel_left _ HGP.out.1, ← Nat.mul_assoc, Nat.mul_comm a g]
end
end Go.Proofs.Ytdlbokcndbbgnaa
