/- Rational numbers in memory: comparison. -/
import Derived.Test.YtdlbokcndbbgnaaBgO
import Derived.Deep.RegionHeld3
import Derived.ProofKit
namespace Go.Proofs.Ytdlbokcndbbgnaa
open Go.RowKit Go.Maps
open BG (val dig)
theorem rt_cells8 {w : World} {g g' : Nat} {a b c d a' b' c' d' : Value} (h : Blk w g tR #[a, b, c, d]) (h' : Blk w g' tR #[a', b', c', d']) : w.cell? ⟨g, 0, none⟩ = some a ∧ w.cell? ⟨g, 1, none⟩ = some b ∧ w.cell? ⟨g, 2, none⟩ = some c ∧ w.cell? ⟨g, 3, none⟩ = some d ∧ w.cell? ⟨g', 0, none⟩ = some a' ∧ w.cell? ⟨g', 1, none⟩ = some b' ∧ w.cell? ⟨g', 2, none⟩ = some c' ∧ w.cell? ⟨g', 3, none⟩ = some d' :=
  ⟨h.cell 0, h.cell 1, h.cell 2, h.cell 3, h'.cell 0, h'.cell 1, h'.cell 2, h'.cell 3⟩
theorem below_drew1 {b : Nat} {a w : World} (h : Below b a w) : Below b a w.drew := below_drewN h 1
theorem below_unalloc {w w' : World} {o : Obj} (h : Below (w.alloc o).heap.size (w.alloc o) w') : Below w.heap.size w w' := ((Below.refl w.heap.size w).alloc (Nat.le_refl _) o).trans (h.mono (by simp))
theorem BI.al {w : World} {v : Value} {z : Int} (h : BI w v z) (o : Obj) : BI (w.alloc o) v z := h.below ((Below.refl w.heap.size w).alloc (Nat.le_refl _) o)
theorem far2 {w : World} {g g' : Nat} {t : TypeId} {cs : Array Value} (h : Blk w g t cs) (hne : g ≠ g') (a b : Value) : Blk ((w.setCell ⟨g', 0, none⟩ a).setCell ⟨g', 1, none⟩ b) g t cs := (h.far (p := ⟨g', 0, none⟩) hne a).far (p := ⟨g', 1, none⟩) hne b
theorem below_al {a w : World} {o : Obj} (h : Below a.heap.size a w) : Below a.heap.size a (w.alloc o) := h.alloc h.size o
theorem BI.dr {w : World} {v : Value} {z : Int} (h : BI w v z) : BI w.drew v z := h
theorem cells8_drew {w : World} {g g' : Nat} {a b c d a' b' c' d' : Option Value} (h : w.cell? ⟨g, 0, none⟩ = a ∧ w.cell? ⟨g, 1, none⟩ = b ∧ w.cell? ⟨g, 2, none⟩ = c ∧ w.cell? ⟨g, 3, none⟩ = d ∧ w.cell? ⟨g', 0, none⟩ = a' ∧ w.cell? ⟨g', 1, none⟩ = b' ∧ w.cell? ⟨g', 2, none⟩ = c' ∧ w.cell? ⟨g', 3, none⟩ = d') : w.drew.cell? ⟨g, 0, none⟩ = a ∧ w.drew.cell? ⟨g, 1, none⟩ = b ∧ w.drew.cell? ⟨g, 2, none⟩ = c ∧ w.drew.cell? ⟨g, 3, none⟩ = d ∧ w.drew.cell? ⟨g', 0, none⟩ = a' ∧ w.drew.cell? ⟨g', 1, none⟩ = b' ∧ w.drew.cell? ⟨g', 2, none⟩ = c' ∧ w.drew.cell? ⟨g', 3, none⟩ = d' := h
theorem blk_unalloc2 {w w' : World} {cs : Array Value} {t : TypeId} (hb : Below (w.alloc (.cells cs t)).heap.size (w.alloc (.cells cs t)) w') {g b : Nat} {w0 : World} {z : Array Value} (hz : Blk w g tR z) (hB : Below b w0 w) : Blk w' w.heap.size t cs ∧ g < w.heap.size ∧ w0.heap.size ≤ w.heap.size := ⟨(Blk.new w t cs).below hb, hz.lt, hB.size⟩
theorem tb_below {w w' : World} {cs : Array Value} {t : TypeId} {g : Nat} {Q : Prop} (h : Blk w g t cs ∧ Q) (hb : Below w.heap.size w w') : Blk w' g t cs ∧ Q := ⟨h.1.below hb, h.2⟩
theorem mul_pow_lt {a b k l : Nat} (ha : a < BG.B ^ k) (hb : b < BG.B ^ l) : a * b < BG.B ^ (k + l) := by
  rw [Nat.pow_add]
  exact Nat.mul_lt_mul'' ha hb
theorem BG_lt2 {a b : Nat} (ha : a < BG.B ^ 200) (hb : b < BG.B ^ 200) : a * b < BG.B ^ 400 := by
  have h := mul_pow_lt ha hb
  have e : (200 : Nat) + 200 = 400 := by decide
  rw [e] at h
  exact h
theorem mul_nat (x y : Nat) (vx vy : Value) (w : World) (hx : BI w vx (x : Int)) (hy : BI w vy (y : Int)) (hl : x < BG.B ^ 200) (hl' : y < BG.B ^ 200) :
    Calls Try.prog 35 #[vx, vy] w fun e w' => ∃ v, e = .returned v ∧ BI w' v ((x * y : Nat) : Int) ∧ Below w.heap.size w w' := by
  rw [Int.natCast_mul]
  exact mul_any x y vx vy w hx hy (by rw [Int.natAbs_natCast]; exact Nat.le_trans (BG.dig_len hl) (by omega)) (by rw [Int.natAbs_natCast]; exact Nat.le_trans (BG.dig_len hl') (by omega))
theorem add_nat (x y : Nat) (vx vy : Value) (w : World) (hx : BI w vx (x : Int)) (hy : BI w vy (y : Int)) (hl : x < BG.B ^ 400) (hl' : y < BG.B ^ 400) :
    Calls Try.prog 37 #[vx, vy] w fun e w' => ∃ v, e = .returned v ∧ BI w' v ((x + y : Nat) : Int) ∧ Below w.heap.size w w' := by
  rw [Int.natCast_add]
  exact add_any x y vx vy w hx hy (by rw [Int.natAbs_natCast]; exact Nat.le_trans (BG.dig_len hl) (by omega)) (by rw [Int.natAbs_natCast]; exact Nat.le_trans (BG.dig_len hl') (by omega))
theorem cmp_nat (x y : Nat) (vx vy : Value) (w : World) (hx : BI w vx (x : Int)) (hy : BI w vy (y : Int)) (hl : x < BG.B ^ 400) (hl' : y < BG.B ^ 400) :
    Calls Try.prog 38 #[vx, vy] w fun e w' => e = .returned (.int .i64 (cmpI x y)) ∧ Gr w w' :=
  bcmp_any x y vx vy w hx hy (by rw [Int.natAbs_natCast]; exact Nat.le_trans (BG.dig_len hl) (by omega)) (by rw [Int.natAbs_natCast]; exact Nat.le_trans (BG.dig_len hl') (by omega))
section
set_option maxHeartbeats 4000000
set_option maxRecDepth 100000
theorem rcmp_any (v v' : Value) (N D N' D' : Nat) (w : World) (h : RT w v N D) (h' : RT w v' N' D') (hl : N < BG.B ^ 200 ∧ D < BG.B ^ 200 ∧ N' < BG.B ^ 200 ∧ D' < BG.B ^ 200) :
    Calls Try.prog 19 #[v, v'] w fun e w' => e = .returned (.int .i64 (cmpI ((N : Int) * (D' : Int)) ((N' : Int) * (D : Int)))) ∧ Below w.heap.size w w' := by
  obtain ⟨A, c, A', c', F, rfl, h2, h3, h4, h5, h6⟩ := id h
  obtain ⟨E, d, E', d', F', rfl, i2, i3, i4, i5, i6⟩ := id h'
  have HNX := Lib.hid (bi_nat h2 h3)
  have HNY := Lib.hid (bi_nat i2 i3)
  generalize (dig N).length = k1 at *
  generalize (dig F).length = k2 at *
  generalize (dig N').length = k3 at *
  generalize (dig F').length = k4 at *
  have HRX := Lib.hid h
  have HRY := Lib.hid h'
  have HL := Lib.hid hl
  clear h2 h3 h4 h5 h6 i2 i3 i4 i5 i6 h h' hl
  have hg := ((Below.refl w.heap.size w).alloc (Nat.le_refl _) (.cells #[.bool false, .slice A k1 c, .bool false, .slice A' k2 c'] tR)).alloc (by simp) (.cells #[.bool false, .slice E k3 d, .bool false, .slice E' k4 d'] tR)
  have hX := (Blk.new w tR #[.bool false, .slice A k1 c, .bool false, .slice A' k2 c']).alloc (.cells #[.bool false, .slice E k3 d, .bool false, .slice E' k4 d'] tR)
  have hY := blk_second w tR tR #[.bool false, .slice A k1 c, .bool false, .slice A' k2 c'] #[.bool false, .slice E k3 d, .bool false, .slice E' k4 d']
  have HG := Lib.hid hg
  have HX := Lib.hid hX
  have HY := Lib.hid hY
  clear hg hX hY
  go_enter Try.func19, Try.ntmps19
  go_upto_region 1 with fail
  generalize ((w.alloc (.cells #[.bool false, .slice A k1 c, .bool false, .slice A' k2 c'] tR)).alloc (.cells #[.bool false, .slice E k3 d, .bool false, .slice E' k4 d'] tR)) = w0 at *
  have HBV := Lib.hid (Below.refl w0.heap.size w0)
  have C8 := rt_cells8 HX.out HY.out
  obtain ⟨x0, x1, x2, x3, y0, y1, y2, y3⟩ := C8
  have HDX := Lib.hid (fun (V : World) (hV : Below w0.heap.size w0 V) => den_any _ N D V (HRX.out.below (HG.out.trans (hV.mono HG.out.size))))
  have HDY := Lib.hid (fun (V : World) (hV : Below w0.heap.size w0 V) => den_any _ N' D' V (HRY.out.below (HG.out.trans (hV.mono HG.out.size))))
  have HMX := Lib.hid (fun (V : World) (hV : Below w0.heap.size w0 V) (u : Value) (hu : BI V u (D' : Int)) => mul_nat N D' _ u V (HNX.out.below (HG.out.trans (hV.mono HG.out.size))) hu HL.out.1 HL.out.2.2.2)
  have HMY := Lib.hid (fun (V : World) (hV : Below w0.heap.size w0 V) (u : Value) (hu : BI V u (D : Int)) => mul_nat N' D _ u V (HNY.out.below (HG.out.trans (hV.mono HG.out.size))) hu HL.out.2.2.1 HL.out.2.1)
  go_region_held3 (fun V => V.cell? ⟨w.heap.size, 0, none⟩ = some (.bool false) ∧ V.cell? ⟨w.heap.size, 1, none⟩ = some (.slice A k1 c) ∧ V.cell? ⟨w.heap.size, 2, none⟩ = some (.bool false) ∧ V.cell? ⟨w.heap.size, 3, none⟩ = some (.slice A' k2 c') ∧ V.cell? ⟨w.heap.size + 1, 0, none⟩ = some (.bool false) ∧ V.cell? ⟨w.heap.size + 1, 1, none⟩ = some (.slice E k3 d) ∧ V.cell? ⟨w.heap.size + 1, 2, none⟩ = some (.bool false) ∧ V.cell? ⟨w.heap.size + 1, 3, none⟩ = some (.slice E' k4 d')) (first | (with_reducible exact ⟨x0, x1, x2, x3, y0, y1, y2, y3⟩) | (with_reducible exact rt_cells8 (HX.out.alloc _) (HY.out.alloc _)) | (with_reducible exact cells8_drew (rt_cells8 HX.out HY.out)) | (with_reducible exact cells8_drew (rt_cells8 (HX.out.alloc _) (HY.out.alloc _))) | (with_reducible exact rt_cells8 (far2 HX.out (by have := HT.out.2.1; omega) _ _) (far2 HY.out (by have := HT.out.2.1; omega) _ _)) | fail) (first | (go_at_call 36; (with_reducible refine (HDY.out _ (by first | (with_reducible exact HBV.out) | (with_reducible exact below_drew1 HBV.out))).mono ?_); rintro e V' ⟨u, rfl, hu, hb'⟩; have hb : Below _ _ V' := (by first | (with_reducible exact below_unalloc (below_undrew hb')) | (with_reducible exact below_undrew hb') | (with_reducible exact below_unalloc hb') | (with_reducible exact hb')); have HX := Lib.hid (HX.out.below hb); have HY := Lib.hid (HY.out.below hb); have HBV := Lib.hid (HBV.out.trans (hb.mono HBV.out.size)); (try have HUX := Lib.hid (HUX.out.below hb)); (try have HUY := Lib.hid (HUY.out.below hb)); (try have HM1 := Lib.hid (HM1.out.below hb)); (try have HM2 := Lib.hid (HM2.out.below hb)); have C8 := rt_cells8 HX.out HY.out; obtain ⟨x0, x1, x2, x3, y0, y1, y2, y3⟩ := C8; have HUY := Lib.hid hu; obtain ⟨Au, cu, rfl, -, -⟩ := nat_bi hu) | (go_at_call 36; (with_reducible refine (HDX.out _ (by first | (with_reducible exact HBV.out) | (with_reducible exact below_drew1 HBV.out))).mono ?_); rintro e V' ⟨u, rfl, hu, hb'⟩; have hb : Below _ _ V' := (by first | (with_reducible exact below_unalloc (below_undrew hb')) | (with_reducible exact below_undrew hb') | (with_reducible exact below_unalloc hb') | (with_reducible exact hb')); have HX := Lib.hid (HX.out.below hb); have HY := Lib.hid (HY.out.below hb); have HBV := Lib.hid (HBV.out.trans (hb.mono HBV.out.size)); (try have HUX := Lib.hid (HUX.out.below hb)); (try have HUY := Lib.hid (HUY.out.below hb)); (try have HM1 := Lib.hid (HM1.out.below hb)); (try have HM2 := Lib.hid (HM2.out.below hb)); have C8 := rt_cells8 HX.out HY.out; obtain ⟨x0, x1, x2, x3, y0, y1, y2, y3⟩ := C8; have HUX := Lib.hid hu; obtain ⟨Au, cu, rfl, -, -⟩ := nat_bi hu) | (go_at_call 35; (with_reducible refine (HMX.out _ (by first | (with_reducible exact HBV.out) | (with_reducible exact below_drew1 HBV.out)) _ HUY.out).mono ?_); rintro e V' ⟨u, rfl, hu, hb'⟩; have hb : Below _ _ V' := (by first | (with_reducible exact below_unalloc (below_undrew hb')) | (with_reducible exact below_undrew hb') | (with_reducible exact below_unalloc hb') | (with_reducible exact hb')); have HX := Lib.hid (HX.out.below hb); have HY := Lib.hid (HY.out.below hb); have HBV := Lib.hid (HBV.out.trans (hb.mono HBV.out.size)); (try have HUX := Lib.hid (HUX.out.below hb)); (try have HUY := Lib.hid (HUY.out.below hb)); (try have HM1 := Lib.hid (HM1.out.below hb)); (try have HM2 := Lib.hid (HM2.out.below hb)); have C8 := rt_cells8 HX.out HY.out; obtain ⟨x0, x1, x2, x3, y0, y1, y2, y3⟩ := C8; have HM1 := Lib.hid hu; obtain ⟨Au, cu, rfl, -, -⟩ := nat_bi hu) | (go_at_call 35; (with_reducible refine (HMY.out _ (by first | (with_reducible exact HBV.out) | (with_reducible exact below_drew1 HBV.out)) _ HUX.out).mono ?_); rintro e V' ⟨u, rfl, hu, hb'⟩; have hb : Below _ _ V' := (by first | (with_reducible exact below_unalloc (below_undrew hb')) | (with_reducible exact below_undrew hb') | (with_reducible exact below_unalloc hb') | (with_reducible exact hb')); have HX := Lib.hid (HX.out.below hb); have HY := Lib.hid (HY.out.below hb); have HBV := Lib.hid (HBV.out.trans (hb.mono HBV.out.size)); (try have HUX := Lib.hid (HUX.out.below hb)); (try have HUY := Lib.hid (HUY.out.below hb)); (try have HM1 := Lib.hid (HM1.out.below hb)); (try have HM2 := Lib.hid (HM2.out.below hb)); have C8 := rt_cells8 HX.out HY.out; obtain ⟨x0, x1, x2, x3, y0, y1, y2, y3⟩ := C8; have HM2 := Lib.hid hu; obtain ⟨Au, cu, rfl, -, -⟩ := nat_bi hu) | (go_at_call 38; (with_reducible refine (cmp_nat _ _ _ _ _ HM1.out HM2.out (BG_lt2 HL.out.1 HL.out.2.2.2) (BG_lt2 HL.out.2.2.1 HL.out.2.1)).mono ?_); rintro e V' ⟨rfl, hb''⟩; have hb' := hb''.1; have hb : Below _ _ V' := (by first | (with_reducible exact below_unalloc (below_undrew hb')) | (with_reducible exact below_undrew hb') | (with_reducible exact below_unalloc hb') | (with_reducible exact hb')); have HX := Lib.hid (HX.out.below hb); have HY := Lib.hid (HY.out.below hb); have HBV := Lib.hid (HBV.out.trans (hb.mono HBV.out.size)); (try have HUX := Lib.hid (HUX.out.below hb)); (try have HUY := Lib.hid (HUY.out.below hb)); (try have HM1 := Lib.hid (HM1.out.below hb)); (try have HM2 := Lib.hid (HM2.out.below hb)); have C8 := rt_cells8 HX.out HY.out; obtain ⟨x0, x1, x2, x3, y0, y1, y2, y3⟩ := C8) | fail)
  go_wp2_with fail
  go_ret
  exact ⟨rfl, HG.out.trans (HBV.out.mono HG.out.size)⟩
end
end Go.Proofs.Ytdlbokcndbbgnaa
