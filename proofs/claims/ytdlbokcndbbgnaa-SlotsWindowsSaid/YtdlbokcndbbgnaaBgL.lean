/- The quotient of integers. -/
import Derived.Test.YtdlbokcndbbgnaaBgK
import Derived.Deep.RegionHeld3
import Derived.ProofKit
namespace Go.Proofs.Ytdlbokcndbbgnaa
open Go.RowKit Go.Maps
open BG (val dig)
abbrev tI : TypeId := 50
/-- What the region that divides holds: nothing but blocks of integers has changed since w1. -/
def DvS (w w1 V : World) (cx cy : Array Value) : Prop := FxT [tI] w1 V ∧ Below w.heap.size w V ∧ Blk V w.heap.size tI cx ∧ Blk V (w.heap.size + 1) tI cy ∧ (∃ u0 u1, Blk V (w.heap.size + 2) tI #[u0, u1]) ∧ (∃ u0 u1, Blk V (w.heap.size + 3) tI #[u0, u1])
theorem DvS.below {w w1 V V' : World} {cx cy : Array Value} (h : DvS w w1 V cx cy) (hb : Below V.heap.size V V') : DvS w w1 V' cx cy := by
  obtain ⟨h1, h2, h3, h4, ⟨u0, u1, h5⟩, ⟨u2, u3, h6⟩⟩ := h
  exact ⟨h1.below hb, h2.trans (hb.mono h2.size), h3.below hb, h4.below hb, ⟨u0, u1, h5.below hb⟩, ⟨u2, u3, h6.below hb⟩⟩
theorem DvS.all {w w1 V : World} {a b c d : Value} (h : DvS w w1 V #[a, b] #[c, d]) : V.cell? ⟨w.heap.size, 0, none⟩ = some a ∧ V.cell? ⟨w.heap.size + 1, 0, none⟩ = some c ∧ DvS w w1 V #[a, b] #[c, d] := ⟨h.2.2.1.pair.1, h.2.2.2.1.pair.1, h⟩
theorem DvS.drew {w w1 V : World} {cx cy : Array Value} (h : DvS w w1 V cx cy) : DvS w w1 V.drew cx cy := by
  obtain ⟨h1, h2, h3, h4, h5, h6⟩ := h
  exact ⟨h1, h2.trans (below_drewN (Below.refl _ _) 1), h3, h4, h5, h6⟩
theorem DvS.put2 {w w1 V : World} {cx cy : Array Value} (h : DvS w w1 V cx cy) (a b : Value) : DvS w w1 ((V.setCell ⟨w.heap.size + 2, 0, none⟩ a).setCell ⟨w.heap.size + 2, 1, none⟩ b) cx cy := by
  obtain ⟨h1, h2, h3, h4, ⟨u0, u1, h5⟩, ⟨u2, u3, h6⟩⟩ := h
  exact ⟨(h1.set h5 (by simp) 0 a).set (h5.set_ 0 a) (by simp) 1 b, (h2.setCell (p := ⟨w.heap.size + 2, 0, none⟩) (by simp) _).setCell (p := ⟨w.heap.size + 2, 1, none⟩) (by simp) _, (h3.far (p := ⟨w.heap.size + 2, 0, none⟩) (by simp) _).far (p := ⟨w.heap.size + 2, 1, none⟩) (by simp) _, (h4.far (p := ⟨w.heap.size + 2, 0, none⟩) (by simp) _).far (p := ⟨w.heap.size + 2, 1, none⟩) (by simp) _, ⟨a, b, (h5.set_ 0 a).set_ 1 b⟩, ⟨u2, u3, (h6.far (p := ⟨w.heap.size + 2, 0, none⟩) (by simp) _).far (p := ⟨w.heap.size + 2, 1, none⟩) (by simp) _⟩⟩
theorem DvS.put3 {w w1 V : World} {cx cy : Array Value} (h : DvS w w1 V cx cy) (a b : Value) : DvS w w1 ((V.setCell ⟨w.heap.size + 3, 0, none⟩ a).setCell ⟨w.heap.size + 3, 1, none⟩ b) cx cy := by
  obtain ⟨h1, h2, h3, h4, ⟨u0, u1, h5⟩, ⟨u2, u3, h6⟩⟩ := h
  exact ⟨(h1.set h6 (by simp) 0 a).set (h6.set_ 0 a) (by simp) 1 b, (h2.setCell (p := ⟨w.heap.size + 3, 0, none⟩) (by simp) _).setCell (p := ⟨w.heap.size + 3, 1, none⟩) (by simp) _, (h3.far (p := ⟨w.heap.size + 3, 0, none⟩) (by simp) _).far (p := ⟨w.heap.size + 3, 1, none⟩) (by simp) _, (h4.far (p := ⟨w.heap.size + 3, 0, none⟩) (by simp) _).far (p := ⟨w.heap.size + 3, 1, none⟩) (by simp) _, ⟨u0, u1, (h5.far (p := ⟨w.heap.size + 3, 0, none⟩) (by simp) _).far (p := ⟨w.heap.size + 3, 1, none⟩) (by simp) _⟩, ⟨a, b, (h6.set_ 0 a).set_ 1 b⟩⟩
theorem DvS.fin {w w1 V : World} {cx cy : Array Value} (h : DvS w w1 V cx cy) (a b c d : Value) : FxT [tI] V ((((V.setCell ⟨w.heap.size + 2, 0, none⟩ a).setCell ⟨w.heap.size + 2, 1, none⟩ b).setCell ⟨w.heap.size + 3, 0, none⟩ c).setCell ⟨w.heap.size + 3, 1, none⟩ d) := by
  have h' := h.put2 a b
  obtain ⟨-, -, -, -, ⟨u0, u1, h5⟩, -⟩ := h
  obtain ⟨-, -, -, -, -, ⟨u2, u3, h6⟩⟩ := h'
  exact ((((FxT.refl [tI] V).set h5 (by simp) 0 a).set (h5.set_ 0 a) (by simp) 1 b).set h6 (by simp) 0 c).set (h6.set_ 0 c) (by simp) 1 d
theorem DvS.both {w w1 V : World} {cx cy : Array Value} (h : DvS w w1 V cx cy) (a b c d : Value) : Blk ((((V.setCell ⟨w.heap.size + 2, 0, none⟩ a).setCell ⟨w.heap.size + 2, 1, none⟩ b).setCell ⟨w.heap.size + 3, 0, none⟩ c).setCell ⟨w.heap.size + 3, 1, none⟩ d) (w.heap.size + 2) tI #[a, b] ∧ Blk ((((V.setCell ⟨w.heap.size + 2, 0, none⟩ a).setCell ⟨w.heap.size + 2, 1, none⟩ b).setCell ⟨w.heap.size + 3, 0, none⟩ c).setCell ⟨w.heap.size + 3, 1, none⟩ d) (w.heap.size + 3) tI #[c, d] := by
  have h' := h.put2 a b
  obtain ⟨-, -, -, -, ⟨u0, u1, h5⟩, -⟩ := h
  obtain ⟨-, -, -, -, -, ⟨u2, u3, h6⟩⟩ := h'
  exact ⟨(((h5.set_ 0 a).set_ 1 b).far (p := ⟨w.heap.size + 3, 0, none⟩) (by simp) c).far (p := ⟨w.heap.size + 3, 1, none⟩) (by simp) d, (h6.set_ 0 c).set_ 1 d⟩
theorem di_result {fn : Func} {p q u : Tmp} (h : fn.results = #[.cell p tI, .cell q tI, .tmp u]) {tmps : Array Value} {w : World} {g g' : Nat} {a b : Array Value} {z : Value} (hp : tmps.getD p undef = .pointer (some ⟨g, 0, none⟩)) (hq : tmps.getD q undef = .pointer (some ⟨g', 0, none⟩)) (hz : tmps.getD u undef = z) (hb : Blk w g tI a) (hb' : Blk w g' tI b) (ha : a.size = 2) (ha' : b.size = 2) :
    (results fn tmps).run Try.prog w = .ok (.tuple #[.agg a, .agg b, z]) w := by
  have hp' : tmps[p]?.getD undef = .pointer (some ⟨g, 0, none⟩) := by simpa using hp
  have hq' : tmps[q]?.getD undef = .pointer (some ⟨g', 0, none⟩) := by simpa using hq
  have hz' : tmps[u]?.getD undef = z := by simpa using hz
  have hi : (Try.prog.info? tI).map (·.size) = some 2 := by kernel_rfl
  simp [results, h, hp', hq', hz', asAddr, run_loadVar_row w g tI tI a (0, 0) _ hb Try.underlying50 rfl (by rw [hi, ha]), run_loadVar_row w g' tI tI b (0, 0) _ hb' Try.underlying50 rfl (by rw [hi, ha'])]
theorem DvS.cells {w w1 V : World} {a b c d : Value} (h : DvS w w1 V #[a, b] #[c, d]) : V.cell? ⟨w.heap.size, 0, none⟩ = some a ∧ V.cell? ⟨w.heap.size + 1, 0, none⟩ = some c := ⟨h.2.2.1.pair.1, h.2.2.2.1.pair.1⟩
theorem DvS.room {w w1 V : World} {cx cy : Array Value} (h : DvS w w1 V cx cy) : ∃ u0 u1 u2 u3, (V.cell? ⟨w.heap.size + 2, 0, none⟩ = some u0 ∧ V.cell? ⟨w.heap.size + 2, 1, none⟩ = some u1) ∧ (V.cell? ⟨w.heap.size + 3, 0, none⟩ = some u2 ∧ V.cell? ⟨w.heap.size + 3, 1, none⟩ = some u3) ∧ V.frozen? ⟨w.heap.size + 2, 0, none⟩ = false ∧ V.frozen? ⟨w.heap.size + 2, 1, none⟩ = false ∧ V.frozen? ⟨w.heap.size + 3, 0, none⟩ = false ∧ V.frozen? ⟨w.heap.size + 3, 1, none⟩ = false := by
  obtain ⟨-, -, -, -, ⟨u0, u1, h5⟩, ⟨u2, u3, h6⟩⟩ := h
  exact ⟨u0, u1, u2, u3, h5.pair, h6.pair, h5.frozen 0, h5.frozen 1, h6.frozen 0, h6.frozen 1⟩
section
set_option maxHeartbeats 4000000
set_option maxRecDepth 100000
theorem idiv_any (x y : Int) (hy0 : y ≠ 0) (vx vy : Value) (w : World) (hx : BI w vx x) (hy : BI w vy y) (hl : (dig x.natAbs).length ≤ 1000) (hl' : (dig y.natAbs).length ≤ 1000) :
    Calls Try.prog 49 #[vx, vy] w fun e w' => ∃ v rb rA rn rc, e = .returned (.tuple #[v, .agg #[.bool rb, .slice rA rn rc], .int .i64 0]) ∧ BI w' v (sgI (!(decide (x < 0) == decide (y < 0))) (x.natAbs / y.natAbs)) ∧ Below w.heap.size w w' := by
  obtain ⟨A, c, rfl, hr, hc⟩ := hx
  obtain ⟨A', c', rfl, hr', hc'⟩ := hy
  have hY0 : 0 < y.natAbs := by omega
  clear hy0
  generalize decide (x < 0) = nx at *
  generalize decide (y < 0) = ny at *
  generalize x.natAbs = X at *
  generalize y.natAbs = Y at *
  obtain ⟨n, hn⟩ : ∃ n, n = (dig X).length := ⟨_, rfl⟩
  obtain ⟨n', hn'⟩ : ∃ n, n = (dig Y).length := ⟨_, rfl⟩
  rw [← hn] at hl hc ⊢
  rw [← hn'] at hl' hc' ⊢
  have hn0 : 0 < n' := by rw [hn', BG.dig_pos (by omega)]; simp
  have r1 : (0 : Int) < (n' : Int) := by omega
  have hg := ((((Below.refl w.heap.size w).alloc (Nat.le_refl _) (.cells #[.bool nx, .slice A n c] 50)).alloc (by simp) (.cells #[.bool ny, .slice A' n' c'] 50)).alloc (by simp; omega) (.cells #[.bool false, .slice none 0 0] 50)).alloc (by simp; omega) (.cells #[.bool false, .slice none 0 0] 50)
  have hX := (((Blk.new w 50 #[.bool nx, .slice A n c]).alloc (.cells #[.bool ny, .slice A' n' c'] 50)).alloc (.cells #[.bool false, .slice none 0 0] 50)).alloc (.cells #[.bool false, .slice none 0 0] 50)
  have hY := ((blk_second w 50 50 #[.bool nx, .slice A n c] #[.bool ny, .slice A' n' c']).alloc (.cells #[.bool false, .slice none 0 0] 50)).alloc (.cells #[.bool false, .slice none 0 0] 50)
  have hZ := (Blk.new ((w.alloc (.cells #[.bool nx, .slice A n c] 50)).alloc (.cells #[.bool ny, .slice A' n' c'] 50)) 50 #[.bool false, .slice none 0 0]).alloc (.cells #[.bool false, .slice none 0 0] 50)
  have hU := Blk.new (((w.alloc (.cells #[.bool nx, .slice A n c] 50)).alloc (.cells #[.bool ny, .slice A' n' c'] 50)).alloc (.cells #[.bool false, .slice none 0 0] 50)) 50 #[.bool false, .slice none 0 0]
  rw [show ((w.alloc (.cells #[.bool nx, .slice A n c] 50)).alloc (.cells #[.bool ny, .slice A' n' c'] 50)).heap.size = w.heap.size + 2 by simp] at hZ
  rw [show (((w.alloc (.cells #[.bool nx, .slice A n c] 50)).alloc (.cells #[.bool ny, .slice A' n' c'] 50)).alloc (.cells #[.bool false, .slice none 0 0] 50)).heap.size = w.heap.size + 3 by simp] at hU
  have HG := Lib.hid hg
  have HX := Lib.hid hX
  have HY := Lib.hid hY
  have HZ := Lib.hid hZ
  have HU := Lib.hid hU
  have HR := Lib.hid (hr.below hg)
  have HR' := Lib.hid (hr'.below hg)
  have HN := Lib.hid (And.intro hn hn')
  have HC := Lib.hid (And.intro hc hc')
  have HY0 := Lib.hid hY0
  clear hg hX hY hZ hU hr hr' hn hn' hY0 hn0
  go_enter Try.func49, Try.ntmps49
  go_upto_region 1 with fail
  generalize (((w.alloc (.cells #[.bool nx, .slice A n c] 50)).alloc (.cells #[.bool ny, .slice A' n' c'] 50)).alloc (.cells #[.bool false, .slice none 0 0] 50)).alloc (.cells #[.bool false, .slice none 0 0] 50) = w0 at *
  have x1 := HX.out.pair.2
  have y1 := HY.out.pair.2
  have HDV := Lib.hid (divide_any X Y HY0.out A A' n c n' c' w0 HN.out.1.symm HN.out.2.symm HR.out HR'.out hc (by omega) (by omega))
  clear hc hc'
  go_wp2_with fail
  refine HDV.out.mono ?_
  rintro e w6 ⟨A1, c1, A2, c2, rfl, g1, g2, g3, g4, hb6⟩
  have HX6 := Lib.hid (HX.out.below hb6)
  have HY6 := Lib.hid (HY.out.below hb6)
  have D0 := Lib.hid (show DvS w w6 w6 #[.bool nx, .slice A n c] #[.bool ny, .slice A' n' c'] from ⟨FxT.refl _ _, HG.out.trans (hb6.mono HG.out.size), HX6.out, HY6.out, ⟨_, _, HZ.out.below hb6⟩, ⟨_, _, HU.out.below hb6⟩⟩)
  have HL1 := Lib.hid (show (dig (X / Y)).length ≤ 1000000 from by
    have h1 := BG.val_lt (BG.ok_dig X)
    rw [BG.val_dig, ← HN.out.1] at h1
    exact Nat.le_trans (BG.dig_len (Nat.lt_of_le_of_lt (Nat.div_le_self X Y) h1)) (by omega))
  have HL2 := Lib.hid (show (dig (X % Y)).length ≤ 1000000 from by
    have h1 := BG.val_lt (BG.ok_dig X)
    rw [BG.val_dig, ← HN.out.1] at h1
    exact Nat.le_trans (BG.dig_len (Nat.lt_of_le_of_lt (Nat.mod_le X Y) h1)) (by omega))
  have HS1 := Lib.hid (fun (V : World) (hV : DvS w w6 V #[.bool nx, .slice A n c] #[.bool ny, .slice A' n' c']) => signed_any (!(nx == ny)) (dig (X / Y)) A1 _ c1 V rfl (g1.fx hV.1 (by decide)) (BG.ok_dig _) HL1.out g2)
  have HS2 := Lib.hid (fun (V : World) (hV : DvS w w6 V #[.bool nx, .slice A n c] #[.bool ny, .slice A' n' c']) => signed_any nx (dig (X % Y)) A2 _ c2 V rfl (g3.fx hV.1 (by decide)) (BG.ok_dig _) HL2.out g4)
  generalize (dig (X / Y)).length = k3 at *
  generalize (dig (X % Y)).length = k4 at *
  clear g1 g2 g3 g4 hb6 HDV HX HY HZ HU HR HR' HG x1 y1
  go_upto_region 4 with fail
  obtain ⟨x0, y0⟩ := D0.out.cells
  go_region_held3 (fun V => V.cell? ⟨w.heap.size, 0, none⟩ = some (.bool nx) ∧ V.cell? ⟨w.heap.size + 1, 0, none⟩ = some (.bool ny) ∧ DvS w w6 V #[.bool nx, .slice A n c] #[.bool ny, .slice A' n' c']) (first | (with_reducible exact D0.out.all) | (with_reducible exact D0.out.drew.all) | (with_reducible exact D1.out.all) | (with_reducible exact D2.out.all) | (with_reducible exact D1.out.drew.all) | (with_reducible exact D2.out.drew.all) | (with_reducible exact (D2.out.put2 _ _).all) | (with_reducible exact (D2.out.put3 _ _).all) | (with_reducible exact ((D2.out.put2 _ _).put3 _ _).all) | (with_reducible exact ((D2.out.put3 _ _).put2 _ _).all) | (with_reducible exact (D1.out.put2 _ _).all) | (with_reducible exact (D1.out.put3 _ _).all) | (with_reducible exact ((D1.out.put2 _ _).put3 _ _).all) | (with_reducible exact ((D1.out.put3 _ _).put2 _ _).all) | fail) (first | (go_at_call 50; (with_reducible refine (HS1.out _ (by first | assumption | (with_reducible exact D0.out) | (with_reducible exact D0.out.drew) | (with_reducible exact D1.out) | (with_reducible exact D2.out) | (with_reducible exact D1.out.drew) | (with_reducible exact D2.out.drew) | (with_reducible exact D1.out.put2 _ _) | (with_reducible exact D2.out.put3 _ _) | (with_reducible exact D1.out.put3 _ _) | (with_reducible exact D2.out.put2 _ _))).mono ?_); rintro e w7 ⟨v7, rfl, hv7, hb7⟩; have D1 := Lib.hid (DvS.below (by first | assumption | (with_reducible exact D0.out) | (with_reducible exact D0.out.drew) | (with_reducible exact D1.out) | (with_reducible exact D2.out) | (with_reducible exact D1.out.drew) | (with_reducible exact D2.out.drew) | (with_reducible exact D1.out.put2 _ _) | (with_reducible exact D2.out.put3 _ _) | (with_reducible exact D1.out.put3 _ _) | (with_reducible exact D2.out.put2 _ _)) hb7); have HQ := Lib.hid hv7; obtain ⟨p0, p1⟩ := D1.out.cells; obtain ⟨u0, u1, u2, u3, ⟨k0, k1⟩, ⟨k2', k3'⟩, f0, f1, f2, f3⟩ := D1.out.room; obtain ⟨A7, c7, rfl, -, -⟩ := hv7) | (go_at_call 50; (with_reducible refine (HS2.out _ (by first | assumption | (with_reducible exact D0.out) | (with_reducible exact D0.out.drew) | (with_reducible exact D1.out) | (with_reducible exact D2.out) | (with_reducible exact D1.out.drew) | (with_reducible exact D2.out.drew) | (with_reducible exact D1.out.put2 _ _) | (with_reducible exact D2.out.put3 _ _) | (with_reducible exact D1.out.put3 _ _) | (with_reducible exact D2.out.put2 _ _))).mono ?_); rintro e w8 ⟨v8, rfl, hv8, hb8⟩; have D2 := Lib.hid (DvS.below (by first | assumption | (with_reducible exact D0.out) | (with_reducible exact D0.out.drew) | (with_reducible exact D1.out) | (with_reducible exact D2.out) | (with_reducible exact D1.out.drew) | (with_reducible exact D2.out.drew) | (with_reducible exact D1.out.put2 _ _) | (with_reducible exact D2.out.put3 _ _) | (with_reducible exact D1.out.put3 _ _) | (with_reducible exact D2.out.put2 _ _)) hb8); (try have HQ2 := Lib.hid (HQ.out.below hb8)); obtain ⟨s0, s1⟩ := D2.out.cells; obtain ⟨u4, u5, u6, u7, ⟨m0, m1⟩, ⟨m2, m3⟩, n0, n1, n2, n3⟩ := D2.out.room; obtain ⟨A8, c8, rfl, -, -⟩ := hv8) | fail)
  go_wp2_with fail
  refine bodyPost_ret (di_result rfl rfl rfl rfl (D2.out.both _ _ _ _).1 (D2.out.both _ _ _ _).2 rfl rfl) rfl ?_
  refine ⟨_, _, _, _, _, rfl, ?_, ((D2.out.put2 _ _).put3 _ _).2.1⟩
  rw [show sgI (!(nx == ny)) (X / Y) = sgI (!(nx == ny)) (val (dig (X / Y))) by rw [BG.val_dig]]
  exact HQ2.out.fx (D2.out.fin _ _ _ _) (by decide)
end
end Go.Proofs.Ytdlbokcndbbgnaa
