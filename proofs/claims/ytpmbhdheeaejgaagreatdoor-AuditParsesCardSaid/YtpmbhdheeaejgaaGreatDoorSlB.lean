/- The windows and the priorities of subtasks. -/
import Derived.Test.YtpmbhdheeaejgaaGreatDoorSlA
import Derived.Deep.RegionWith
import Derived.StillTailTactics
import Derived.Shelf.SlSortCmp.QuietGrown
namespace Go.Proofs.YtpmbhdheeaejgaaGreatDoor
open Go.RowKit Go.Sort
open SL (Tk Jb Ms Cd)
def stV (a b c : Int) : Array Value := #[.int .i64 a, .int .i64 b, .int .i64 c]
theorem st_result {fn : Func} {p q : Tmp} (h : fn.results = #[.cell p 128, .tmp q]) {tmps : Array Value} {w : World} {g : Nat} {a b c : Int} (hp : tmps.getD p undef = .pointer (some ⟨g, 0, none⟩)) (hb : Blk w g 128 (stV a b c)) :
    (results fn tmps).run Tryz.prog w = .ok (.tuple #[.agg (stV a b c), tmps.getD q undef]) w := by
  have hp' : tmps[p]?.getD undef = .pointer (some ⟨g, 0, none⟩) := by simpa using hp
  simp [results, h, hp', asAddr, run_loadVar_row w g 128 128 (stV a b c) (0, 0) _ hb Tryz.underlying128 rfl (by kernel_rfl)]
theorem tk_row1 {W : World} {g : Nat} {t : Tk} {T : TypeId} (h : Blk W g T (tkV t)) : Row W (some ⟨g, 0, none⟩) (tkRow [t]) := fun _ => by
  refine ⟨g, 0, rfl, h.lt, fun i v hi => ?_⟩
  rw [Nat.zero_add, h.cell i]
  rw [← hi]
  simp [tkRow]
section
set_option maxHeartbeats 1000000
set_option maxRecDepth 100000
theorem pvalid_any (t : Tk) (w : World) : Calls Tryz.prog 92 #[.agg (tkV t)] w fun e w' => e = .returned (.bool (SL.okTk t)) ∧ Gr w w' := by
  have HV := Lib.hid (tsvalid_any [t] (some ⟨w.heap.size + 1, 0, none⟩) 1 1 ((w.alloc (.cells #[.string t.name, .int .i64 t.cost, .int .i64 t.per] 34)).alloc (.cells #[.string t.name, .int .i64 t.cost, .int .i64 t.per] 34)) rfl (tk_row1 (blk_second w 34 34 (tkV t) (tkV t))))
  have hok : SL.okTs [t] = SL.okTk t := by unfold SL.okTs; simp
  rw [hok] at HV
  clear hok
  have HB := Lib.hid (((Gr.refl w).alloc (.cells #[.string t.name, .int .i64 t.cost, .int .i64 t.per] 34)).alloc (.cells #[.string t.name, .int .i64 t.cost, .int .i64 t.per] 34))
  obtain ⟨x0, x1, x2⟩ : (w.alloc (.cells #[.string t.name, .int .i64 t.cost, .int .i64 t.per] 34)).cell? ⟨w.heap.size, 0, none⟩ = some (.string t.name) ∧ (w.alloc (.cells #[.string t.name, .int .i64 t.cost, .int .i64 t.per] 34)).cell? ⟨w.heap.size, 1, none⟩ = some (.int .i64 t.cost) ∧ (w.alloc (.cells #[.string t.name, .int .i64 t.cost, .int .i64 t.per] 34)).cell? ⟨w.heap.size, 2, none⟩ = some (.int .i64 t.per) := ⟨(Blk.new w _ _).cell 0, (Blk.new w _ _).cell 1, (Blk.new w _ _).cell 2⟩
  rw [show tkV t = #[.string t.name, .int .i64 t.cost, .int .i64 t.per] from rfl]
  go_enter Tryz.func92, Tryz.ntmps92
  go_wp2_with fail
  refine HV.out.mono ?_
  rintro e w' ⟨rfl, hb⟩
  have HB2 := Lib.hid (HB.out.trans hb)
  clear hb
  go_wp2_with fail
  go_ret
  exact ⟨rfl, HB2.out⟩
theorem up_any (a b : Int) (w : World) (h1 : 0 ≤ a) (h2 : 1 ≤ b) (h3 : a + b ≤ 1000000000000) : Calls Tryz.prog 93 #[.int .i64 a, .int .i64 b] w fun e w' => e = .returned (.int .i64 (SL.up a b)) ∧ w = w' := by
  have p1 : 0 ≤ a + b := by omega
  have p2 : 0 ≤ a + b - 1 := by omega
  have p3 : ¬ b = 0 := by omega
  have p4 : a + b ≤ 9223372036854775807 := by omega
  have p5 : 0 < b := by omega
  go_enter Tryz.func93, Tryz.ntmps93
  go_wp2_with fail
  go_ret
  exact ⟨rfl, rfl⟩
theorem prod_bounds {a b x y : Int} (h1 : 0 ≤ a) (h2 : a ≤ x) (h3 : 0 ≤ b) (h4 : b ≤ y) : 0 ≤ a * b ∧ a * b ≤ x * y :=
  ⟨Int.mul_nonneg h1 h3, Int.mul_le_mul h2 h4 h3 (by omega)⟩
theorem window_any (t : Tk) (i : Int) (w : World) (hw : SL.okW t i) : Calls Tryz.prog 79 #[.agg (tkV t), .int .i64 i] w fun e w' => e = .returned (.tuple #[.agg (stV i (SL.winR t i) (SL.winD t i)), .int .i64 0]) ∧ Gr w w' := by
  obtain ⟨hv, hi1, hi2⟩ := hw
  obtain ⟨v1, v2, v3⟩ := SL.okTk_iff.1 hv
  obtain ⟨m1, m2⟩ := prod_bounds (a := i - 1) (b := t.per) (x := 1000) (y := 1000) (by omega) (by omega) (by omega) (by omega)
  obtain ⟨m3, m4⟩ := prod_bounds (a := i) (b := t.per) (x := 1000) (y := 1000) (by omega) (by omega) (by omega) (by omega)
  have m5 : 0 ≤ (i - 1) * t.per / t.cost := Int.ediv_nonneg m1 (by omega)
  have d1 : decide (i < 1) = false := decide_eq_false (by omega)
  have d2 : decide (t.cost < i) = false := decide_eq_false (by omega)
  have d3 : ¬ t.cost = 0 := by omega
  have m6 : (i - 1) * t.per / t.cost ≤ 1000000 := Int.le_trans (Int.ediv_le_self _ m1) (by omega)
  have z1 : IntKind.i64.wrap (i - 1) = i - 1 := IntWalk.i64_in _ (by omega)
  have z2 : IntKind.i64.wrap ((i - 1) * t.per) = (i - 1) * t.per := IntWalk.i64_in _ (by omega)
  have z3 : IntKind.i64.wrap (i * t.per) = i * t.per := IntWalk.i64_in _ (by omega)
  have z4 : ((i - 1) * t.per).tdiv t.cost = (i - 1) * t.per / t.cost := Int.tdiv_eq_ediv_of_nonneg m1
  have z5 : IntKind.i64.wrap ((i - 1) * t.per / t.cost) = (i - 1) * t.per / t.cost := IntWalk.i64_in _ (by omega)
  have hb1 : Gr w ((w.alloc (.cells #[.string t.name, .int .i64 t.cost, .int .i64 t.per] 34)).alloc (.cells #[.int .i64 0, .int .i64 0, .int .i64 0] 128)) := ((Gr.refl w).alloc _).alloc _
  have hk0 : Blk ((w.alloc (.cells #[.string t.name, .int .i64 t.cost, .int .i64 t.per] 34)).alloc (.cells #[.int .i64 0, .int .i64 0, .int .i64 0] 128)) w.heap.size 34 (tkV t) := (Blk.new w 34 (tkV t)).alloc _
  have hk1 : Blk ((w.alloc (.cells #[.string t.name, .int .i64 t.cost, .int .i64 t.per] 34)).alloc (.cells #[.int .i64 0, .int .i64 0, .int .i64 0] 128)) (w.heap.size + 1) 128 (stV 0 0 0) := blk_second w _ _ _ _
  obtain ⟨x0, x1, x2⟩ : ((w.alloc (.cells #[.string t.name, .int .i64 t.cost, .int .i64 t.per] 34)).alloc (.cells #[.int .i64 0, .int .i64 0, .int .i64 0] 128)).cell? ⟨w.heap.size, 0, none⟩ = some (.string t.name) ∧ ((w.alloc (.cells #[.string t.name, .int .i64 t.cost, .int .i64 t.per] 34)).alloc (.cells #[.int .i64 0, .int .i64 0, .int .i64 0] 128)).cell? ⟨w.heap.size, 1, none⟩ = some (.int .i64 t.cost) ∧ ((w.alloc (.cells #[.string t.name, .int .i64 t.cost, .int .i64 t.per] 34)).alloc (.cells #[.int .i64 0, .int .i64 0, .int .i64 0] 128)).cell? ⟨w.heap.size, 2, none⟩ = some (.int .i64 t.per) := ⟨hk0.cell 0, hk0.cell 1, hk0.cell 2⟩
  have HB1 := Lib.hid hb1
  have HK0 := Lib.hid hk0
  have HK1 := Lib.hid hk1
  have HPV := Lib.hid (fun W => (show Calls Tryz.prog 92 #[.agg #[.string t.name, .int .i64 t.cost, .int .i64 t.per]] W _ from pvalid_any t W))
  have HUP := Lib.hid (fun W => up_any (i * t.per) t.cost W (by omega) (by omega) (by omega))
  have hR : SL.winD t i = SL.up (i * t.per) t.cost := rfl
  have hR2 : SL.winR t i = (i - 1) * t.per / t.cost := rfl
  rw [hv] at HPV
  rw [hR2, hR]
  clear hb1 hk0 hk1 hv hi1 hi2 hR hR2
  rw [show tkV t = #[.string t.name, .int .i64 t.cost, .int .i64 t.per] from rfl]
  generalize SL.up (i * t.per) t.cost = D at *
  go_enter Tryz.func79, Tryz.ntmps79
  go_wp2_with fail
  refine (HPV.out _).mono ?_
  rintro e w2 ⟨rfl, hb⟩
  have HB2 := Lib.hid (HB1.out.trans hb)
  have hk02 := HK0.out.below hb.1
  have HK2 := Lib.hid (HK1.out.below hb.1)
  clear x0 x1 x2 hb
  obtain ⟨x0, x1, x2⟩ : w2.cell? ⟨w.heap.size, 0, none⟩ = some (.string t.name) ∧ w2.cell? ⟨w.heap.size, 1, none⟩ = some (.int .i64 t.cost) ∧ w2.cell? ⟨w.heap.size, 2, none⟩ = some (.int .i64 t.per) := ⟨hk02.cell 0, hk02.cell 1, hk02.cell 2⟩
  obtain ⟨y0, y1, y2⟩ : w2.cell? ⟨w.heap.size + 1, 0, none⟩ = some (.int .i64 0) ∧ w2.cell? ⟨w.heap.size + 1, 1, none⟩ = some (.int .i64 0) ∧ w2.cell? ⟨w.heap.size + 1, 2, none⟩ = some (.int .i64 0) := ⟨HK2.out.cell 0, HK2.out.cell 1, HK2.out.cell 2⟩
  have f0 := HK2.out.frozen 0
  have f1 := HK2.out.frozen 1
  have f2 := HK2.out.frozen 2
  clear HB1 HK0 HK1 hk02
  go_wp2_with fail
  go_still_tail 17, (by kernel_rfl)
  still_call ((HUP.out _).mono fun e w'' ⟨h1, h2⟩ => ⟨h1, h2.symm⟩)
  repeat still_step
  refine wpStill_nil ?_
  change wpList _ _ _ _ _ w2.drew
  have HB3 := Lib.hid HB2.out.drew
  have hk3 : Blk w2.drew (w.heap.size + 1) 128 (stV 0 0 0) := HK2.out.drewN 1
  have HK3 := Lib.hid hk3
  clear HB2 HK2 y0 y1 y2 f0 f1 f2 x0 x1 x2
  generalize w2.drew = w3 at *
  obtain ⟨y0, y1, y2⟩ : w3.cell? ⟨w.heap.size + 1, 0, none⟩ = some (.int .i64 0) ∧ w3.cell? ⟨w.heap.size + 1, 1, none⟩ = some (.int .i64 0) ∧ w3.cell? ⟨w.heap.size + 1, 2, none⟩ = some (.int .i64 0) := ⟨hk3.cell 0, hk3.cell 1, hk3.cell 2⟩
  have f0 := hk3.frozen 0
  have f1 := hk3.frozen 1
  have f2 := hk3.frozen 2
  clear hk3
  go_wp2_with fail
  refine bodyPost_ret (st_result rfl rfl (((HK3.out.set_ 0 _).set_ 1 _).set_ 2 _)) rfl ?_
  exact ⟨rfl, ((HB3.out.set (Nat.le_succ _) 0 _).set (Nat.le_succ _) 1 _).set (Nat.le_succ _) 2 _⟩
theorem overlaps_any (t : Tk) (i : Int) (w : World) (hw : SL.okW t i) : Calls Tryz.prog 96 #[.agg (tkV t), .int .i64 i] w fun e w' => e = .returned (.bool (SL.over t i)) ∧ Gr w w' := by
  obtain ⟨hv, hi1, hi2⟩ := hw
  obtain ⟨v1, v2, v3⟩ := SL.okTk_iff.1 hv
  obtain ⟨m3, m4⟩ := prod_bounds (a := i) (b := t.per) (x := 1000) (y := 1000) (by omega) (by omega) (by omega) (by omega)
  have d3 : ¬ t.cost = 0 := by omega
  have z3 : IntKind.i64.wrap (i * t.per) = i * t.per := IntWalk.i64_in _ (by omega)
  have z4 : (i * t.per).tmod t.cost = i * t.per % t.cost := Int.tmod_eq_emod_of_nonneg m3
  have hk0 : Blk (w.alloc (.cells #[.string t.name, .int .i64 t.cost, .int .i64 t.per] 34)) w.heap.size 34 (tkV t) := Blk.new w 34 (tkV t)
  have HB1 := Lib.hid ((Gr.refl w).alloc (.cells #[.string t.name, .int .i64 t.cost, .int .i64 t.per] 34))
  have HK0 := Lib.hid hk0
  obtain ⟨x0, x1, x2⟩ : (w.alloc (.cells #[.string t.name, .int .i64 t.cost, .int .i64 t.per] 34)).cell? ⟨w.heap.size, 0, none⟩ = some (.string t.name) ∧ (w.alloc (.cells #[.string t.name, .int .i64 t.cost, .int .i64 t.per] 34)).cell? ⟨w.heap.size, 1, none⟩ = some (.int .i64 t.cost) ∧ (w.alloc (.cells #[.string t.name, .int .i64 t.cost, .int .i64 t.per] 34)).cell? ⟨w.heap.size, 2, none⟩ = some (.int .i64 t.per) := ⟨hk0.cell 0, hk0.cell 1, hk0.cell 2⟩
  have HW := Lib.hid (fun W => (show Calls Tryz.prog 79 #[.agg #[.string t.name, .int .i64 t.cost, .int .i64 t.per], .int .i64 i] W fun e w' => e = .returned (.tuple #[.agg #[.int .i64 i, .int .i64 (SL.winR t i), .int .i64 (SL.winD t i)], .int .i64 0]) ∧ Gr W w' from window_any t i W ⟨hv, hi1, hi2⟩))
  have hR : SL.over t i = (i * t.per % t.cost != 0) := rfl
  rw [hR]
  clear hk0 hv hi1 hi2 hR v1 v2 v3
  generalize SL.winR t i = wr at *
  generalize SL.winD t i = wd at *
  rw [show tkV t = #[.string t.name, .int .i64 t.cost, .int .i64 t.per] from rfl]
  go_enter Tryz.func96, Tryz.ntmps96
  go_wp2_with fail
  refine (HW.out _).mono ?_
  rintro e w2 ⟨rfl, hb⟩
  have HB2 := Lib.hid (HB1.out.trans hb)
  have hk02 := HK0.out.below hb.1
  clear x0 x1 x2 hb HB1 HK0
  obtain ⟨x0, x1, x2⟩ : w2.cell? ⟨w.heap.size, 0, none⟩ = some (.string t.name) ∧ w2.cell? ⟨w.heap.size, 1, none⟩ = some (.int .i64 t.cost) ∧ w2.cell? ⟨w.heap.size, 2, none⟩ = some (.int .i64 t.per) := ⟨hk02.cell 0, hk02.cell 1, hk02.cell 2⟩
  have hl := hk02.lt
  clear hk02
  go_wp2_with fail
  go_ret
  exact ⟨rfl, HB2.out.alloc _⟩
theorem heavy_any (t : Tk) (w : World) (hv : SL.okTk t = true) : Calls Tryz.prog 111 #[.agg (tkV t)] w fun e w' => e = .returned (.bool (SL.heavy t)) ∧ Gr w w' := by
  obtain ⟨v1, v2, v3⟩ := SL.okTk_iff.1 hv
  have hk0 : Blk (w.alloc (.cells #[.string t.name, .int .i64 t.cost, .int .i64 t.per] 34)) w.heap.size 34 (tkV t) := Blk.new w 34 (tkV t)
  have HB1 := Lib.hid ((Gr.refl w).alloc (.cells #[.string t.name, .int .i64 t.cost, .int .i64 t.per] 34))
  have HK0 := Lib.hid hk0
  obtain ⟨x0, x1, x2⟩ : (w.alloc (.cells #[.string t.name, .int .i64 t.cost, .int .i64 t.per] 34)).cell? ⟨w.heap.size, 0, none⟩ = some (.string t.name) ∧ (w.alloc (.cells #[.string t.name, .int .i64 t.cost, .int .i64 t.per] 34)).cell? ⟨w.heap.size, 1, none⟩ = some (.int .i64 t.cost) ∧ (w.alloc (.cells #[.string t.name, .int .i64 t.cost, .int .i64 t.per] 34)).cell? ⟨w.heap.size, 2, none⟩ = some (.int .i64 t.per) := ⟨hk0.cell 0, hk0.cell 1, hk0.cell 2⟩
  have HPV := Lib.hid (fun W => (show Calls Tryz.prog 92 #[.agg #[.string t.name, .int .i64 t.cost, .int .i64 t.per]] W _ from pvalid_any t W))
  rw [hv] at HPV
  have z1 : IntKind.i64.wrap (2 * t.cost) = 2 * t.cost := IntWalk.i64_in _ (by omega)
  have hR : SL.heavy t = (decide (t.cost < t.per) && decide (t.per ≤ 2 * t.cost)) := rfl
  generalize SL.heavy t = R at *
  clear hk0 hv
  rw [show tkV t = #[.string t.name, .int .i64 t.cost, .int .i64 t.per] from rfl]
  by_cases c1 : t.cost < t.per
  · have d1 : decide (t.cost < t.per) = true := decide_eq_true c1
    by_cases c2 : t.per ≤ 2 * t.cost
    · have d2 : decide (t.per ≤ 2 * t.cost) = true := decide_eq_true c2
      have HR := Lib.hid (show R = true by rw [hR, d1, d2]; rfl)
      clear hR c1 c2
      go_enter Tryz.func111, Tryz.ntmps111
      go_wp2_with fail
      refine (HPV.out _).mono ?_
      rintro e w2 ⟨rfl, hb⟩
      have HB2 := Lib.hid (HB1.out.trans hb)
      have hk02 := HK0.out.below hb.1
      clear x0 x1 x2 hb HB1 HK0
      obtain ⟨x0, x1, x2⟩ : w2.cell? ⟨w.heap.size, 0, none⟩ = some (.string t.name) ∧ w2.cell? ⟨w.heap.size, 1, none⟩ = some (.int .i64 t.cost) ∧ w2.cell? ⟨w.heap.size, 2, none⟩ = some (.int .i64 t.per) := ⟨hk02.cell 0, hk02.cell 1, hk02.cell 2⟩
      clear hk02
      go_wp2_with fail
      go_ret
      rw [HR.out]
      exact ⟨rfl, HB2.out⟩
    · have d2 : decide (t.per ≤ 2 * t.cost) = false := decide_eq_false c2
      have HR := Lib.hid (show R = false by rw [hR, d1, d2]; rfl)
      clear hR c1 c2
      go_enter Tryz.func111, Tryz.ntmps111
      go_wp2_with fail
      refine (HPV.out _).mono ?_
      rintro e w2 ⟨rfl, hb⟩
      have HB2 := Lib.hid (HB1.out.trans hb)
      have hk02 := HK0.out.below hb.1
      clear x0 x1 x2 hb HB1 HK0
      obtain ⟨x0, x1, x2⟩ : w2.cell? ⟨w.heap.size, 0, none⟩ = some (.string t.name) ∧ w2.cell? ⟨w.heap.size, 1, none⟩ = some (.int .i64 t.cost) ∧ w2.cell? ⟨w.heap.size, 2, none⟩ = some (.int .i64 t.per) := ⟨hk02.cell 0, hk02.cell 1, hk02.cell 2⟩
      clear hk02
      go_wp2_with fail
      go_ret
      rw [HR.out]
      exact ⟨rfl, HB2.out⟩
  · have d1 : decide (t.cost < t.per) = false := decide_eq_false c1
    have HR := Lib.hid (show R = false by rw [hR, d1]; rfl)
    clear hR c1
    go_enter Tryz.func111, Tryz.ntmps111
    go_wp2_with fail
    refine (HPV.out _).mono ?_
    rintro e w2 ⟨rfl, hb⟩
    have HB2 := Lib.hid (HB1.out.trans hb)
    have hk02 := HK0.out.below hb.1
    clear x0 x1 x2 hb HB1 HK0
    obtain ⟨x0, x1, x2⟩ : w2.cell? ⟨w.heap.size, 0, none⟩ = some (.string t.name) ∧ w2.cell? ⟨w.heap.size, 1, none⟩ = some (.int .i64 t.cost) ∧ w2.cell? ⟨w.heap.size, 2, none⟩ = some (.int .i64 t.per) := ⟨hk02.cell 0, hk02.cell 1, hk02.cell 2⟩
    clear hk02
    go_wp2_with fail
    go_ret
    rw [HR.out]
    exact ⟨rfl, HB2.out⟩
end
end Go.Proofs.YtpmbhdheeaejgaaGreatDoor
