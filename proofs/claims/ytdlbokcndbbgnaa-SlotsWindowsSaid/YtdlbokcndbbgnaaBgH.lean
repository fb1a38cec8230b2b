/- Numbers as digits in memory: a digit of a quotient. -/
import Derived.Test.YtdlbokcndbbgnaaBgG
import Derived.Test.YtdlbokcndbbgnaaPlainBig2
import Derived.Deep.CutRange
namespace Go.Proofs.Ytdlbokcndbbgnaa
open Go.RowKit Go.Maps Go.Sort
open BG (val dig)
/-- A window of a row of digits is replaced. -/
structure Win (R R' : List Nat) (o k : Nat) : Prop where
  len : R'.length = R.length
  ok : BG.ok R'
  out : ∀ i, i < o ∨ o + k ≤ i → R'[i]? = R[i]?
/-- A digit of a quotient: the remainder stands in the window. -/
def DdR (w w' : World) (g o n : Nat) (R : List Nat) (V : Nat) (e : Ending) : Prop :=
  e = .returned (.int .u32 ((val ((R.drop o).take (n + 1)) / V : Nat) : Int)) ∧ Fr g w w' ∧ ∃ R', Win R R' o (n + 1) ∧ val ((R'.drop o).take (n + 1)) = val ((R.drop o).take (n + 1)) % V ∧ Blk w' g 104 (dgC R')
theorem sub_step2 {a b bo : Nat} (ha : a < 4294967296) (hb : b < 4294967296) (hbo : bo ≤ 1) : ∃ t1 t : Nat, IntKind.u64.wrap ((a : Int) - (b : Int)) = (t1 : Int) ∧ IntKind.u64.wrap ((t1 : Int) - (bo : Int)) = (t : Int) ∧
    t % 4294967296 + b + bo = a + 4294967296 * (t / 9223372036854775808) ∧ t / 9223372036854775808 ≤ 1 := by
  refine ⟨(IntKind.u64.wrap ((a : Int) - (b : Int))).toNat, (IntKind.u64.wrap (((IntKind.u64.wrap ((a : Int) - (b : Int))).toNat : Int) - (bo : Int))).toNat, ?_, ?_, ?_, ?_⟩
  all_goals
    simp only [u64_mod]
    omega
theorem win_at (R : List Nat) (o n k : Nat) (hk : k < n) : ((R.drop o).take n)[k]? = R[o + k]? := by
  rw [List.getElem?_take, if_pos hk, List.getElem?_drop]
theorem Win.set {R Rs : List Nat} {o i d : Nat} (h : Win R Rs o i) (hd : d < BG.B) : Win R (Rs.set (o + i) d) o (i + 1) := by
  refine ⟨by rw [List.length_set]; exact h.len, ok_set h.ok hd, fun k hk => ?_⟩
  rw [List.getElem?_set_ne (by omega)]
  exact h.out k (by omega)
theorem win_val_set {Rs : List Nat} {o i d : Nat} (hl : o + i < Rs.length) : val (((Rs.set (o + i) d).drop o).take (i + 1)) = val ((Rs.drop o).take i) + BG.B ^ i * d := by
  rw [List.drop_set, if_neg (by omega), Nat.add_sub_cancel_left]
  exact val_set (by rw [List.length_drop]; omega)
theorem win_val_succ {R : List Nat} {o i y : Nat} (h : R[o + i]? = some y) : val ((R.drop o).take (i + 1)) = val ((R.drop o).take i) + BG.B ^ i * y :=
  BG.val_take_succ (by rw [List.getElem?_drop]; exact h)
section
set_option maxHeartbeats 8000000
set_option maxRecDepth 100000
theorem divDigit_any (R vs : List Nat) (hRo : BG.ok R) (hvo : BG.ok vs) (g o g' o' n cp c' : Nat) (hne : g' ≠ g) (w : World) (hB : Blk w g 104 (dgC R)) (hD : DG w (some ⟨g', o', none⟩) vs) (hvn : vs.length = n) (hn2 : 2 ≤ n) (hnl : n ≤ 100000) (hRl : o + n + 1 ≤ R.length)
    (hh : ∀ v1, vs[n - 1]? = some v1 → 2147483648 ≤ v1) (hlt : val ((R.drop o).take (n + 1)) < BG.B * val vs) :
    Calls Try.prog 93 #[.slice (some ⟨g, o, none⟩) (n + 1) cp, .slice (some ⟨g', o', none⟩) n c'] w fun e w' => DdR w w' g o n R (val vs) e := by
  have hBB : BG.B = 4294967296 := rfl
  obtain ⟨k2, hk2⟩ : ∃ k, n = k + 2 := ⟨n - 2, by omega⟩
  obtain ⟨k1, hk1⟩ : ∃ k, k = k2 + 1 := ⟨_, rfl⟩
  have hpl : ((R.drop o).take (n + 1)).length = k2 + 3 := by rw [List.length_take, List.length_drop]; omega
  have hpo : BG.ok ((R.drop o).take (n + 1)) := fun d hd => hRo d (List.mem_of_mem_drop (List.mem_of_mem_take hd))
  obtain ⟨u0, hu0⟩ : ∃ a, R[o + n]? = some a := ⟨_, List.getElem?_eq_getElem (by omega)⟩
  obtain ⟨u1, hu1⟩ : ∃ a, R[o + k1]? = some a := ⟨_, List.getElem?_eq_getElem (by omega)⟩
  obtain ⟨u2, hu2⟩ : ∃ a, R[o + k2]? = some a := ⟨_, List.getElem?_eq_getElem (by omega)⟩
  obtain ⟨v1, hv1⟩ : ∃ a, vs[k1]? = some a := ⟨_, List.getElem?_eq_getElem (by omega)⟩
  obtain ⟨v2, hv2⟩ : ∃ a, vs[k2]? = some a := ⟨_, List.getElem?_eq_getElem (by omega)⟩
  have hv1h := hh v1 (by rw [show n - 1 = k1 by omega]; exact hv1)
  have htop : BG.Tops (k2 + 2) (val ((R.drop o).take (n + 1))) (val vs) (u0 * BG.B + u1) v1 v2 u2 :=
    BG.tops_of hpo hvo hpl (by omega) (by rw [win_at _ _ _ _ (by omega)]; exact hu2) (by rw [win_at _ _ _ _ (by omega), ← hk1]; exact hu1) (by rw [win_at _ _ _ _ (by omega), ← hk2]; exact hu0) hv2 (by rw [← hk1]; exact hv1) hv1h hlt
  have HTOP := Lib.hid htop
  have hG0 := BG.guess0 htop
  have hu0B := BG.ok_at hRo hu0
  have hu1B := BG.ok_at hRo hu1
  have hu2B := BG.ok_at hRo hu2
  have hv1B := BG.ok_at hvo hv1
  have hv2B := BG.ok_at hvo hv2
  rw [hBB] at hu0B hu1B hu2B hv1B hv2B hG0
  obtain ⟨high, hhi⟩ : ∃ h, h = u0 * 4294967296 + u1 := ⟨_, rfl⟩
  have hor := or32 u0 u1 hu0B hu1B
  rw [← hhi] at hor hG0
  have HHI := Lib.hid hhi
  have hhB : high < 18446744073709551616 := by omega
  have p0 := dgC_cell hB hu0
  have p1 := dgC_cell hB hu1
  have hgl := hB.lt
  obtain ⟨b1, o1, e1, hgl', c1⟩ := dg_at hD hv1
  injection e1 with e1
  injection e1 with e1 e2
  subst e1 e2
  have z1 : IntKind.i64.wrap ((n : Int) - 1) = (k1 : Int) := by rw [show (n : Int) - 1 = (k1 : Int) by omega]; exact IntWalk.i64_in _ (by omega)
  have z2 : IntKind.i64.wrap ((n : Int) - 2) = (k2 : Int) := by rw [show (n : Int) - 2 = (k2 : Int) by omega]; exact IntWalk.i64_in _ (by omega)
  have q1 : (k1 : Int) < (n : Int) + 1 := by omega
  have q2 : (k2 : Int) < (n : Int) + 1 := by omega
  have q3 : (k1 : Int) < (n : Int) := by omega
  have q4 : (k2 : Int) < (n : Int) := by omega
  have q5 : (n : Int) < (n : Int) + 1 := by omega
  have HBK := Lib.hid hB
  have HDG := Lib.hid hD
  have HFR := Lib.hid (Fr.refl g w)
  have HK := Lib.hid (And.intro hk2 hk1)
  have HU := Lib.hid (And.intro hu0 (And.intro hu1 hu2))
  have HVV := Lib.hid (And.intro hv1 hv2)
  have HNE := Lib.hid hne
  have HOK := Lib.hid (And.intro hRo hvo)
  have HLN := Lib.hid (And.intro hvn hRl)
  have hv10 : ((v1 : Int) == 0) = false := by simp; omega
  have hv11 : ¬ (v1 : Int) = 0 := by omega
  have hdv : (high : Int).tdiv (v1 : Int) = ((high / v1 : Nat) : Int) := rfl
  have hmd : (high : Int).tmod (v1 : Int) = ((high % v1 : Nat) : Int) := rfl
  have hdl : high / v1 < 18446744073709551616 := Nat.lt_of_le_of_lt (Nat.div_le_self _ _) hhB
  have HG0 := Lib.hid hG0
  have HL0B := Lib.hid (Nat.mod_lt high (show 0 < v1 by omega))
  generalize high / v1 = q0 at *
  generalize high % v1 = l0 at *
  have z3 : IntKind.u64.wrap (q0 : Int) = (q0 : Int) := IntWalk.u64_in _ (by omega)
  clear hB hD hRo hvo hh hlt hpl hpo hu0 hu1 hu2 hv1 hv2 htop hG0 hhi hk2 hk1 hvn hRl hn2
  go_enter Try.func93, Try.ntmps93
  go_wp2_with fail
  go_quiet (fail)
  have HBK1 := Lib.hid (HBK.out.drewN nq)
  have HDG1 := Lib.hid (HDG.out.below (show Below w.heap.size w (w.drewN nq) from below_drewN (Below.refl _ _) nq))
  have HFR1 := Lib.hid (HFR.out.drewN nq)
  have c1' : (w.drewN nq).cell? ⟨g', o' + k1, none⟩ = some (.int .u32 (v1 : Int)) := c1
  clear p0 p1 c1 HBK HDG HFR hor
  generalize w.drewN nq = w1 at *
  go_wp2_with fail
  have HL0 := Lib.hid (show l0 < 8589934592 from by have := HG0.out.sum; have := HL0B.out; omega)
  go_loopw [7, 8] (fun qv lv wr => ∃ (q l m : Nat), qv = .int .u64 (q : Int) ∧ lv = .int .u64 (l : Int) ∧ BG.Guess (val ((R.drop o).take (n + 1))) (val vs) high v1 q l ∧ l < 8589934592 ∧ q < 18446744073709551616 ∧ wr = w1.drewN m) (fun qv _ _ => (intOf qv).toNat)
  case atStart => exact ⟨q0, l0, 0, rfl, rfl, HG0.out, HL0.out, hdl, rfl⟩
  case round =>
    obtain ⟨q, l, m, rfl, rfl, hg, hl, hq, hwr⟩ := hrel
    have HG := Lib.hid hg
    have HBKr := Lib.hid (show Blk wr g 104 (dgC R) by rw [hwr]; exact HBK1.out.drewN m)
    have HDGr := Lib.hid (show DG wr (some ⟨g', o', none⟩) vs by rw [hwr]; exact HDG1.out.below (below_drewN (Below.refl _ _) m))
    have HFRr := Lib.hid (show Fr g w wr by rw [hwr]; exact HFR1.out.drewN m)
    have HWR := Lib.hid hwr
    have p2 := dgC_cell HBKr.out HU.out.2.2
    obtain ⟨b2, o2, e2, hgl2, c2⟩ := dg_at HDGr.out HVV.out.2
    injection e2 with e2
    injection e2 with e3 e4
    subst e3 e4
    have hgl3 := HBKr.out.lt
    clear hg hwr
    go_upto_region 5 with fail
    go_cut [73] from 48 to 73 (fun c wx => ∃ bb : Bool, c = .bool bb ∧ (bb = true → l < 4294967296 ∧ (BG.B ≤ q ∨ l * BG.B + u2 < q * v2)) ∧ (bb = false → BG.B ≤ l ∨ (q < BG.B ∧ q * v2 ≤ l * BG.B + u2)) ∧ ∃ m, wx = wr.drewN m)
    case first =>
      by_cases hlB : l < 4294967296
      · have d1 : decide ((l : Int) < 4294967296) = true := decide_eq_true (by omega)
        by_cases hqB : 4294967296 ≤ q
        · have d2 : decide ((4294967296 : Int) ≤ (q : Int)) = true := decide_eq_true (by omega)
          go_quiet (fail)
          go_wp2_with fail
          go_meet
          exact ⟨true, rfl, fun _ => ⟨hlB, .inl (by rw [hBB]; exact hqB)⟩, fun h => (by cases h), nq, rfl⟩
        · have d2 : decide ((4294967296 : Int) ≤ (q : Int)) = false := decide_eq_false (by omega)
          have hor2 := or32 l u2 hlB hu2B
          obtain ⟨X, hX⟩ : ∃ X, X = q * v2 := ⟨_, rfl⟩
          have hXB : X ≤ 4294967295 * 4294967295 := by rw [hX]; exact Nat.mul_le_mul (by omega) (by omega)
          have z5 : IntKind.u64.wrap ((q : Int) * (v2 : Int)) = (X : Int) := by rw [show (q : Int) * (v2 : Int) = (X : Int) by rw [hX]; simp]; exact IntWalk.u64_in _ (by omega)
          obtain ⟨Y, hY⟩ : ∃ Y, Y = l * 4294967296 + u2 := ⟨_, rfl⟩
          rw [← hY] at hor2
          by_cases hXY : Y < X
          · have d3 : decide ((Y : Int) < (X : Int)) = true := decide_eq_true (by omega)
            have HX := Lib.hid (show l * BG.B + u2 < q * v2 by rw [hBB, ← hX, ← hY]; exact hXY)
            clear hX hY
            go_quiet (fail)
            go_wp2_with fail
            go_meet
            exact ⟨true, rfl, fun _ => ⟨hlB, .inr HX.out⟩, fun h => (by cases h), nq, rfl⟩
          · have d3 : decide ((Y : Int) < (X : Int)) = false := decide_eq_false (by omega)
            have HX := Lib.hid (show q < BG.B ∧ q * v2 ≤ l * BG.B + u2 by rw [hBB, ← hX, ← hY]; omega)
            clear hX hY
            go_quiet (fail)
            go_wp2_with fail
            go_meet
            exact ⟨false, rfl, fun h => (by cases h), fun _ => .inr HX.out, nq, rfl⟩
      · have d1 : decide ((l : Int) < 4294967296) = false := decide_eq_false (by omega)
        go_quiet (fail)
        go_wp2_with fail
        go_meet
        exact ⟨false, rfl, fun h => (by cases h), fun _ => .inl (by rw [hBB]; omega), nq, rfl⟩
    case rest =>
      obtain ⟨bb, rfl, hbt, hbf, m2, rfl⟩ := hcut
      have HBT := Lib.hid hbt
      have HBF := Lib.hid hbf
      clear hbt hbf p2 c2
      cases bb with
      | true =>
        have HBT2 := Lib.hid (HBT.out rfl)
        obtain ⟨hq1, hg1⟩ := BG.guess_dec HTOP.out (by have h := HG.out; rw [HHI.out] at h; exact h) HBT2.out.2
        obtain ⟨qq, hqq⟩ : ∃ k, k = q - 1 := ⟨_, rfl⟩
        rw [← hqq] at hg1
        have HG1 := Lib.hid (show BG.Guess (val ((R.drop o).take (n + 1))) (val vs) high v1 qq (l + v1) by rw [HHI.out]; exact hg1)
        have z5 : IntKind.u64.wrap ((q : Int) - 1) = (qq : Int) := by rw [show (q : Int) - 1 = (qq : Int) by omega]; exact IntWalk.u64_in _ (by omega)
        have hl2 := HBT2.out.1
        have z6 : IntKind.u64.wrap ((l : Int) + (v1 : Int)) = ((l + v1 : Nat) : Int) := by rw [show (l : Int) + (v1 : Int) = ((l + v1 : Nat) : Int) by omega]; exact IntWalk.u64_in _ (by omega)
        have HLT := Lib.hid (show qq < q by omega)
        obtain ⟨b3, o3, e3, hgl4, c3⟩ := dg_at HDGr.out HVV.out.1
        injection e3 with e3
        injection e3 with e3 e4
        subst e3 e4
        have c4 : (wr.drewN m2).cell? ⟨g', o' + k1, none⟩ = some (.int .u32 (v1 : Int)) := c3
        have HWR2 := Lib.hid (show wr.drewN m2 = w1.drewN (m + m2) by rw [HWR.out, World.drewN_drewN])
        clear hg1 hqq HBT HBF c3 hq1
        generalize wr.drewN m2 = w2 at *
        go_wp2_with fail
        refine ⟨⟨qq, l + v1, m + m2, rfl, by simp, HG1.out, by omega, by have := HLT.out; omega, HWR2.out⟩, ?_⟩
        have := HLT.out
        simp [intOf]
        omega
      | false =>
        have hge := BG.guess_end HTOP.out (by have h := HG.out; rw [HHI.out] at h; exact h) (HBF.out rfl)
        have HBK2 := Lib.hid (HBKr.out.drewN m2)
        have HDG2 := Lib.hid (HDGr.out.below (show Below wr.heap.size wr (wr.drewN m2) from below_drewN (Below.refl _ _) m2))
        have HFR2 := Lib.hid (HFRr.out.drewN m2)
        have HGE := Lib.hid (And.intro HG.out.ge hge)
        clear hge HBT HBF HWR HBKr HDGr HFRr HG
        generalize wr.drewN m2 = w2 at *
        go_wp2_with fail
        clear HL0 HL0B hl hq
        have hqB : q < 4294967296 := HGE.out.2.1
        go_loopw [9, 10, 85] (fun cv bv iv wr => ∃ (i cy bo : Nat) (Rs : List Nat), i ≤ n ∧ iv = .int .i64 (i : Int) ∧ cv = .int .u64 (cy : Int) ∧ bv = .int .u64 (bo : Int) ∧ cy < 4294967296 ∧ bo ≤ 1 ∧ Win R Rs o i ∧ val ((Rs.drop o).take i) + q * val (vs.take i) = val ((R.drop o).take i) + BG.B ^ i * (cy + bo) ∧ Blk wr g 104 (dgC Rs) ∧ DG wr (some ⟨g', o', none⟩) vs ∧ Fr g w wr) (fun _ _ iv _ => n - (intOf iv).toNat)
        case atStart => exact ⟨0, 0, 0, R, Nat.zero_le _, rfl, rfl, rfl, by omega, by omega, ⟨rfl, HOK.out.1, fun _ _ => rfl⟩, by simp [val], HBK2.out, HDG2.out, HFR2.out⟩
        case round =>
          obtain ⟨i, cy, bo, Rs, hi, rfl, rfl, rfl, hcy, hbo, hwin, hval, hblk, hdg, hfr⟩ := hrel
          have HWN := Lib.hid hwin
          have HV := Lib.hid hval
          have HBK3 := Lib.hid hblk
          have HDG3 := Lib.hid hdg
          have HFR3 := Lib.hid hfr
          have hgl5 := hblk.lt
          by_cases hin : i < n
          · have r1 : (i : Int) < (n : Int) := by omega
            have r2 : (i : Int) < (n : Int) + 1 := by omega
            obtain ⟨x, hx⟩ : ∃ x, vs[i]? = some x := ⟨_, List.getElem?_eq_getElem (by rw [HLN.out.1]; exact hin)⟩
            obtain ⟨y, hy⟩ : ∃ y, R[o + i]? = some y := ⟨_, List.getElem?_eq_getElem (by have := HLN.out.2; omega)⟩
            have hy2 : Rs[o + i]? = some y := by rw [hwin.out _ (by omega)]; exact hy
            have hxB := BG.ok_at HOK.out.2 hx
            have hyB := BG.ok_at HOK.out.1 hy
            rw [hBB] at hxB hyB
            have k0 := dgC_cell hblk hy2
            have f0 := hblk.frozen (o + i)
            obtain ⟨b4, o4, e4, hgl6, c5⟩ := dg_at hdg hx
            injection e4 with e4
            injection e4 with e4 e5
            subst e4 e5
            obtain ⟨hP1, hP2⟩ := mul_bound (u := 0) hqB hxB (by omega) hcy
            obtain ⟨P, hP⟩ : ∃ P, P = q * x := ⟨_, rfl⟩
            rw [← hP] at hP1 hP2
            rw [Nat.add_zero] at hP2
            have s1 : IntKind.u64.wrap ((q : Int) * (x : Int)) = (P : Int) := by rw [show (q : Int) * (x : Int) = (P : Int) by rw [hP]; simp]; exact IntWalk.u64_in _ (by omega)
            obtain ⟨t, ht⟩ : ∃ t, t = P + cy := ⟨_, rfl⟩
            have s2 : IntKind.u64.wrap ((P : Int) + (cy : Int)) = (t : Int) := by rw [show (P : Int) + (cy : Int) = (t : Int) by omega]; exact IntWalk.u64_in _ (by omega)
            rw [← ht] at hP2
            obtain ⟨t1, D, s4, s5, hD1, hD2⟩ := sub_step2 (a := y) (b := t % 4294967296) (bo := bo) hyB (Nat.mod_lt _ (by omega)) hbo
            have s3 : (t : Int) % 4294967296 = ((t % 4294967296 : Nat) : Int) := by omega
            obtain ⟨tl, htl⟩ : ∃ tl, tl = t % 4294967296 := ⟨_, rfl⟩
            rw [← htl] at s3 s4 hD1
            have s6 : IntKind.i64.wrap ((i : Int) + 1) = (i : Int) + 1 := IntWalk.i64_in _ (by omega)
            have HM := Lib.hid (show (D : Int) % 4294967296 = ((D % BG.B : Nat) : Int) by rw [hBB]; omega)
            have HX := Lib.hid hx
            have HY := Lib.hid hy
            have HTT := Lib.hid (show q * x + cy = t by rw [← hP]; exact ht.symm)
            have HDD := Lib.hid (show D % BG.B + t % BG.B + bo = y + BG.B * (D / 9223372036854775808) by rw [hBB, ← htl]; exact hD1)
            clear hwin hval hblk hdg hfr hx hy hy2 hP ht htl hD1
            go_wp2_with fail
            rw [HM.out]
            refine ⟨⟨i + 1, t / 4294967296, D / 9223372036854775808, Rs.set (o + i) (D % BG.B), hin, by simp, by simp, by simp, hP2, hD2, HWN.out.set (Nat.mod_lt _ BG.B_pos), ?_, dgC_put HBK3.out _ _, HDG3.out.fxb HNE.out _ _, HFR3.out.set _ _⟩, by simp [intOf]; omega⟩
            rw [win_val_set (by rw [HWN.out.len]; have := HLN.out.2; omega), BG.val_take_succ HX.out, win_val_succ HY.out, Nat.pow_succ, ← hBB]
            exact BG.step_sub2 HV.out HTT.out HDD.out
          · have r1 : ¬ (i : Int) < (n : Int) := by omega
            have hie : i = n := by omega
            subst hie
            have hy2 : Rs[o + i]? = some u0 := by rw [hwin.out _ (by omega)]; exact HU.out.1
            have k0 := dgC_cell hblk hy2
            have f0 := hblk.frozen (o + i)
            have r2 : (i : Int) < (i : Int) + 1 := by omega
            obtain ⟨t1, D, s4, s5, hD1, hD2⟩ := sub_step2 (a := u0) (b := cy) (bo := bo) hu0B hcy hbo
            obtain ⟨dd, hdd⟩ : ∃ d, d = D % 4294967296 := ⟨_, rfl⟩
            have hdB : dd < 4294967296 := by rw [hdd]; exact Nat.mod_lt _ (by omega)
            have s6 : (D : Int) % 4294967296 = (dd : Int) := by omega
            rw [← hdd] at hD1
            have HQV := Lib.hid (show val (vs.take i) = val vs from congrArg val (BG.val_take_end (by rw [HLN.out.1]; exact Nat.le_refl _)))
            have hRl : o + i < Rs.length := by rw [hwin.len]; have := HLN.out.2; omega
            have hN := win_val_set (d := dd) hRl
            have hU := win_val_succ HU.out.1
            rw [HQV.out] at hval
            have hfin := BG.fin_sub (b' := D / 9223372036854775808) hval (by rw [hBB]; exact hD1) hN hU (show BG.B ^ (i + 1) = BG.B ^ i * BG.B from Nat.pow_succ ..)
            have HFIN := Lib.hid hfin
            have hVp := HTOP.out.Vpos
            have HVP := Lib.hid hVp
            have HN2 := Lib.hid hN
            have hwin2 : Win R (Rs.set (o + i) dd) o (i + 1) := hwin.set (by rw [hBB]; exact hdB)
            have HW2 := Lib.hid hwin2
            have HPUT := Lib.hid (dgC_put hblk (o + i) dd)
            have HDGP := Lib.hid (hdg.fxb HNE.out (o + i) (.int .u32 (dd : Int)))
            have HFRP := Lib.hid (hfr.set (o + i) (.int .u32 (dd : Int)))
            have s7 : (D : Int) / 9223372036854775808 = ((D / 9223372036854775808 : Nat) : Int) := by simp
            obtain ⟨b', hb'⟩ : ∃ b', b' = D / 9223372036854775808 := ⟨_, rfl⟩
            have s8 : (D : Int) / 9223372036854775808 = (b' : Int) := by rw [s7, hb']
            rw [← hb'] at hD2 HFIN
            clear hwin hval hblk hdg hfr hy2 hdd hD1 hN hU hfin hVp hwin2 s7 hb'
            by_cases hb0 : b' = 0
            · subst hb0
              have hok := BG.fin_ok HVP.out (by have h := HFIN.out; rw [Nat.mul_zero, Nat.add_zero] at h; exact h) HGE.out.1
              have HQ := Lib.hid hok
              have s9 : (q : Int) % 4294967296 = (q : Int) := by omega
              have s10 : (((0 : Nat) : Int) == 0) = true := rfl
              clear hok
              go_wp2_with fail
              go_ret
              refine ⟨by rw [← HQ.out.1]; rfl, HFRP.out, _, HW2.out, HQ.out.2, HPUT.out⟩
            · have hb1 : b' = 1 := by omega
              subst hb1
              have s10 : (((1 : Nat) : Int) == 0) = false := rfl
              have hRl2 : o + i < (Rs.set (o + i) dd).length := by rw [List.length_set]; exact hRl
              have hdat : (Rs.set (o + i) dd)[o + i]? = some dd := List.getElem?_set_self hRl
              generalize Rs.set (o + i) dd = R2 at *
              have HR2L := Lib.hid hRl2
              have HDAT := Lib.hid hdat
              clear hRl hRl2 hdat HBK3 HDG3 HFR3
              have hold := win_val_succ HDAT.out
              have HOLD := Lib.hid hold
              clear hold HN2
              go_wp2_with fail
              clear k0 f0
              go_loopw [9, 138] (fun cv iv wr => ∃ (k c : Nat) (Ss : List Nat), k ≤ i ∧ iv = .int .i64 (k : Int) ∧ cv = .int .u64 (c : Int) ∧ c ≤ 1 ∧ Win R2 Ss o k ∧ val ((Ss.drop o).take k) + BG.B ^ k * c = val ((R2.drop o).take k) + val (vs.take k) ∧ Blk wr g 104 (dgC Ss) ∧ DG wr (some ⟨g', o', none⟩) vs ∧ Fr g w wr) (fun _ iv _ => i - (intOf iv).toNat)
              case atStart => exact ⟨0, 0, R2, Nat.zero_le _, rfl, rfl, by omega, ⟨rfl, HW2.out.ok, fun _ _ => rfl⟩, by simp [val], HPUT.out, HDGP.out, HFRP.out⟩
              case round =>
                obtain ⟨k, c, Ss, hk, rfl, rfl, hc, hwin, hval, hblk, hdg, hfr⟩ := hrel
                have HWN3 := Lib.hid hwin
                have HV3 := Lib.hid hval
                have HBK4 := Lib.hid hblk
                have HDG4 := Lib.hid hdg
                have HFR4 := Lib.hid hfr
                have hgl7 := hblk.lt
                by_cases hki : k < i
                · have r1 : (k : Int) < (i : Int) := by omega
                  have r3 : (k : Int) < (i : Int) + 1 := by omega
                  obtain ⟨x, hx⟩ : ∃ x, vs[k]? = some x := ⟨_, List.getElem?_eq_getElem (by rw [HLN.out.1]; exact hki)⟩
                  obtain ⟨y, hy⟩ : ∃ y, R2[o + k]? = some y := ⟨_, List.getElem?_eq_getElem (by have := HR2L.out; omega)⟩
                  have hy2 : Ss[o + k]? = some y := by rw [hwin.out _ (by omega)]; exact hy
                  have hxB := BG.ok_at HOK.out.2 hx
                  have hyB := BG.ok_at HW2.out.ok hy
                  rw [hBB] at hxB hyB
                  have k0 := dgC_cell hblk hy2
                  obtain ⟨b4, o4, e4, hgl6, c5⟩ := dg_at hdg hx
                  injection e4 with e4
                  injection e4 with e4 e5
                  subst e4 e5
                  have t1' : IntKind.u64.wrap ((y : Int) + (x : Int)) = ((y + x : Nat) : Int) := by rw [show (y : Int) + (x : Int) = ((y + x : Nat) : Int) by omega]; exact IntWalk.u64_in _ (by omega)
                  have t2' : IntKind.u64.wrap (((y + x : Nat) : Int) + (c : Int)) = ((y + x + c : Nat) : Int) := by rw [show ((y + x : Nat) : Int) + (c : Int) = ((y + x + c : Nat) : Int) by omega]; exact IntWalk.u64_in _ (by omega)
                  have t3' : IntKind.i64.wrap ((k : Int) + 1) = (k : Int) + 1 := IntWalk.i64_in _ (by omega)
                  have HM := Lib.hid (show ((y : Int) + (x : Int) + (c : Int)) % 4294967296 = (((y + x + c) % BG.B : Nat) : Int) by rw [hBB]; omega)
                  have HX := Lib.hid hx
                  have HY := Lib.hid hy
                  have HY2 := Lib.hid hy2
                  clear hwin hval hblk hdg hfr hx hy hy2
                  go_wp2_with fail
                  go_quiet (fail)
                  have HBK5 := Lib.hid (HBK4.out.drewN nq)
                  have HDG5 := Lib.hid (HDG4.out.below (show Below wr.heap.size wr (wr.drewN nq) from below_drewN (Below.refl _ _) nq))
                  have HFR5 := Lib.hid (HFR4.out.drewN nq)
                  have k1' := dgC_cell HBK5.out HY2.out
                  have f1' := HBK5.out.frozen (o + k)
                  have hgl8 := HBK5.out.lt
                  clear k0 c5 HBK4 HDG4 HFR4
                  generalize wr.drewN nq = w4 at *
                  go_wp2_with fail
                  rw [HM.out]
                  refine ⟨⟨k + 1, (y + x + c) / BG.B, Ss.set (o + k) ((y + x + c) % BG.B), hki, by simp, by rw [hBB]; simp, by rw [hBB]; omega, HWN3.out.set (Nat.mod_lt _ BG.B_pos), ?_, dgC_put HBK5.out _ _, HDG5.out.fxb HNE.out _ _, HFR5.out.set _ _⟩, by simp [intOf]; omega⟩
                  rw [win_val_set (by rw [HWN3.out.len]; have := HR2L.out; omega), BG.val_take_succ HX.out, win_val_succ HY.out, Nat.pow_succ]
                  refine BG.step_add (x := y) (y := x) (c := c) HV3.out ?_ rfl
                  omega
                · have r1 : ¬ (k : Int) < (i : Int) := by omega
                  have hke : k = i := by omega
                  subst hke
                  have hd2 : Ss[o + k]? = some dd := by rw [hwin.out _ (by omega)]; exact HDAT.out
                  have k0 := dgC_cell hblk hd2
                  have f0 := hblk.frozen (o + k)
                  rw [HQV.out] at hval
                  have hSl : o + k < Ss.length := by rw [hwin.len]; exact HR2L.out
                  have hnw : val ((Ss.drop o).take k) < BG.B ^ k := by
                    have h := BG.val_lt (l := (Ss.drop o).take k) (fun d hd => hwin.ok d (List.mem_of_mem_drop (List.mem_of_mem_take hd)))
                    rw [List.length_take, List.length_drop, Nat.min_eq_left (by omega)] at h
                    exact h
                  have hNlt : val ((R2.drop o).take (k + 1)) < BG.B ^ k * BG.B := by
                    have h := BG.val_lt (l := (R2.drop o).take (k + 1)) (fun d hd => HW2.out.ok d (List.mem_of_mem_drop (List.mem_of_mem_take hd)))
                    rw [List.length_take, List.length_drop, Nat.min_eq_left (by have := HR2L.out; omega), Nat.pow_succ] at h
                    exact h
                  have hVP : val vs ≤ BG.B ^ k := by
                    have h := BG.val_lt HOK.out.2
                    rw [HLN.out.1] at h
                    exact Nat.le_of_lt h
                  have hbk := BG.fin_back HVP.out hVP hnw (by have h := HFIN.out; rw [Nat.mul_one, Nat.pow_succ] at h; exact h) HOLD.out hNlt HGE.out.2.2.1 hval
                  rw [hBB] at hbk
                  obtain ⟨g1, g2, g3⟩ := hbk
                  have HQ1 := Lib.hid g1
                  have HQ2 := Lib.hid g2
                  have hq1 : 1 ≤ q := by
                    refine Nat.pos_of_ne_zero fun h0 => ?_
                    have h := HFIN.out
                    rw [h0, Nat.zero_mul, Nat.add_zero, Nat.mul_one, Nat.pow_succ] at h
                    omega
                  have m1' : IntKind.u32.wrap ((dd : Int) + (c : Int)) = 0 := by
                    rw [show (dd : Int) + (c : Int) = 4294967296 by omega]; rfl
                  have m2' : (c : Int) % 4294967296 = (c : Int) := by omega
                  obtain ⟨qq, hqq⟩ : ∃ qq, qq = q - 1 := ⟨_, rfl⟩
                  have m3' : IntKind.u64.wrap ((q : Int) - 1) = (qq : Int) := by rw [show (q : Int) - 1 = (qq : Int) by omega]; exact IntWalk.u64_in _ (by omega)
                  have m4' : (qq : Int) % 4294967296 = (qq : Int) := by omega
                  have HQQ := Lib.hid (show qq = val ((R.drop o).take (k + 1)) / val vs by rw [hqq]; exact g1)
                  have HVS := Lib.hid (show val (((Ss.set (o + k) 0).drop o).take (k + 1)) = val ((R.drop o).take (k + 1)) % val vs by rw [win_val_set hSl, Nat.mul_zero, Nat.add_zero]; exact g2)
                  have HPUT2 := Lib.hid (dgC_put hblk (o + k) 0)
                  have HWF := Lib.hid (show Win R (Ss.set (o + k) 0) o (k + 1) from
                    ⟨by rw [List.length_set, hwin.len]; exact HW2.out.len, ok_set hwin.ok BG.B_pos, fun j hj => by
                      rw [List.getElem?_set_ne (by omega), hwin.out j (by omega)]
                      exact HW2.out.out j hj⟩)
                  have HFR5 := Lib.hid (hfr.set (o + k) (.int .u32 ((0 : Nat) : Int)))
                  clear hwin hval hblk hdg hfr hd2 hnw hNlt hVP g1 g2 hqq
                  go_wp2_with fail
                  go_ret
                  exact ⟨by rw [← HQQ.out]; rfl, HFR5.out, _, HWF.out, HVS.out, HPUT2.out⟩
end
end Go.Proofs.Ytdlbokcndbbgnaa
