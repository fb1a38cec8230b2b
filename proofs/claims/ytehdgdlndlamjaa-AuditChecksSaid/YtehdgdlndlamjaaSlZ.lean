/- The reference's windows, groups and priorities. -/
import Derived.Test.YtehdgdlndlamjaaSlC
import Derived.Test.YtehdgdlndlamjaaPlainSl5
import Derived.BigQuiet
namespace Go.Proofs.Ytehdgdlndlamjaa
open Go.RowKit Go.Sort
open SL (Tk Jb Ms Cd)
section
set_option maxHeartbeats 2000000
set_option maxRecDepth 100000
theorem rwindow_any (t : Tk) (i : Int) (w : World) (hw : SL.okW t i) : Calls Try.prog 34 #[.int .i64 t.cost, .int .i64 t.per, .int .i64 i] w fun e w' => e = .returned (.tuple #[.int .i64 (SL.winR t i), .int .i64 (SL.winD t i)]) ∧ ∃ q, w' = w.drewN q := by
  obtain ⟨hv, hi1, hi2⟩ := hw
  obtain ⟨v1, v2, v3⟩ := SL.okTk_iff.1 hv
  obtain ⟨m1, m2⟩ := prod_bounds (a := i - 1) (b := t.per) (x := 1000) (y := 1000) (by omega) (by omega) (by omega) (by omega)
  obtain ⟨m3, m4⟩ := prod_bounds (a := i) (b := t.per) (x := 1000) (y := 1000) (by omega) (by omega) (by omega) (by omega)
  have d3 : ¬ t.cost = 0 := by omega
  have m5 : 0 ≤ (i - 1) * t.per / t.cost := Int.ediv_nonneg m1 (by omega)
  have m6 : (i - 1) * t.per / t.cost ≤ 1000000 := Int.le_trans (Int.ediv_le_self _ m1) (by omega)
  have m7 : 0 ≤ i * t.per + t.cost - 1 := by omega
  have m8 : 0 ≤ (i * t.per + t.cost - 1) / t.cost := Int.ediv_nonneg m7 (by omega)
  have m9 : (i * t.per + t.cost - 1) / t.cost ≤ 2000000 := Int.le_trans (Int.ediv_le_self _ m7) (by omega)
  have z1 : IntKind.i64.wrap (i - 1) = i - 1 := IntWalk.i64_in _ (by omega)
  have z2 : IntKind.i64.wrap ((i - 1) * t.per) = (i - 1) * t.per := IntWalk.i64_in _ (by omega)
  have z3 : IntKind.i64.wrap (i * t.per) = i * t.per := IntWalk.i64_in _ (by omega)
  have z4 : ((i - 1) * t.per).tdiv t.cost = (i - 1) * t.per / t.cost := Int.tdiv_eq_ediv_of_nonneg m1
  have z5 : IntKind.i64.wrap ((i - 1) * t.per / t.cost) = (i - 1) * t.per / t.cost := IntWalk.i64_in _ (by omega)
  have z6 : IntKind.i64.wrap (i * t.per + t.cost) = i * t.per + t.cost := IntWalk.i64_in _ (by omega)
  have z7 : IntKind.i64.wrap (i * t.per + t.cost - 1) = i * t.per + t.cost - 1 := IntWalk.i64_in _ (by omega)
  have z8 : (i * t.per + t.cost - 1).tdiv t.cost = (i * t.per + t.cost - 1) / t.cost := Int.tdiv_eq_ediv_of_nonneg m7
  have z9 : IntKind.i64.wrap ((i * t.per + t.cost - 1) / t.cost) = (i * t.per + t.cost - 1) / t.cost := IntWalk.i64_in _ (by omega)
  rw [show SL.winD t i = (i * t.per + t.cost - 1) / t.cost from rfl, show SL.winR t i = (i - 1) * t.per / t.cost from rfl]
  clear hv
  go_enter Try.func34, Try.ntmps34
  go_wp2_with fail
  go_quiet (fail)
  go_wp2_with fail
  go_ret2
  exact ⟨rfl, _, rfl⟩
theorem roverlaps_any (t : Tk) (i : Int) (w : World) (hw : SL.okW t i) : Calls Try.prog 48 #[.int .i64 t.cost, .int .i64 t.per, .int .i64 i] w fun e w' => e = .returned (.bool (SL.over t i)) ∧ ∃ q, w' = w.drewN q := by
  obtain ⟨hv, hi1, hi2⟩ := hw
  obtain ⟨v1, v2, v3⟩ := SL.okTk_iff.1 hv
  obtain ⟨m3, m4⟩ := prod_bounds (a := i) (b := t.per) (x := 1000) (y := 1000) (by omega) (by omega) (by omega) (by omega)
  have d3 : ¬ t.cost = 0 := by omega
  have z3 : IntKind.i64.wrap (i * t.per) = i * t.per := IntWalk.i64_in _ (by omega)
  have z4 : (i * t.per).tmod t.cost = i * t.per % t.cost := Int.tmod_eq_emod_of_nonneg m3
  rw [show SL.over t i = (i * t.per % t.cost != 0) from rfl]
  clear hv
  go_enter Try.func48, Try.ntmps48
  go_wp2_with fail
  go_ret
  exact ⟨rfl, 0, rfl⟩
theorem rheavy_any (t : Tk) (w : World) (hv : SL.okTk t = true) : Calls Try.prog 49 #[.int .i64 t.cost, .int .i64 t.per] w fun e w' => e = .returned (.bool (SL.heavy t)) ∧ ∃ q, w' = w.drewN q := by
  obtain ⟨v1, v2, v3⟩ := SL.okTk_iff.1 hv
  have z1 : IntKind.i64.wrap (2 * t.cost) = 2 * t.cost := IntWalk.i64_in _ (by omega)
  have hR : SL.heavy t = (decide (t.cost < t.per) && decide (t.per ≤ 2 * t.cost)) := rfl
  generalize SL.heavy t = R at *
  clear hv
  by_cases c1 : t.cost < t.per
  · have d1 : decide (t.cost < t.per) = true := decide_eq_true c1
    have HR := Lib.hid (show R = decide (t.per ≤ 2 * t.cost) by rw [hR, d1]; rfl)
    clear hR c1
    go_enter Try.func49, Try.ntmps49
    go_wp2_with fail
    go_ret
    rw [HR.out]
    exact ⟨rfl, 0, rfl⟩
  · have d1 : decide (t.cost < t.per) = false := decide_eq_false c1
    have HR := Lib.hid (show R = false by rw [hR, d1]; rfl)
    clear hR c1
    go_enter Try.func49, Try.ntmps49
    go_wp2_with fail
    go_ret
    rw [HR.out]
    exact ⟨rfl, 0, rfl⟩
def NoEnd (c p x : Int) (k : Nat) : Prop := ∀ j : Nat, j + 1 < k → SL.isEnd c p x ((j : Int) + 1) = false
theorem noEnd_all {c p x : Int} {k : Nat} (h : NoEnd c p x k) (hk : c < (k : Int)) : SL.anyEnd c p x = false := by
  unfold SL.anyEnd
  rw [← Bool.not_eq_true, List.any_eq_true]
  rintro ⟨j, hj, he⟩
  rw [List.mem_range] at hj
  rw [h j (by omega)] at he
  cases he
theorem end_any {c p x : Int} {k : Nat} (hk1 : 1 ≤ k) (hk : (k : Int) ≤ c) (h : SL.isEnd c p x (k : Int) = true) : SL.anyEnd c p x = true := by
  unfold SL.anyEnd
  rw [List.any_eq_true]
  exact ⟨k - 1, by rw [List.mem_range]; omega, by rw [show (((k - 1 : Nat) : Int) + 1) = (k : Int) from by omega]; exact h⟩
theorem rgroup_any (t : Tk) (i : Int) (w : World) (hw : SL.okW t i) (hh : SL.heavy t = true) : Calls Try.prog 50 #[.int .i64 t.cost, .int .i64 t.per, .int .i64 i] w fun e w' => e = .returned (.int .i64 (SL.grp t i)) ∧ ∃ q, w' = w.drewN q := by
  have hnot : ∀ (x : Bool) (w : World), (Op.unary .not (.bool x)).run Try.prog w = .ok (.bool (!x)) w := fun _ _ => rfl
  obtain ⟨D1, D2⟩ := SL.winD_bounds hw
  obtain ⟨v1, v2, v3⟩ := SL.okTk_iff.1 hw.1
  have HV := Lib.hid hw.1
  have HG := Lib.hid (SL.grp_eq hw hh 1001 (by omega))
  have HW := Lib.hid (fun W => rwindow_any t i W hw)
  have HWK := Lib.hid (fun (k : Nat) (h1 : 1 ≤ k) (h2 : (k : Int) ≤ t.cost) W => rwindow_any t k W ⟨HV.out, by omega, h2⟩)
  have HOK := Lib.hid (fun (k : Nat) (h1 : 1 ≤ k) (h2 : (k : Int) ≤ t.cost) W => roverlaps_any t k W ⟨HV.out, by omega, h2⟩)
  have HH := Lib.hid (rheavy_any t w hw.1)
  rw [hh] at HH
  have HDB := Lib.hid (fun (k : Nat) (h1 : 1 ≤ k) (h2 : (k : Int) ≤ t.cost) => SL.winD_bounds (t := t) (i := k) ⟨HV.out, by omega, h2⟩)
  have HFB := Lib.hid (show ∀ (k : Nat), 1 ≤ k → (k : Int) ≤ t.cost → 0 ≤ SL.winR t k ∧ SL.winR t k ≤ 1000000 from fun k h1 h2 => by
    obtain ⟨m1, m2⟩ := prod_bounds (a := (k : Int) - 1) (b := t.per) (x := 1000) (y := 1000) (by omega) (by omega) (by omega) (by omega)
    exact ⟨Int.ediv_nonneg m1 (by omega), Int.le_trans (Int.ediv_le_self _ m1) (by omega)⟩)
  have HE := Lib.hid (show ∀ (k : Nat) (x : Int), SL.isEnd t.cost t.per x k = ((decide (x = SL.winD t k) && !(SL.over t k)) || (decide (x + 1 = SL.winD t k) && decide (SL.winD t k - SL.winR t k = 3))) from fun _ _ => rfl)
  generalize SL.grp t i = G at *
  generalize SL.winD t i = d at *
  generalize SL.winR t i = f at *
  clear hw hh
  go_enter Try.func50, Try.ntmps50
  go_wp2_with fail
  (with_reducible refine HH.out.mono ?_)
  rintro e w1 ⟨rfl, q1, rfl⟩
  clear HH
  go_wp2_with fail
  (with_reducible refine (HW.out _).mono ?_)
  rintro e w2 ⟨rfl, q2, rfl⟩
  clear HW
  have HD := Lib.hid (show (w.drewN q1).drewN q2 = w.drewN (q1 + q2) from by rw [World.drewN_drewN])
  rw [HD.out]
  generalize q1 + q2 = q0
  clear HD
  go_wp2_with fail
  go_loopw [9] (fun v wr => ∃ (x : Int) (n q : Nat), 1 ≤ x ∧ x ≤ t.per + 1 ∧ t.per - x < n ∧ v = .int .i64 x ∧ Hid (SL.grpR t.cost t.per d n x = G) ∧ wr = w.drewN q) (fun v _ => (t.per + 1 - intOf v).toNat)
  case atStart => exact ⟨d, 1001, q0, D1, by omega, by omega, rfl, HG, rfl⟩
  case round =>
    obtain ⟨x, n, q, hx1, hxp, hn, rfl, HX, rfl⟩ := hrel
    by_cases hxl : x ≤ t.per
    · have q0 : x ≤ t.per := hxl
      obtain ⟨n, rfl⟩ : ∃ m, n = m + 1 := ⟨n - 1, by omega⟩
      have HX2 := Lib.hid (show (if SL.anyEnd t.cost t.per x then x else SL.grpR t.cost t.per d n (x + 1)) = G by
        have h := HX.out
        rw [SL.grpR, if_pos hxl] at h
        exact h)
      go_wp2_with fail
      go_loopw [10] (fun v wr => ∃ (k q : Nat), 1 ≤ k ∧ (k : Int) ≤ t.cost + 1 ∧ v = .int .i64 (k : Int) ∧ Hid (NoEnd t.cost t.per x k) ∧ wr = w.drewN q) (fun v _ => (t.cost + 1 - intOf v).toNat)
      case atStart => exact ⟨1, q, Nat.le_refl _, by omega, rfl, Lib.hid (fun j h => by omega), rfl⟩
      case round =>
        obtain ⟨k, q, hk1, hk2, rfl, HN, rfl⟩ := hrel
        by_cases hkc : (k : Int) ≤ t.cost
        · have q1 : (k : Int) ≤ t.cost := hkc
          have HWC := Lib.hid (HWK.out k hk1 hkc)
          have HOC := Lib.hid (HOK.out k hk1 hkc)
          obtain ⟨b1, b2⟩ := HDB.out k hk1 hkc
          obtain ⟨b3, b4⟩ := HFB.out k hk1 hkc
          have HEK := Lib.hid (HE.out k x)
          have HHIT := Lib.hid (show SL.isEnd t.cost t.per x k = true → x = G from fun h => by
            have h2 := HX2.out
            rw [end_any hk1 hkc h, if_pos rfl] at h2
            exact h2)
          have HSTEP := Lib.hid (show SL.isEnd t.cost t.per x k = false → NoEnd t.cost t.per x (k + 1) from fun h j hj => by
            rcases Nat.lt_or_ge (j + 1) k with h1 | h1
            · exact HN.out j h1
            · have e : k = j + 1 := by omega
              subst e
              exact h)
          generalize SL.winD t k = D at *
          generalize SL.winR t k = F at *
          generalize SL.over t k = o at *
          generalize SL.isEnd t.cost t.per x k = b at *
          have z1 : IntKind.i64.wrap (x + 1) = x + 1 := IntWalk.i64_in _ (by omega)
          have z2 : IntKind.i64.wrap (D - F) = D - F := IntWalk.i64_in _ (by omega)
          go_wp2_with fail
          (with_reducible refine (HWC.out _).mono ?_)
          rintro e w3 ⟨rfl, q3, rfl⟩
          rw [World.drewN_drewN]
          generalize q + q3 = q4
          by_cases h1 : x = D
          · subst h1
            have e1 : (x == x) = true := by simp
            have e2 : (x + 1 == x) = false := by simp; omega
            cases o with
            | false =>
              have HRG := Lib.hid (HHIT.out (by rw [HEK.out, decide_eq_true (rfl : x = x)]; rfl))
              go_wp2_with fail
              (with_reducible refine (HOC.out _).mono ?_)
              rintro e w5 ⟨rfl, q5, rfl⟩
              rw [World.drewN_drewN]
              go_wp2_with fail
              go_ret
              rw [HRG.out]
              exact ⟨rfl, _, rfl⟩
            | true =>
              have HNN := Lib.hid (HSTEP.out (by rw [HEK.out, decide_eq_false (show ¬ x + 1 = x by omega)]; simp))
              go_wp2_with fail
              (with_reducible refine (HOC.out _).mono ?_)
              rintro e w5 ⟨rfl, q5, rfl⟩
              rw [World.drewN_drewN]
              go_wp2_with fail
              exact ⟨⟨k + 1, _, by omega, by omega, by simp, HNN, rfl⟩, by simp [intOf]; omega⟩
          · have e1 : (x == D) = false := by simp [h1]
            by_cases h2 : x + 1 = D
            · have e2 : (x + 1 == D) = true := by simp [h2]
              by_cases h3 : D - F = 3
              · have e3 : (D - F == 3) = true := by simp [h3]
                have HRG := Lib.hid (HHIT.out (by rw [HEK.out, decide_eq_true h2, decide_eq_true h3]; simp))
                clear h2 h3
                go_wp2_with fail
                go_ret
                rw [HRG.out]
                exact ⟨rfl, _, rfl⟩
              · have e3 : (D - F == 3) = false := by simp [h3]
                have HNN := Lib.hid (HSTEP.out (by rw [HEK.out, decide_eq_false h1, decide_eq_false h3]; simp))
                clear h2 h3
                go_wp2_with fail
                exact ⟨⟨k + 1, _, by omega, by omega, by simp, HNN, rfl⟩, by simp [intOf]; omega⟩
            · have e2 : (x + 1 == D) = false := by simp [h2]
              have HNN := Lib.hid (HSTEP.out (by rw [HEK.out, decide_eq_false h1, decide_eq_false h2]; simp))
              clear h2
              go_wp2_with fail
              exact ⟨⟨k + 1, _, by omega, by omega, by simp, HNN, rfl⟩, by simp [intOf]; omega⟩
        · have q1 : ¬ (k : Int) ≤ t.cost := hkc
          have HXN := Lib.hid (show SL.grpR t.cost t.per d n (x + 1) = G by
            have h := HX2.out
            rw [noEnd_all HN.out (by omega), if_neg (by simp)] at h
            exact h)
          go_wp2_with fail
          exact ⟨⟨x + 1, n, q, by omega, by omega, by omega, by simp, HXN, rfl⟩, by simp [intOf]; omega⟩
    · have q0 : ¬ x ≤ t.per := hxl
      have HRP := Lib.hid (show t.per = G by
        have h := HX.out
        cases n with
        | zero => exact h
        | succ n => rw [SL.grpR, if_neg hxl] at h; exact h)
      go_wp2_with fail
      go_ret
      rw [HRP.out]
      exact ⟨rfl, q, rfl⟩
end
end Go.Proofs.Ytehdgdlndlamjaa
