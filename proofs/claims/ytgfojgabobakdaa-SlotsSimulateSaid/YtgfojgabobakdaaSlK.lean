/- The check of a slot, and of a schedule. -/
import Derived.Test.YtgfojgabobakdaaSlH
import Derived.BigQuiet
namespace Go.Proofs.Ytgfojgabobakdaa
open Go.RowKit Go.Maps Go.Sort Go.Lib
open SL (Tk Jb Ms Cd)
theorem asc_range (n : Nat) : ∀ (r : List Int) (b : Int), -1 ≤ b → SL.asc n b r = true → ∀ x ∈ r, 0 ≤ x ∧ x < (n : Int)
  | [], _, _, _ => by simp
  | i :: l, b, hb, h => by
    simp [SL.asc] at h
    intro x hx
    rcases List.mem_cons.1 hx with rfl | hx
    · omega
    · exact asc_range n l i (by omega) h.2 x hx
section
set_option maxHeartbeats 1000000
set_option maxRecDepth 100000
theorem check_any (B : World) (M : Mdl) (hmc : MC B M) (gm gj : Nat) (js : List Jb) (mv : Value) (ms : List Ms) (cores : Int) (r : List Int) (A : Option Addr) (c : Nat) (w : World) (hI : MInv B M gm gj js mv ms w) (hr : Row w A (r.map (Value.int .i64))) (hrl : r.length ≤ maxLen) :
    Calls Try.prog 38 #[.pointer (some ⟨gm, 0, none⟩), .int .i64 cores, .slice A r.length c] w fun e w' => e = .returned (.int .i64 (SL.chkRow M.ts cores js r : Int)) ∧ ∃ q, w' = w.drewN q := by
  have hnot : ∀ (x : Bool) (w : World), (Op.unary .not (.bool x)).run Try.prog w = .ok (.bool (!x)) w := fun _ _ => rfl
  have hm : maxLen = 9223372036854775807 := rfl
  rw [hm] at hrl
  have hchk : SL.chkRow M.ts cores js r = if SL.asc M.ts.length (-1) r then (if cores < r.length then 20 else if r.all (SL.pendAt M.ts js) then 0 else 14) else 3 := rfl
  generalize SL.chkRow M.ts cores js r = R at *
  have m0 : w.cell? ⟨gm, 0, none⟩ = some (.slice M.A M.ts.length M.c) := hI.bm.cell 0
  have HI := Lib.hid hI
  have HR := Lib.hid hr
  have HMC := Lib.hid hmc
  have HC := Lib.hid hchk
  have h40 := hmc.n40
  have hjl := hI.jl
  clear hI hr hmc hm hchk
  go_enter Try.func38, Try.ntmps38
  go_wp2_with fail
  go_loopw [7, 14] (fun bv v wr => ∃ (k : Nat) (b : Int), k ≤ r.length ∧ v = .int .i64 (k : Int) ∧ bv = .int .i64 b ∧ SL.asc M.ts.length b (r.drop k) = SL.asc M.ts.length (-1) r ∧ wr = w) (fun _ v _ => r.length - (intOf v).toNat)
  case atStart => exact ⟨0, -1, Nat.zero_le _, rfl, rfl, rfl, rfl⟩
  case round =>
    obtain ⟨k, b, hk, rfl, rfl, has, hwr⟩ := hrel
    rw [hwr]
    clear hwr
    by_cases hlt : k < r.length
    · have q0 : (k : Int) < (r.length : Int) := by omega
      obtain ⟨x, hx⟩ : ∃ x, r[k]? = some x := ⟨_, List.getElem?_eq_getElem hlt⟩
      obtain ⟨ab, ao, rfl, _, cx⟩ := HR.out.at (show (r.map (Value.int .i64))[k]? = some (.int .i64 x) by simp [hx])
      have hdr : r.drop k = x :: r.drop (k + 1) := by
        obtain ⟨h1, h2⟩ := List.getElem?_eq_some_iff.1 hx
        rw [← h2]; exact List.drop_eq_getElem_cons h1
      rw [hdr, SL.asc] at has
      clear hx hdr
      by_cases h1 : b < x
      · have d1 : decide (x ≤ b) = false := decide_eq_false (by omega)
        by_cases h2 : x < (M.ts.length : Int)
        · have d2 : decide ((M.ts.length : Int) ≤ x) = false := decide_eq_false (by omega)
          rw [decide_eq_true h1, decide_eq_true h2] at has
          have HAS := Lib.hid has
          clear has h1 h2
          go_wp2_with fail
          exact ⟨⟨k + 1, x, hlt, by simp, by simp, HAS.out, by simp⟩, by simp [intOf]; omega⟩
        · have d2 : decide ((M.ts.length : Int) ≤ x) = true := decide_eq_true (by omega)
          rw [decide_eq_false h2, Bool.and_false, Bool.false_and] at has
          have HRF := Lib.hid (show R = 3 by rw [HC.out, ← has]; rfl)
          clear has h1 h2
          go_wp2_with fail
          go_ret
          rw [HRF.out]
          exact ⟨rfl, 0, rfl⟩
      · have d1 : decide (x ≤ b) = true := decide_eq_true (by omega)
        rw [decide_eq_false h1, Bool.false_and, Bool.false_and] at has
        have HRF := Lib.hid (show R = 3 by rw [HC.out, ← has]; rfl)
        clear has h1
        go_wp2_with fail
        go_ret
        rw [HRF.out]
        exact ⟨rfl, 0, rfl⟩
    · have q0 : ¬ (k : Int) < (r.length : Int) := by omega
      rw [List.drop_eq_nil_of_le (by omega), SL.asc] at has
      have hrg := asc_range M.ts.length r (-1) (by omega) has.symm
      have hC2 := HC.out
      rw [← has, if_pos rfl] at hC2
      have HRG := Lib.hid hrg
      have HAS := Lib.hid has
      clear has hrg
      by_cases hcr : cores < (r.length : Int)
      · have d3 : decide (cores < (r.length : Int)) = true := decide_eq_true hcr
        rw [if_pos hcr] at hC2
        have HRF := Lib.hid hC2
        clear hC2
        go_wp2_with fail
        go_ret
        rw [HRF.out]
        exact ⟨rfl, 0, rfl⟩
      · have d3 : decide (cores < (r.length : Int)) = false := decide_eq_false hcr
        rw [if_neg hcr] at hC2
        have HC2 := Lib.hid hC2
        clear hC2 hcr
        go_wp2_with fail
        go_loopw [38] (fun v wx => ∃ (i q : Nat), i ≤ r.length ∧ v = .int .i64 (i : Int) ∧ (r.drop i).all (SL.pendAt M.ts js) = r.all (SL.pendAt M.ts js) ∧ wx = w.drewN q) (fun v _ => r.length - (intOf v).toNat)
        case atStart => exact ⟨0, 0, Nat.zero_le _, rfl, rfl, rfl⟩
        case round =>
          obtain ⟨i, q, hi, rfl, hall, hwx⟩ := hrel
          by_cases hil : i < r.length
          · have q1 : (i : Int) < (r.length : Int) := by omega
            obtain ⟨x, hx⟩ : ∃ x, r[i]? = some x := ⟨_, List.getElem?_eq_getElem hil⟩
            obtain ⟨hx0, hx1⟩ := HRG.out x (List.mem_of_getElem? hx)
            obtain ⟨kx, rfl⟩ := Int.eq_ofNat_of_zero_le hx0
            have hkx : kx < M.ts.length := by omega
            obtain ⟨t, ht⟩ : ∃ t, M.ts[kx]? = some t := ⟨_, List.getElem?_eq_getElem hkx⟩
            obtain ⟨j, hj⟩ : ∃ j, js[kx]? = some j := ⟨_, List.getElem?_eq_getElem (by omega)⟩
            obtain ⟨ab, ao, rfl, _, cx0⟩ := HR.out.at (show (r.map (Value.int .i64))[i]? = some (.int .i64 (kx : Int)) by simp [hx])
            have cx : (w.drewN q).cell? ⟨ab, ao + i, none⟩ = some (.int .i64 (kx : Int)) := cx0
            have HPE := Lib.hid (pending_any B M HMC.out gm gj js mv ms kx t j ht hj (w.drewN q) (HI.out.drewN q))
            have hpa : SL.pendAt M.ts js (kx : Int) = SL.pend t j := by unfold SL.pendAt; rw [Int.toNat_natCast, ht, hj]
            have hdr : r.drop i = (kx : Int) :: r.drop (i + 1) := by
              obtain ⟨h1, h2⟩ := List.getElem?_eq_some_iff.1 hx
              rw [← h2]; exact List.drop_eq_getElem_cons h1
            rw [hdr, List.all_cons, hpa] at hall
            rw [hwx]
            clear hdr hpa cx0 hx ht hj hx0 hx1 hwx
            cases hp : SL.pend t j with
            | true =>
              rw [hp] at HPE hall
              have HAL := Lib.hid (show (r.drop (i + 1)).all (SL.pendAt M.ts js) = r.all (SL.pendAt M.ts js) from hall)
              clear hp hall
              go_wp2_with fail
              refine HPE.out.mono ?_
              rintro e w2 ⟨rfl, q2, hw2⟩
              rw [World.drewN_drewN] at hw2
              have HW2 := Lib.hid hw2
              clear hw2
              go_wp2_with fail
              exact ⟨⟨i + 1, q + q2, hil, by simp, HAL.out, HW2.out⟩, by simp [intOf]; omega⟩
            | false =>
              rw [hp] at HPE hall
              have HRF := Lib.hid (show R = 14 by rw [HC2.out, ← hall]; rfl)
              clear hp hall
              go_wp2_with fail
              refine HPE.out.mono ?_
              rintro e w2 ⟨rfl, q2, hw2⟩
              rw [World.drewN_drewN] at hw2
              have HW2 := Lib.hid hw2
              clear hw2
              go_wp2_with fail
              go_ret
              rw [HRF.out]
              exact ⟨rfl, q + q2, HW2.out⟩
          · have q1 : ¬ (i : Int) < (r.length : Int) := by omega
            rw [List.drop_eq_nil_of_le (by omega)] at hall
            have HRF := Lib.hid (show R = 0 by rw [HC2.out, ← hall]; rfl)
            have HWX := Lib.hid hwx
            clear hall hwx
            go_wp2_with fail
            go_ret
            rw [HRF.out]
            exact ⟨rfl, q, HWX.out⟩
end
end Go.Proofs.Ytgfojgabobakdaa
