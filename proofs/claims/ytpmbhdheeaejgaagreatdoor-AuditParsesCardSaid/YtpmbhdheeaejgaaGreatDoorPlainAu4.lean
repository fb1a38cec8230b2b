/- The auditor's example. -/
import Derived.Test.YtpmbhdheeaejgaaGreatDoorPlainAu3
namespace Go.Proofs.YtpmbhdheeaejgaaGreatDoor.AU
open SL (Tk Cd srt winR)
def tk1 : Tk := ⟨⟨#[]⟩, 1, 2⟩
def ea : Ev := ⟨0, -1, 0, 0, 1, 0, 0, 0⟩
def eb : Ev := ⟨0, 0, 0, 0, 2, 1, 0, 0⟩
def ec : Ev := ⟨0, 0, 0, 0, 3, 0, 0, 0⟩
theorem srt_one (c : Cd) : srt [c] = [c] := by
  unfold srt
  have : List.finRange [c].length = [⟨0, by simp⟩] := by rfl
  rw [this, List.mergeSort_singleton]
  rfl
theorem fuel_succ : fuel = 999999 + 1 := rfl
theorem adv_stop {ts : List Tk} {n slot phase k : Nat} {m : Mo} (h : ¬ (m.slot < slot ∨ m.phase < phase)) : adv ts n slot phase (k + 1) m = (0, m) := by
  rw [adv, if_neg h]
theorem adv_go {ts : List Tk} {n slot phase k : Nat} {m : Mo} (h : m.slot < slot ∨ m.phase < phase) (hr : m.req = []) (h5 : m.phase < 5 ∨ m.slot < slot) : adv ts n slot phase (k + 1) m = adv ts n slot phase k (nxt ts n m) := by
  rw [adv, if_pos h, if_neg (by simp [hr]), if_pos h5]
theorem adv_bad {ts : List Tk} {n slot phase k : Nat} {m : Mo} (h : m.slot < slot ∨ m.phase < phase) (hr : m.req ≠ []) : adv ts n slot phase (k + 1) m = (m.phase + 2, m) := by
  rw [adv, if_pos h, if_pos hr]
theorem adv_end0 {ts : List Tk} {n slot phase k : Nat} {m : Mo} (h : m.slot < slot ∨ m.phase < phase) (hr : m.req = []) (h5 : ¬ (m.phase < 5 ∨ m.slot < slot)) : adv ts n slot phase (k + 1) m = (0, m) := by
  rw [adv, if_pos h, if_neg (by simp [hr]), if_neg h5]
def p1 : Pr := ⟨1, true, 0, 0, 0, 0⟩
def p2 : Pr := ⟨1, true, 0, 1, 0, 0⟩
def p3 : Pr := ⟨1, false, 0, 1, 0, 0⟩
theorem ex_ea : exam [tk1] 1 (mo0 1) ea = (0, ⟨[p1], 0, 2, [], 0⟩) := by
  have h : adv [tk1] 1 0 2 fuel (mo0 1) = (0, ⟨[pr0], 0, 2, [], -1⟩) := by
    rw [fuel_succ, adv_go (by decide) rfl (by decide), show (999999 : Nat) = 999998 + 1 from rfl, adv_stop (by decide)]
    rfl
  unfold exam
  rw [if_neg (by decide), if_neg (by decide), show ea.slot.toNat = 0 from rfl, show phaseOf ea.kind = 2 from rfl, h]
  rfl
theorem disp1 : dispL [tk1] [p1] 0 1 = [⟨0, 0, 0, 1⟩] := by
  have hc : canL [tk1] [p1] 0 = [⟨0, tk1, 0, 1⟩] := by decide +kernel
  have hs : sel [tk1] [p1] 0 1 = [0] := by unfold sel; rw [hc, srt_one]; rfl
  unfold dispL
  rw [hs]
  rfl
theorem nxt1 : nxt [tk1] 1 ⟨[p1], 0, 2, [], 0⟩ = ⟨[p1], 0, 3, [⟨0, 0, 0, 1⟩], 0⟩ := by
  unfold nxt need
  rw [if_pos (by decide), if_neg (by decide), if_pos (by decide), disp1]
theorem ex_eb : exam [tk1] 1 ⟨[p1], 0, 2, [], 0⟩ eb = (0, ⟨[p2], 0, 3, [], 0⟩) := by
  have h : adv [tk1] 1 0 3 fuel ⟨[p1], 0, 2, [], 0⟩ = (0, ⟨[p1], 0, 3, [⟨0, 0, 0, 1⟩], 0⟩) := by
    rw [fuel_succ, adv_go (by decide) rfl (by decide), nxt1, show (999999 : Nat) = 999998 + 1 from rfl, adv_stop (by decide)]
  unfold exam
  rw [if_neg (by decide), if_neg (by decide), show eb.slot.toNat = 0 from rfl, show phaseOf eb.kind = 3 from rfl, h]
  rfl
theorem ex_ec : exam [tk1] 1 ⟨[p2], 0, 3, [], 0⟩ ec = (0, ⟨[p3], 0, 4, [], 0⟩) := by
  have h : adv [tk1] 1 0 4 fuel ⟨[p2], 0, 3, [], 0⟩ = (0, ⟨[p2], 0, 4, [], 0⟩) := by
    rw [fuel_succ, adv_go (by decide) rfl (by decide), show (999999 : Nat) = 999998 + 1 from rfl, adv_stop (by decide)]
    rfl
  unfold exam
  rw [if_neg (by decide), if_neg (by decide), show ec.slot.toNat = 0 from rfl, show phaseOf ec.kind = 4 from rfl, h]
  rfl
theorem ex_bad : exam [tk1] 1 ⟨[p1], 0, 2, [], 0⟩ ec = (5, ⟨[p1], 0, 3, [⟨0, 0, 0, 1⟩], 0⟩) := by
  have h : adv [tk1] 1 0 4 fuel ⟨[p1], 0, 2, [], 0⟩ = (5, ⟨[p1], 0, 3, [⟨0, 0, 0, 1⟩], 0⟩) := by
    rw [fuel_succ, adv_go (by decide) rfl (by decide), nxt1, show (999999 : Nat) = 999998 + 1 from rfl, adv_bad (by decide) (by simp)]
  unfold exam
  rw [if_neg (by decide), if_neg (by decide), show ec.slot.toNat = 0 from rfl, show phaseOf ec.kind = 4 from rfl, h]
  rfl
theorem fin1 : fin [tk1] 1 ⟨[p3], 0, 4, [], 0⟩ 3 = none := by
  have h : adv [tk1] 1 0 6 fuel ⟨[p3], 0, 4, [], 0⟩ = (0, ⟨[p3], 0, 5, [], 0⟩) := by
    rw [fuel_succ, adv_go (by decide) rfl (by decide), show nxt [tk1] 1 ⟨[p3], 0, 4, [], 0⟩ = ⟨[p3], 0, 5, [], 0⟩ from rfl, show (999999 : Nat) = 999998 + 1 from rfl, adv_end0 (by decide) rfl (by decide)]
  unfold fin
  rw [if_neg (by decide), h]
  rfl
theorem check_good : check [tk1] 1 [ea, eb, ec] = none := by
  unfold check
  rw [if_pos (by decide)]
  show (match run [tk1] 1 0 (mo0 1) [ea, eb, ec] with
    | (some x, _) => some x
    | (none, m) => fin [tk1] 1 m 3) = none
  rw [run, ex_ea, if_neg (by simp), run, ex_eb, if_neg (by simp), run, ex_ec, if_neg (by simp), run]
  exact fin1
theorem check_bad : check [tk1] 1 [ea, ec] = some (1, 5) := by
  unfold check
  rw [if_pos (by decide)]
  show (match run [tk1] 1 0 (mo0 1) [ea, ec] with
    | (some x, _) => some x
    | (none, m) => fin [tk1] 1 m 2) = some (1, 5)
  rw [run, ex_ea, if_neg (by simp), run, ex_bad, if_pos (by simp)]
end Go.Proofs.YtpmbhdheeaejgaaGreatDoor.AU
