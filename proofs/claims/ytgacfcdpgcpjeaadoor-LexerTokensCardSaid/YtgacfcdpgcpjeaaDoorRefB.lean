/- The contract of the reference's kind. -/
import Derived.Test.YtgacfcdpgcpjeaaDoorRefA
namespace Go.Proofs.YtgacfcdpgcpjeaaDoor
open Go.RowKit

def wordB (s : ByteArray) (h : 0 < s.size) (k : Nat) : Bool := PL.isLetter s[0] && (s.data.toList.take k).all PL.isInner
def numB (s : ByteArray) (k : Nat) : Bool := (s.data.toList.take k).all PL.isDigit
def blankB (s : ByteArray) (k : Nat) : Bool := (s.data.toList.take k).all PL.isSpace
def comB (s : ByteArray) (h : 0 < s.size) (k : Nat) : Bool := ((s[0].toNat : Int) == 35) && (s.data.toList.take k).all PL.isText
theorem all_step (p : UInt8 → Bool) (s : ByteArray) (k : Nat) (h : k < s.size) : (s.data.toList.take (k + 1)).all p = ((s.data.toList.take k).all p && p s[k]) := by
  have hl : k < s.data.toList.length := by rw [Array.length_toList]; exact h
  rw [List.take_succ_eq_append_getElem hl, List.all_append]
  simp; rfl
theorem wordB_step (s : ByteArray) (h0 : 0 < s.size) (k : Nat) (h : k < s.size) : wordB s h0 (k + 1) = (wordB s h0 k && (PL.isLetter s[k] || PL.isDigit s[k])) := by
  unfold wordB; rw [all_step _ s k h, Bool.and_assoc]; rfl
theorem numB_step (s : ByteArray) (k : Nat) (h : k < s.size) : numB s (k + 1) = (numB s k && PL.isDigit s[k]) := all_step _ s k h
theorem blankB_step (s : ByteArray) (k : Nat) (h : k < s.size) : blankB s (k + 1) = (blankB s k && PL.isSpace s[k]) := all_step _ s k h
theorem comB_step (s : ByteArray) (h0 : 0 < s.size) (k : Nat) (h : k < s.size) : comB s h0 (k + 1) = (comB s h0 k && ((s[k].toNat : Int) != 10)) := by
  unfold comB; rw [all_step _ s k h, Bool.and_assoc, PL.isText_eq]
theorem refKind_eq (s : ByteArray) (h0 : 0 < s.size) : PL.refKind s.data.toList =
    if wordB s h0 s.size then 1 else if numB s s.size then 2 else if hasB PL.signs s.data.toList then 3 else if blankB s s.size then 4 else if comB s h0 s.size then 5 else 0 := by
  have hl : s.data.toList = s[0] :: s.data.toList.tail := by
    have hlen : 0 < s.data.toList.length := by rw [Array.length_toList]; exact h0
    cases hc : s.data.toList with
    | nil => rw [hc] at hlen; simp at hlen
    | cons a t =>
      have : s.data.toList[0] = a := by simp [hc]
      rw [← this]; rfl
  have ht : s.data.toList.take s.size = s.data.toList := List.take_of_length_le (by rw [Array.length_toList]; exact Nat.le_refl _)
  unfold wordB numB blankB comB hasB
  rw [ht, ← show (s[0] == 35) = ((s[0].toNat : Int) == 35) from PL.byte_beq _ _]
  unfold PL.refKind
  rw [hl]

set_option maxHeartbeats 1000000 in
theorem kind_some (s : ByteArray) (w : World) (_hs : s.size ≤ maxLen) (h0 : 0 < s.size) :
    Calls Tryd.prog 25 #[.string s] w fun e w' => e = .returned (.int .u8 (PL.refKind s.data.toList : Int)) ∧ Below w.heap.size w w' := by
  have hsz : ((s.size : Int) == 0) = false := beq_eq_false_iff_ne.2 (by omega)
  have hrk := refKind_eq s h0
  generalize hK : PL.refKind s.data.toList = K at *
  have HRK := Lib.hid hrk
  clear hrk hK
  have hw0 : PL.isLetter s[0] = wordB s h0 0 := by unfold wordB; simp
  have hc0 : ((s[0].toNat : Int) == 35) = comB s h0 0 := by unfold comB; simp
  have hlt0 : (0 : Int) < (s.size : Int) := by omega
  have HW0 := Lib.hid hw0
  have HC0 := Lib.hid hc0
  clear hw0 hc0
  unfold maxLen at _hs
  go_enter Tryd.func25, Tryd.ntmps25
  go_wp2_with fail
  go_quiet ((go_at_call 38; exact quiet_left (rletter_any _ _)))
  go_wp2_with fail
  go_loop [3, 4, 5, 6, 7] (fun a b c d i => ∃ k : Nat, k ≤ s.size ∧ i = .int .i64 k ∧ a = .bool (wordB s h0 k) ∧ b = .bool (numB s k) ∧ c = .bool (blankB s k) ∧ d = .bool (comB s h0 k)) (fun _ _ _ _ i => s.size - (intOf i).toNat)
  case atStart => exact ⟨0, Nat.zero_le _, rfl, by rw [HW0.out], rfl, rfl, by rw [HC0.out]⟩
  case round =>
    obtain ⟨k, hk, rfl, rfl, rfl, rfl, rfl⟩ := hrel
    by_cases hlt : k < s.size
    · have S1 := Lib.hid (wordB_step s h0 k hlt)
      have S2 := Lib.hid (numB_step s k hlt)
      have S3 := Lib.hid (blankB_step s k hlt)
      have S4 := Lib.hid (comB_step s h0 k hlt)
      generalize hc : s[k] = c at *
      have HC := Lib.hid hc
      generalize hwb : wordB s h0 k = wb at *
      generalize hnb : numB s k = nb at *
      generalize hbb : blankB s k = bb at *
      generalize hcb : comB s h0 k = cb at *
      clear hwb hnb hbb hcb
      rcases (show wb = false ∨ (wb = true ∧ PL.isLetter c = true) ∨ (wb = true ∧ PL.isLetter c = false) from by cases wb <;> cases PL.isLetter c <;> simp) with rfl | ⟨rfl, hl⟩ | ⟨rfl, hl⟩ <;> cases nb <;> cases bb <;> cases cb
      all_goals
        go_wp2_with (first | (go_at_call 38; refine (rletter_any _ _).mono ?_; rintro e w' ⟨rfl, rfl⟩) | (go_at_call 39; refine (rdigit_any _ _).mono ?_; rintro e w' ⟨rfl, rfl⟩) | (go_at_call 40; refine (rspace_any _ _).mono ?_; rintro e w' ⟨rfl, rfl⟩))
        go_round
        case rel => exact ⟨k + 1, by omega, by go_num, by rw [S1.out]; simp [*], by rw [S2.out]; simp, by rw [S3.out]; simp, by rw [S4.out]; simp⟩
        case measure => simp [intOf]; omega
    · obtain rfl : k = s.size := by omega
      have hrk := HRK.out
      generalize hwb : wordB s h0 s.size = wb at *
      generalize hnb : numB s s.size = nb at *
      generalize hbb : blankB s s.size = bb at *
      generalize hcb : comB s h0 s.size = cb at *
      generalize hsb : hasB PL.signs s.data.toList = sb at *
      have HSB := Lib.hid hsb
      clear hwb hnb hbb hcb hsb HRK
      rcases (show (wb = true) ∨ (wb = false ∧ nb = true) ∨ (wb = false ∧ nb = false ∧ sb = true) ∨ (wb = false ∧ nb = false ∧ sb = false ∧ bb = true) ∨ (wb = false ∧ nb = false ∧ sb = false ∧ bb = false ∧ cb = true) ∨ (wb = false ∧ nb = false ∧ sb = false ∧ bb = false ∧ cb = false) from by cases wb <;> cases nb <;> cases sb <;> cases bb <;> cases cb <;> simp) with rfl | ⟨rfl, rfl⟩ | ⟨rfl, rfl, rfl⟩ | ⟨rfl, rfl, rfl, rfl⟩ | ⟨rfl, rfl, rfl, rfl, rfl⟩ | ⟨rfl, rfl, rfl, rfl, rfl⟩
      all_goals simp at hrk; subst hrk
      · go_wp2_with fail
        go_ret
        exact ⟨rfl, below_drewN (Below.refl _ _) _⟩
      · go_wp2_with fail
        go_ret
        exact ⟨rfl, below_drewN (Below.refl _ _) _⟩
      all_goals
        go_wp2_with fail
        refine (rsigns_any _).mono ?_
        rintro e w1 ⟨rfl, rfl⟩
        go_wp2_with fail
        refine (in_any _ 28 28 PL.signs s _ rfl (strs_new _ PL.signs _) (by omega)).mono ?_
        rintro e w1 ⟨rfl, rfl⟩
        rw [HSB.out]
        go_wp2_with fail
        go_ret
        exact ⟨rfl, (below_drewN (Below.refl _ _) _).alloc (by simp) _⟩
theorem kind_any (s : ByteArray) (w : World) (hs : s.size ≤ maxLen) :
    Calls Tryd.prog 25 #[.string s] w fun e w' => e = .returned (.int .u8 (PL.refKind s.data.toList : Int)) ∧ Below w.heap.size w w' := by
  by_cases h0 : 0 < s.size
  · exact kind_some s w hs h0
  · have hs0 : s.size = 0 := by omega
    have hsz : ((s.size : Int) == 0) = true := by rw [hs0]; rfl
    have hl : s.data.toList = [] := List.eq_nil_of_length_eq_zero (by rw [Array.length_toList]; exact hs0)
    rw [hl]
    clear hl hs0
    go_enter Tryd.func25, Tryd.ntmps25
    go_wp2_with fail
    go_ret
    exact ⟨rfl, Below.refl _ _⟩
end Go.Proofs.YtgacfcdpgcpjeaaDoor
