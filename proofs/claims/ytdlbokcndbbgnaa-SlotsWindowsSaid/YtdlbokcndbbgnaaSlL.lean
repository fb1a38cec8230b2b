/- Merged from SlK, SlL. -/
import Derived.Test.YtdlbokcndbbgnaaSlH
import Derived.BigQuiet
import Derived.Test.YtdlbokcndbbgnaaSlI
/- The check of a slot, and of a schedule. -/
namespace Go.Proofs.Ytdlbokcndbbgnaa
open Go.RowKit Go.Maps Go.Sort Go.Lib
open SL (Tk Jb Ms Cd)
theorem asc_range (n : Nat) : ∀ (r : List Int) (b : Int), -1 ≤ b → SL.asc n b r = true → ∀ x ∈ r, 0 ≤ x ∧ x < (n : Int)
  | [], _, _, _ => by simp
  | i :: l, b, hb, h => by
    simp [SL.asc] at h
    intro x hx
    rcases List.mem_cons.1 hx with rfl | hx
    · omega
    · exact asc_range n l i (by omega) h.2 x hx
section
set_option maxHeartbeats 1000000
set_option maxRecDepth 100000
end
end Go.Proofs.Ytdlbokcndbbgnaa
/- The walk of Check. -/
namespace Go.Proofs.Ytdlbokcndbbgnaa
open Go.RowKit Go.Maps Go.Sort Go.Lib
open SL (Tk Jb Ms Cd)
theorem chkS_err (ts : List Tk) (rs : List (List Int)) (cores : Int) : ∀ (S : List (List Int)) (t : Nat) (js : List Jb), (SL.chkS ts rs cores S t js).2 ≠ 0 → (SL.chkS ts rs cores S t js).1 = []
  | [], t, js, h => by simp [SL.chkS] at h
  | r :: S, t, js, h => by
    rw [SL.chkS] at h ⊢
    simp only at h ⊢
    by_cases he : SL.chkRow ts cores (SL.begJs ts rs t js) r = 0
    · rw [if_pos he] at h ⊢
      simp only at h ⊢
      rw [if_neg h]
    · rw [if_neg he]
theorem chkRow_ok {ts : List Tk} {cores : Int} {js : List Jb} {r : List Int} (h : SL.chkRow ts cores js r = 0) : SL.asc ts.length (-1) r = true ∧ r.all (SL.pendAt ts js) = true := by
  unfold SL.chkRow at h
  cases ha : SL.asc ts.length (-1) r with
  | false => rw [ha] at h; simp at h
  | true =>
    rw [ha, if_pos rfl] at h
    refine ⟨rfl, ?_⟩
    by_cases hc : cores < (r.length : Int)
    · rw [if_pos hc] at h; simp at h
    · rw [if_neg hc] at h
      cases hp : r.all (SL.pendAt ts js) with
      | true => rfl
      | false => rw [hp] at h; simp at h
theorem asc_gt (n : Nat) : ∀ (r : List Int) (b : Int), SL.asc n b r = true → ∀ x ∈ r, b < x
  | [], _, _ => by simp
  | i :: l, b, h => by
    simp [SL.asc] at h
    intro x hx
    rcases List.mem_cons.1 hx with rfl | hx
    · exact h.1.1
    · have := asc_gt n l i h.2 x hx
      omega
theorem asc_nodup (n : Nat) : ∀ (r : List Int) (b : Int), SL.asc n b r = true → r.Nodup
  | [], _, _ => List.nodup_nil
  | i :: l, b, h => by
    simp [SL.asc] at h
    rw [List.nodup_cons]
    exact ⟨fun hm => by have := asc_gt n l i h.2 i hm; omega, asc_nodup n l i h.2⟩
section
set_option maxHeartbeats 4000000
set_option maxRecDepth 100000
end
end Go.Proofs.Ytdlbokcndbbgnaa
