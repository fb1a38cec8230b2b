/- The candidates of a slot. -/
import Derived.Test.YtpmbhdheeaejgaaGreatDoorSlF
import Derived.BigRegion
import Derived.Deep.CutRange
namespace Go.Proofs.YtpmbhdheeaejgaaGreatDoor
open Go.RowKit Go.Maps
open SL (Tk Jb Ms Cd)
def cdL (c : Cd) : List Value := (cdV c).toList
def cdC (l : List Cd) : List Value := l.flatMap cdL
theorem infoCd : (Tryz.prog.info? 132).map (fun i => (i.zero, i.size, i.bytes)) = some (some (.agg #[.int .i64 0, .string ⟨#[]⟩, .int .i64 0, .int .i64 0, .int .i64 0, .int .i64 0]), 6, 56) := by kernel_rfl
theorem cands_take : ∀ (ts : List Tk) (i : Nat) (slot : Int) (js : List Jb) (k : Nat) (t : Tk) (j : Jb), ts[k]? = some t → js[k]? = some j →
    SL.cands (ts.take (k + 1)) i slot (js.take (k + 1)) = SL.cands (ts.take k) i slot (js.take k) ++ (if SL.elig t slot j then [SL.mkCd (i + k) t j] else [])
  | [], _, _, _, _, _, _, h, _ => by simp at h
  | _ :: _, _, _, [], _, _, _, _, h => by simp at h
  | t0 :: ts, i, slot, j0 :: js, 0, t, j, h1, h3 => by
    simp at h1 h3; subst h1 h3; simp [SL.cands]
  | t0 :: ts, i, slot, j0 :: js, k + 1, t, j, h1, h3 => by
    rw [List.take_succ_cons, List.take_succ_cons, SL.cands, cands_take ts (i + 1) slot js k t j (by simpa using h1) (by simpa using h3)]
    simp [SL.cands, Nat.add_assoc, Nat.add_comm 1 k]
theorem cands_len : ∀ (ts : List Tk) (i : Nat) (slot : Int) (js : List Jb), (SL.cands ts i slot js).length ≤ ts.length
  | [], _, _, _ => by simp [SL.cands]
  | _ :: _, _, _, [] => by simp [SL.cands]
  | t :: ts, i, slot, j :: js => by
    have := cands_len ts (i + 1) slot js
    rw [SL.cands, List.length_append, List.length_cons]
    have h1 : (if SL.elig t slot j then [SL.mkCd i t j] else []).length ≤ 1 := by split <;> simp
    omega
theorem winR_bound {t : Tk} {i : Int} (hw : SL.okW t i) : 0 ≤ SL.winR t i ∧ SL.winR t i ≤ 1000000 := by
  obtain ⟨hv, hi1, hi2⟩ := hw
  obtain ⟨v1, v2, v3⟩ := SL.okTk_iff.1 hv
  obtain ⟨m1, m2⟩ := prod_bounds (a := i - 1) (b := t.per) (x := 1000) (y := 1000) (by omega) (by omega) (by omega) (by omega)
  exact ⟨Int.ediv_nonneg m1 (by omega), Int.le_trans (Int.ediv_le_self _ m1) (by omega)⟩
section
set_option maxHeartbeats 2000000
set_option maxRecDepth 100000
end
end Go.Proofs.YtpmbhdheeaejgaaGreatDoor
