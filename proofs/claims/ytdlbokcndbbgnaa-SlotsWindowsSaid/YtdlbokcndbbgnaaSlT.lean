/- Preemptions, and whether a row holds a number. -/
import Derived.Test.YtdlbokcndbbgnaaSlR
import Derived.Test.YtdlbokcndbbgnaaPlainSl6
namespace Go.Proofs.Ytdlbokcndbbgnaa
open Go.RowKit Go.Maps Go.Sort Go.Lib
open SL (Tk Jb Ms Cd)
theorem relV_at {w : World} {A : Option Addr} {n c : Nat} {S : List (List Int)} (h : RelV w (.slice A n c) S) {k : Nat} {r : List Int} (hk : S[k]? = some r) :
    ∃ b o A' c', A = some ⟨b, o, none⟩ ∧ b < w.heap.size ∧ w.cell? ⟨b, o + k, none⟩ = some (.slice A' r.length c') ∧ Row w A' (r.map (Value.int .i64)) := by
  obtain ⟨A1, c1, hs, e, _, hrow, hin⟩ := h
  injection e with e1 e2 e3
  subst e1
  obtain ⟨A', c', g1, g2⟩ := hin k r hk
  obtain ⟨b, o, h1, h2, h3⟩ := hrow.at g1
  exact ⟨b, o, A', c', h1, h2, h3, g2⟩
theorem relV_len {w : World} {A : Option Addr} {n c : Nat} {S : List (List Int)} (h : RelV w (.slice A n c) S) : n = S.length := by
  obtain ⟨A1, c1, hs, e, _, hrow, hin⟩ := h
  injection e with e1 e2 e3
def NoX (x : Int) (l : List Int) : Prop := ∀ y ∈ l, y ≠ x
section
set_option maxHeartbeats 2000000
set_option maxRecDepth 100000
theorem has_any (r : List Int) (A : Option Addr) (c : Nat) (x : Int) (w : World) (h : Row w A (r.map (Value.int .i64))) (hl : r.length ≤ maxLen) :
    Calls Try.prog 8 #[.slice A r.length c, .int .i64 x] w fun e w' => e = .returned (.bool (SL.inn r x)) ∧ w' = w := by
  have hm : maxLen = 9223372036854775807 := rfl
  rw [hm] at hl
  have H := Lib.hid h
  obtain ⟨R, hR⟩ : ∃ R, R = SL.inn r x := ⟨_, rfl⟩
  have HR := Lib.hid hR
  rw [← hR]
  clear h hm hR
  go_enter Try.func8, Try.ntmps8
  go_wp2_with fail
  go_loopw [9] (fun v wr => ∃ k : Nat, k ≤ r.length ∧ v = .int .i64 (k : Int) ∧ NoX x (r.take k) ∧ wr = w) (fun v _ => r.length - (intOf v).toNat)
  case atStart => exact ⟨0, Nat.zero_le _, rfl, by simp [NoX], rfl⟩
  case round =>
    obtain ⟨k, hk, rfl, hno, rfl⟩ := hrel
    by_cases hlt : k < r.length
    · have q0 : (k : Int) < (r.length : Int) := by omega
      obtain ⟨y, hy⟩ : ∃ y, r[k]? = some y := ⟨_, List.getElem?_eq_getElem hlt⟩
      obtain ⟨b, o, rfl, _, cy⟩ := H.out.at (show (r.map (Value.int .i64))[k]? = some (.int .i64 y) by simp [hy])
      by_cases hxy : y = x
      · have e1 : (y == x) = true := by simp [hxy]
        have HT := Lib.hid (show R = true by
          rw [HR.out]; unfold SL.inn
          rw [List.contains_iff_mem, ← hxy]
          exact List.mem_of_getElem? hy)
        clear hy hno hxy
        go_wp2_with fail
        go_ret
        rw [HT.out]
        exact ⟨rfl, rfl⟩
      · have e1 : (y == x) = false := by simp [hxy]
        have HN := Lib.hid (show NoX x (r.take (k + 1)) from fun z hz => by
          rw [SL.take_snoc hy, List.mem_append] at hz
          rcases hz with hz | hz
          · exact hno z hz
          · simp at hz; subst hz; exact hxy)
        clear hy hno hxy
        go_wp2_with fail
        exact ⟨⟨k + 1, hlt, by simp, HN.out, trivial⟩, by simp [intOf]; omega⟩
    · have q0 : ¬ (k : Int) < (r.length : Int) := by omega
      have HF := Lib.hid (show R = false by
        rw [HR.out]; unfold SL.inn
        rw [← Bool.not_eq_true, List.contains_iff_mem]
        intro h
        rw [List.take_of_length_le (by omega)] at hno
        exact hno x h rfl)
      clear hno
      go_wp2_with fail
      go_ret
      rw [HF.out]
      exact ⟨rfl, rfl⟩
end
end Go.Proofs.Ytdlbokcndbbgnaa
