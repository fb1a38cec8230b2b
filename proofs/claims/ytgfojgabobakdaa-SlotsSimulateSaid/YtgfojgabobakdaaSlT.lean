/- Preemptions, and whether a row holds a number. -/
import Derived.Test.YtgfojgabobakdaaSlR
import Derived.Test.YtgfojgabobakdaaPlainSl6
namespace Go.Proofs.Ytgfojgabobakdaa
open Go.RowKit Go.Maps Go.Sort Go.Lib
open SL (Tk Jb Ms Cd)
theorem relV_at {w : World} {A : Option Addr} {n c : Nat} {S : List (List Int)} (h : RelV w (.slice A n c) S) {k : Nat} {r : List Int} (hk : S[k]? = some r) :
    ∃ b o A' c', A = some ⟨b, o, none⟩ ∧ b < w.heap.size ∧ w.cell? ⟨b, o + k, none⟩ = some (.slice A' r.length c') ∧ Row w A' (r.map (Value.int .i64)) := by
  obtain ⟨A1, c1, hs, e, _, hrow, hin⟩ := h
  injection e with e1 e2 e3
  subst e1
  obtain ⟨A', c', g1, g2⟩ := hin k r hk
  obtain ⟨b, o, h1, h2, h3⟩ := hrow.at g1
  exact ⟨b, o, A', c', h1, h2, h3, g2⟩
theorem relV_len {w : World} {A : Option Addr} {n c : Nat} {S : List (List Int)} (h : RelV w (.slice A n c) S) : n = S.length := by
  obtain ⟨A1, c1, hs, e, _, hrow, hin⟩ := h
  injection e with e1 e2 e3
def NoX (x : Int) (l : List Int) : Prop := ∀ y ∈ l, y ≠ x
theorem contains_any (r : List Int) (A : Option Addr) (c : Nat) (x : Int) (w : World) (h : Row w A (r.map (Value.int .i64))) (hl : r.length ≤ maxLen) :
    Calls Try.prog 37 #[.slice A r.length c, .int .i64 x] w fun e w' => e = .returned (.bool (SL.inn r x)) ∧ w' = w := by
  cases r with
  | nil => exact Try.slices_Contains_int_empty A c x w
  | cons y r =>
    obtain ⟨b, o, rfl, _, hc⟩ := h (by simp)
    have hh := Try.slices_Contains_int b o (y :: r).length c (y :: r) x w (Nat.le_refl _) hl (fun j hj => by
      refine hc j _ ?_
      rw [List.getElem?_map, List.getElem?_eq_getElem hj, List.getD_eq_getElem?_getD, List.getElem?_eq_getElem hj]
      rfl)
    rw [List.take_length] at hh
    exact hh
section
set_option maxHeartbeats 2000000
set_option maxRecDepth 100000
theorem has_any (r : List Int) (A : Option Addr) (c : Nat) (x : Int) (w : World) (h : Row w A (r.map (Value.int .i64))) (hl : r.length ≤ maxLen) :
    Calls Try.prog 19 #[.slice A r.length c, .int .i64 x] w fun e w' => e = .returned (.bool (SL.inn r x)) ∧ w' = w := by
  have hm : maxLen = 9223372036854775807 := rfl
  rw [hm] at hl
  have H := Lib.hid h
  obtain ⟨R, hR⟩ : ∃ R, R = SL.inn r x := ⟨_, rfl⟩
  have HR := Lib.hid hR
  rw [← hR]
  clear h hm hR
  go_enter Try.func19, Try.ntmps19
  go_wp2_with fail
  go_loopw [9] (fun v wr => ∃ k : Nat, k ≤ r.length ∧ v = .int .i64 (k : Int) ∧ NoX x (r.take k) ∧ wr = w) (fun v _ => r.length - (intOf v).toNat)
  case atStart => exact ⟨0, Nat.zero_le _, rfl, by simp [NoX], rfl⟩
  case round =>
    obtain ⟨k, hk, rfl, hno, rfl⟩ := hrel
    by_cases hlt : k < r.length
    · have q0 : (k : Int) < (r.length : Int) := by omega
      obtain ⟨y, hy⟩ : ∃ y, r[k]? = some y := ⟨_, List.getElem?_eq_getElem hlt⟩
      obtain ⟨b, o, rfl, _, cy⟩ := H.out.at (show (r.map (Value.int .i64))[k]? = some (.int .i64 y) by simp [hy])
      by_cases hxy : y = x
      · have e1 : (y == x) = true := by simp [hxy]
        have HT := Lib.hid (show R = true by
          rw [HR.out]; unfold SL.inn
          rw [List.contains_iff_mem, ← hxy]
          exact List.mem_of_getElem? hy)
        clear hy hno hxy
        go_wp2_with fail
        go_ret
        rw [HT.out]
        exact ⟨rfl, rfl⟩
      · have e1 : (y == x) = false := by simp [hxy]
        have HN := Lib.hid (show NoX x (r.take (k + 1)) from fun z hz => by
          rw [SL.take_snoc hy, List.mem_append] at hz
          rcases hz with hz | hz
          · exact hno z hz
          · simp at hz; subst hz; exact hxy)
        clear hy hno hxy
        go_wp2_with fail
        exact ⟨⟨k + 1, hlt, by simp, HN.out, trivial⟩, by simp [intOf]; omega⟩
    · have q0 : ¬ (k : Int) < (r.length : Int) := by omega
      have HF := Lib.hid (show R = false by
        rw [HR.out]; unfold SL.inn
        rw [← Bool.not_eq_true, List.contains_iff_mem]
        intro h
        rw [List.take_of_length_le (by omega)] at hno
        exact hno x h rfl)
      clear hno
      go_wp2_with fail
      go_ret
      rw [HF.out]
      exact ⟨rfl, rfl⟩
theorem preempt_any (S : List (List Int)) (k : Int) (A : Option Addr) (n c : Nat) (w : World) (hr : RelV w (.slice A n c) S) (hl : S.length ≤ 1000000) (hlr : ∀ r ∈ S, r.length ≤ maxLen) :
    Calls Try.prog 20 #[.slice A n c, .int .i64 k] w fun e w' => e = .returned (.int .i64 ((SL.preF S k).1 : Int)) ∧ w' = w := by
  have hnot : ∀ (x : Bool) (w : World), (Op.unary .not (.bool x)).run Try.prog w = .ok (.bool (!x)) w := fun _ _ => rfl
  have H := Lib.hid hr
  obtain rfl := relV_len hr
  have HL := Lib.hid hlr
  clear hr hlr
  go_enter Try.func20, Try.ntmps20
  go_wp2_with fail
  go_loopw [5, 6, 7, 13] (fun nv ev lv v wr => ∃ i : Nat, i ≤ S.length ∧ v = .int .i64 (i : Int) ∧ nv = .int .i64 ((SL.preF (S.take i) k).1 : Int) ∧ ev = .bool (SL.preF (S.take i) k).2.1 ∧ lv = .bool (SL.preF (S.take i) k).2.2 ∧ wr = w) (fun _ _ _ v _ => S.length - (intOf v).toNat)
  case atStart => exact ⟨0, Nat.zero_le _, rfl, rfl, rfl, rfl, rfl⟩
  case round =>
    obtain ⟨i, hi, rfl, rfl, rfl, rfl, rfl⟩ := hrel
    have hle := SL.preF_le k (S.take i)
    rw [List.length_take] at hle
    by_cases hlt : i < S.length
    · have q0 : (i : Int) < (S.length : Int) := by omega
      obtain ⟨r, hr⟩ : ∃ r, S[i]? = some r := ⟨_, List.getElem?_eq_getElem hlt⟩
      obtain ⟨b, o, A', c', rfl, _, cr, hrow⟩ := relV_at H.out hr
      have HC := Lib.hid (contains_any r A' c' k _ hrow (HL.out r (List.mem_of_getElem? hr)))
      have HS := Lib.hid (show SL.preF (S.take (i + 1)) k = SL.preStep k (SL.preF (S.take i) k) r by rw [SL.take_snoc hr, SL.preF_snoc])
      clear hr hrow
      generalize SL.preF (S.take i) k = st at *
      obtain ⟨m, ea, la⟩ := st
      simp only at hle
      have z1 : IntKind.i64.wrap ((m : Int) + 1) = (m : Int) + 1 := IntWalk.i64_in _ (by omega)
      go_wp2_with fail
      (with_reducible refine HC.out.mono ?_)
      rintro e w1 ⟨rfl, rfl⟩
      unfold SL.preStep at HS
      simp only at HS
      clear HC
      cases hn : SL.inn r k <;> cases ea <;> cases la <;> rw [hn] at HS <;> simp at HS
      all_goals
        clear hn
        go_wp2_with fail
        exact ⟨⟨i + 1, hlt, by simp, by first | (rw [HS.out]; done) | (rw [HS.out]; simp), by rw [HS.out], by rw [HS.out], trivial⟩, by simp [intOf]; omega⟩
    · have q0 : ¬ (i : Int) < (S.length : Int) := by omega
      have HE := Lib.hid (show S.take i = S from List.take_of_length_le (by omega))
      go_wp2_with fail
      go_ret
      rw [HE.out]
      exact ⟨rfl, rfl⟩
end
end Go.Proofs.Ytgfojgabobakdaa
