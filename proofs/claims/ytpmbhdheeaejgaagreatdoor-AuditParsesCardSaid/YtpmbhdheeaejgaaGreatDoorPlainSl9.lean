/- The reference's loops, in plain terms: an ascending row from a place on; the misses so far. -/
import Derived.Test.YtpmbhdheeaejgaaGreatDoorPlainSl8
namespace Go.Proofs.YtpmbhdheeaejgaaGreatDoor.SL
/-- The row is as ascending from a place on as it is as a whole. -/
def AscRel (n : Nat) (r : List Int) (m : Nat) : Prop := ∃ b : Int, -1 ≤ b ∧ ((m = 0 ∧ b = -1) ∨ ∃ j, m = j + 1 ∧ r[j]? = some b) ∧ asc n b (r.drop m) = asc n (-1) r
theorem ascRel0 (n : Nat) (r : List Int) : AscRel n r 0 := ⟨-1, by omega, .inl ⟨rfl, rfl⟩, rfl⟩
theorem drop_at {α : Type} {l : List α} {m : Nat} {x : α} (h : l[m]? = some x) : l.drop m = x :: l.drop (m + 1) := by
  obtain ⟨h1, h2⟩ := List.getElem?_eq_some_iff.1 h
  rw [List.drop_eq_getElem_cons h1, h2]
theorem ascRel_succ {n : Nat} {r : List Int} {m : Nat} {x : Int} (h : AscRel n r m) (hx : r[m]? = some x) (h0 : 0 ≤ x) (hn : x < n) (hp : ∀ j y, m = j + 1 → r[j]? = some y → y < x) : AscRel n r (m + 1) := by
  obtain ⟨b, hb, hc, ha⟩ := h
  refine ⟨x, by omega, .inr ⟨m, rfl, hx⟩, ?_⟩
  rw [← ha, drop_at hx, asc, decide_eq_true hn, decide_eq_true (show b < x by
    rcases hc with ⟨_, rfl⟩ | ⟨j, hj, hy⟩
    · omega
    · exact hp j b hj hy), Bool.true_and, Bool.true_and]
theorem ascRel_bad {n : Nat} {r : List Int} {m : Nat} {x : Int} (h : AscRel n r m) (hx : r[m]? = some x) (hbad : x < 0 ∨ (n : Int) ≤ x ∨ ∃ j y, m = j + 1 ∧ r[j]? = some y ∧ x ≤ y) : asc n (-1) r = false := by
  obtain ⟨b, hb, hc, ha⟩ := h
  rw [← ha, drop_at hx, asc]
  rcases hbad with h1 | h1 | ⟨j, y, hj, hy, h1⟩
  · rw [decide_eq_false (show ¬ b < x by omega)]; rfl
  · rw [decide_eq_false (show ¬ x < (n : Int) by omega), Bool.and_false]; rfl
  · rw [decide_eq_false (show ¬ b < x by
      rcases hc with ⟨h0, _⟩ | ⟨j', hj', hy'⟩
      · omega
      · have e : j' = j := by omega
        subst e
        rw [hy] at hy'
        injection hy' with hy'
        omega)]; rfl
theorem ascRel_end {n : Nat} {r : List Int} {m : Nat} (h : AscRel n r m) (hm : r.length ≤ m) : asc n (-1) r = true := by
  obtain ⟨b, hb, hc, ha⟩ := h
  rw [← ha, List.drop_eq_nil_of_le hm]
  rfl
theorem chkR_at {ts : List Tk} {rs : List (List Int)} {S : List (List Int)} {cores : Int} {i : Nat} {r : List Int} (h : S[i]? = some r) :
    chkR ts rs S cores (S.drop i) i = if chkRowR ts rs S cores i r = 0 then chkR ts rs S cores (S.drop (i + 1)) (i + 1) else chkRowR ts rs S cores i r := by
  rw [drop_at h, chkR]
theorem missAt_take : ∀ (ts : List Tk) (rs : List (List Int)) (S : List (List Int)) (i slot k : Nat) (t : Tk) (r : List Int), ts[k]? = some t → rs[k]? = some r →
    missAt (ts.take (k + 1)) (rs.take (k + 1)) S i slot = missAt (ts.take k) (rs.take k) S i slot ++ missT t r S (i + k) slot
  | [], _, _, _, _, _, _, _, h, _ => by simp at h
  | _ :: _, [], _, _, _, _, _, _, _, h => by simp at h
  | t0 :: ts, r0 :: rs, S, i, slot, 0, t, r, h1, h2 => by
    simp at h1 h2; subst h1 h2; simp [missAt]
  | t0 :: ts, r0 :: rs, S, i, slot, k + 1, t, r, h1, h2 => by
    rw [List.take_succ_cons, List.take_succ_cons, missAt, missAt_take ts rs S (i + 1) slot k t r (by simpa using h1) (by simpa using h2)]
    simp [missAt, Nat.add_assoc, Nat.add_comm 1 k]
theorem missT_len (t : Tk) (r : List Int) (S : List (List Int)) (k slot : Nat) : (missT t r S k slot).length ≤ r.length := List.length_filterMap_le _ _
theorem missAt_len {d : Nat} : ∀ {ts : List Tk} {rs : List (List Int)} (S : List (List Int)) (i slot : Nat), (∀ r ∈ rs, r.length ≤ d) → (missAt ts rs S i slot).length ≤ ts.length * d
  | [], _, _, _, _, _ => by simp [missAt]
  | _ :: _, [], _, _, _, _ => by simp [missAt]
  | t :: ts, r :: rs, S, i, slot, h => by
    rw [missAt, List.length_append, List.length_cons, Nat.add_mul]
    have h1 := missAt_len (ts := ts) (rs := rs) S (i + 1) slot (fun r hr => h r (by simp [hr]))
    have h2 := missT_len t r S i slot
    have h3 := h r (by simp)
    omega
theorem missL_len {d : Nat} {ts : List Tk} {rs : List (List Int)} (S : List (List Int)) (h : ∀ r ∈ rs, r.length ≤ d) : ∀ n, (missL ts rs S n).length ≤ n * (ts.length * d)
  | 0 => by simp [missL]
  | n + 1 => by
    rw [missL_succ, List.length_append, Nat.succ_mul]
    have h1 := missL_len S h n (ts := ts)
    have h2 := missAt_len (ts := ts) S 0 n h
    omega
end Go.Proofs.YtpmbhdheeaejgaaGreatDoor.SL
