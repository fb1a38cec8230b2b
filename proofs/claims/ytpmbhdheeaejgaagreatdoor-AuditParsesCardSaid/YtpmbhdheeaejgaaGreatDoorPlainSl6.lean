/- Resumed slots, in plain terms. -/
import Derived.Test.YtpmbhdheeaejgaaGreatDoorPlainSl3
namespace Go.Proofs.YtpmbhdheeaejgaaGreatDoor.SL
def inn (r : List Int) (k : Int) : Bool := r.contains k
def preStep (k : Int) (s : Nat × Bool × Bool) (r : List Int) : Nat × Bool × Bool := (s.1 + (if inn r k && s.2.1 && !s.2.2 then 1 else 0), s.2.1 || inn r k, inn r k)
def preF (S : List (List Int)) (k : Int) : Nat × Bool × Bool := S.foldl (preStep k) (0, false, false)
theorem preF_snoc (S : List (List Int)) (r : List Int) (k : Int) : preF (S ++ [r]) k = preStep k (preF S k) r := by simp [preF]
theorem preF_le (k : Int) : ∀ (S : List (List Int)), (preF S k).1 ≤ S.length := by
  intro S
  suffices h : ∀ (T : List (List Int)) (s : Nat × Bool × Bool), (T.foldl (preStep k) s).1 ≤ s.1 + T.length from by have := h S (0, false, false); simpa [preF] using this
  intro T
  induction T with
  | nil => intro s; simp
  | cons r T ih =>
    intro s
    have := ih (preStep k s r)
    have h2 : (preStep k s r).1 ≤ s.1 + 1 := by unfold preStep; simp only; split <;> omega
    simp only [List.foldl_cons, List.length_cons]
    omega
/-- The last row's part: whether the task ran in the row before. -/
theorem preF_last (S : List (List Int)) (k : Int) : S = [] ∧ preF S k = (0, false, false) ∨ ∃ r, S[S.length - 1]? = some r ∧ S ≠ [] ∧ (preF S k).2.2 = inn r k := by
  cases h : S.reverse with
  | nil =>
    have : S = [] := by simpa using h
    subst this
    exact .inl ⟨rfl, rfl⟩
  | cons r T =>
    have hS : S = T.reverse ++ [r] := by
      have := congrArg List.reverse h
      simpa using this
    subst hS
    refine .inr ⟨r, by simp, by simp, ?_⟩
    rw [preF_snoc]
    rfl
def runs (S : List (List Int)) (k : Int) : Nat := S.countP fun r => inn r k
/-- No job is resumed more often than it runs behind its first slot. -/
theorem preF_runs (k : Int) (S : List (List Int)) : (preF S k).1 ≤ runs S k - 1 ∧ ((preF S k).2.1 = true ↔ 0 < runs S k) := by
  suffices h : ∀ (T : List (List Int)) (s : Nat × Bool × Bool) (n : Nat), s.1 ≤ n - 1 → (s.2.1 = true ↔ 0 < n) → (T.foldl (preStep k) s).1 ≤ n + runs T k - 1 ∧ ((T.foldl (preStep k) s).2.1 = true ↔ 0 < n + runs T k) from by
    have := h S (0, false, false) 0 (by simp) (by simp)
    simpa [preF] using this
  intro T
  induction T with
  | nil => intro s n h1 h2; simpa [runs] using ⟨h1, h2⟩
  | cons r T ih =>
    intro s n h1 h2
    have hr : runs (r :: T) k = (if inn r k then 1 else 0) + runs T k := by
      unfold runs
      rw [List.countP_cons]
      omega
    have h := ih (preStep k s r) (n + (if inn r k then 1 else 0)) (by
      unfold preStep
      obtain ⟨a, b, c⟩ := s
      simp only at *
      cases inn r k <;> cases b <;> cases c <;> simp at * <;> omega) (by
      unfold preStep
      obtain ⟨a, b, c⟩ := s
      simp only at *
      cases inn r k <;> cases b <;> simp at * <;> omega)
    rw [List.foldl_cons, hr, ← Nat.add_assoc]
    exact h
theorem take_snoc {α : Type} {l : List α} {k : Nat} {x : α} (h : l[k]? = some x) : l.take (k + 1) = l.take k ++ [x] := by
  obtain ⟨h1, h2⟩ := List.getElem?_eq_some_iff.1 h
  rw [List.take_succ_eq_append_getElem h1, h2]
end Go.Proofs.YtpmbhdheeaejgaaGreatDoor.SL
