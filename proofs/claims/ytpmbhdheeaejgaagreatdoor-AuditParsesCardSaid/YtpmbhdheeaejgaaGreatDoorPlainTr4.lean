/- Where the line with an error begins. -/
import Derived.Test.YtpmbhdheeaejgaaGreatDoorPlainTr2
namespace Go.Proofs.YtpmbhdheeaejgaaGreatDoor.TR
open AU (Ev)
/-- Line feeds ahead of i, and where the line begins that i lies in. -/
def ls (l : Bytes) : Nat → Nat × Nat
  | 0 => (0, 0)
  | i + 1 => if l[i]? = some 10 then ((ls l i).1 + 1, i + 1) else ls l i
theorem ls_line {l p a r : Bytes} (h : l = p ++ (a ++ r)) (ha : ∀ b ∈ a, b ≠ 10) : ∀ j, j ≤ a.length → ls l (p.length + j) = ls l p.length
  | 0, _ => rfl
  | j + 1, hj => by
    have hb : l[p.length + j]? = some (a[j]'(by omega)) := by
      rw [h, List.getElem?_append_right (by omega), show p.length + j - p.length = j from by omega, List.getElem?_append_left (by omega), List.getElem?_eq_getElem]
    rw [show p.length + (j + 1) = (p.length + j) + 1 from by omega, ls, hb, if_neg (fun e => by
      injection e with e
      exact ha _ (List.getElem_mem _) e)]
    exact ls_line h ha j (by omega)
theorem ls_lf {l p a r : Bytes} (h : l = p ++ (a ++ 10 :: r)) (ha : ∀ b ∈ a, b ≠ 10) : ls l (p.length + a.length + 1) = ((ls l p.length).1 + 1, p.length + a.length + 1) := by
  have hb : l[p.length + a.length]? = some 10 := by
    rw [h, List.getElem?_append_right (by omega), show p.length + a.length - p.length = a.length from by omega, List.getElem?_append_right (Nat.le_refl _), Nat.sub_self]
    rfl
  rw [ls, hb, if_pos rfl, ls_line (a := a) (r := 10 :: r) h ha a.length (Nat.le_refl _)]
theorem ls_fmt : ∀ (l' : List Ev) (l p r : Bytes) (c : Nat), l = p ++ (fmt l' ++ r) → ls l p.length = (c, p.length) → ls l (p.length + (fmt l').length) = (c + l'.length, p.length + (fmt l').length) ∧ ∀ i, p.length ≤ i → i < p.length + (fmt l').length → (ls l i).1 < c + l'.length
  | [], l, p, r, c, h, hc => by
    simp only [fmt, List.flatMap_nil, List.length_nil, Nat.add_zero]
    exact ⟨hc, fun i h1 h2 => by omega⟩
  | e :: l', l, p, r, c, h, hc => by
    rw [fmt_cons] at h ⊢
    have h1 : l = p ++ (lineE e ++ 10 :: (fmt l' ++ r)) := by rw [h]; simp
    have h2 := ls_lf h1 (line_mem e)
    rw [hc] at h2
    have hpl : (p ++ (lineE e ++ [10])).length = p.length + (lineE e).length + 1 := by simp; omega
    obtain ⟨q1, q2⟩ := ls_fmt l' l (p ++ (lineE e ++ [10])) r (c + 1) (by rw [h1]; simp) (by rw [hpl]; exact h2)
    rw [hpl] at q1 q2
    have hlen : (lineE e ++ 10 :: fmt l').length = (lineE e).length + 1 + (fmt l').length := by simp; omega
    rw [hlen]
    refine ⟨by rw [show p.length + ((lineE e).length + 1 + (fmt l').length) = p.length + (lineE e).length + 1 + (fmt l').length from by omega, q1, List.length_cons]; congr 1; omega, fun i a1 a2 => ?_⟩
    by_cases hi : i ≤ p.length + (lineE e).length
    · have := ls_line (a := lineE e) (r := 10 :: (fmt l' ++ r)) h1 (line_mem e) (i - p.length) (by omega)
      rw [show p.length + (i - p.length) = i from by omega, hc] at this
      rw [this, List.length_cons]
      simp only
      omega
    · have := q2 i (by omega) (by omega)
      rw [List.length_cons]
      omega
theorem ls_start (l' : List Ev) (r : Bytes) : ls (fmt l' ++ r) (fmt l').length = (l'.length, (fmt l').length) ∧ ∀ i, i < (fmt l').length → (ls (fmt l' ++ r) i).1 < l'.length := by
  obtain ⟨h1, h2⟩ := ls_fmt l' (fmt l' ++ r) [] r 0 rfl rfl
  simp only [List.length_nil, Nat.zero_add] at h1 h2
  exact ⟨h1, fun i hi => h2 i (by omega) hi⟩
theorem fmt_ge : ∀ l : List Ev, l.length ≤ (fmt l).length
  | [] => by simp
  | e :: l => by
    have := fmt_ge l
    rw [fmt_cons]
    simp
    omega
theorem firstBad_zero : ∀ {l : List Ev}, (∀ e ∈ l, known e.kind) → firstBad l = 0
  | [], _ => rfl
  | e :: l, h => by
    rw [firstBad, if_pos (h e (by simp)), if_pos (firstBad_zero fun x hx => h x (by simp [hx]))]
/-- A line and a line feed, read. -/
theorem run_one {line : Bytes} (h : ∀ b ∈ line, b ≠ 10) (f : Nat) (hf : 2 ≤ f) : runP f (line ++ [10]) 1 [] = match parseP line with
    | none => ([], 1, 3)
    | some e => ([e], 0, 0) := by
  obtain ⟨f, rfl⟩ : ∃ j, f = j + 2 := ⟨f - 2, by omega⟩
  rw [runP, if_neg (by simp), cutP_line h]
  simp only
  cases parseP line with
  | none => rfl
  | some e => simp [runP]
end Go.Proofs.YtpmbhdheeaejgaaGreatDoor.TR
