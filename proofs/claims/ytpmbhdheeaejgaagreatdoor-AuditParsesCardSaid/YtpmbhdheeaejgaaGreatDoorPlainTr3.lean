/- The numbers of a line, one after the other. -/
import Derived.Test.YtpmbhdheeaejgaaGreatDoorPlainTr2
namespace Go.Proofs.YtpmbhdheeaejgaaGreatDoor.TR
open AU (Ev)
def fld (e : Ev) (j : Nat) : Int := if j = 0 then e.slot else if j = 1 then e.cycle else if j = 3 then e.task else if j = 4 then e.job else if j = 5 then e.core else if j = 6 then e.value else e.port
def setF (e : Ev) (j : Nat) (n : Int) : Ev :=
  if j = 0 then { e with slot := n } else if j = 1 then { e with cycle := n } else if j = 3 then { e with task := n } else if j = 4 then { e with job := n } else if j = 5 then { e with core := n } else if j = 6 then { e with value := n } else { e with port := n }
/-- Where the number j of a line lies in an event. -/
def off (j : Nat) : Nat := if j = 0 then 0 else if j = 1 then 6 else if j = 3 then 2 else if j = 4 then 3 else if j = 5 then 1 else if j = 6 then 5 else 7
def ev0 : Ev := ⟨0, 0, 0, 0, 0, 0, 0, 0⟩
theorem num_cases {j : Nat} (h : j < 8) (h2 : j ≠ 2) : j = 0 ∨ j = 1 ∨ j = 3 ∨ j = 4 ∨ j = 5 ∨ j = 6 ∨ j = 7 := by omega
theorem setF_kind (e : Ev) (j : Nat) (n : Int) : (setF e j n).kind = e.kind := by
  unfold setF
  repeat (first | rfl | split)
theorem setF_self {e : Ev} {j : Nat} {n : Int} (h : j < 8) (h2 : j ≠ 2) : fld (setF e j n) j = n := by
  rcases num_cases h h2 with rfl | rfl | rfl | rfl | rfl | rfl | rfl <;> rfl
theorem setF_other {e : Ev} {i j : Nat} {n : Int} (h : j < 8) (h2 : j ≠ 2) (hi : i < 8) (hi2 : i ≠ 2) (hij : i ≠ j) : fld (setF e j n) i = fld e i := by
  rcases num_cases h h2 with rfl | rfl | rfl | rfl | rfl | rfl | rfl <;> rcases num_cases hi hi2 with rfl | rfl | rfl | rfl | rfl | rfl | rfl <;> first | rfl | exact absurd rfl hij
/-- The numbers ahead of i are read. -/
def PartIs (F : Nat → Bytes) (k i : Nat) (e : Ev) : Prop := e.kind = k ∧ ∀ j, j < i → j ≠ 2 → numP (F j) = some (fld e j)
theorem PartIs.skip {F : Nat → Bytes} {k : Nat} {e : Ev} (h : PartIs F k 2 e) : PartIs F k 3 e := ⟨h.1, fun j hj h2 => h.2 j (by omega) h2⟩
theorem PartIs.step {F : Nat → Bytes} {k i : Nat} {e : Ev} {n : Int} (h : PartIs F k i e) (hi : i < 8) (hi2 : i ≠ 2) (hn : numP (F i) = some n) : PartIs F k (i + 1) (setF e i n) := by
  refine ⟨(setF_kind e i n).trans h.1, fun j hj h2 => ?_⟩
  by_cases hij : j = i
  · subst hij
    rw [setF_self hi hi2]
    exact hn
  · rw [setF_other hi hi2 (by omega) h2 hij]
    exact h.2 j (by omega) h2
theorem PartIs.done {F : Nat → Bytes} {k : Nat} {e : Ev} (h : PartIs F k 8 e) : mkP k (F 0) (F 1) (F 3) (F 4) (F 5) (F 6) (F 7) = some e := by
  unfold mkP
  rw [h.2 0 (by omega) (by omega), h.2 1 (by omega) (by omega), h.2 3 (by omega) (by omega), h.2 4 (by omega) (by omega), h.2 5 (by omega) (by omega), h.2 6 (by omega) (by omega), h.2 7 (by omega) (by omega), ← h.1]
  rfl
theorem mk_none {F : Nat → Bytes} {k i : Nat} (hi : i < 8) (hi2 : i ≠ 2) (hn : numP (F i) = none) : mkP k (F 0) (F 1) (F 3) (F 4) (F 5) (F 6) (F 7) = none := by
  cases hm : mkP k (F 0) (F 1) (F 3) (F 4) (F 5) (F 6) (F 7) with
  | none => rfl
  | some e =>
    unfold mkP at hm
    obtain ⟨x0, h1, h⟩ := Option.bind_eq_some_iff.1 hm
    obtain ⟨x1, h2, h⟩ := Option.bind_eq_some_iff.1 h
    obtain ⟨x3, h3, h⟩ := Option.bind_eq_some_iff.1 h
    obtain ⟨x4, h4, h⟩ := Option.bind_eq_some_iff.1 h
    obtain ⟨x5, h5, h⟩ := Option.bind_eq_some_iff.1 h
    obtain ⟨x6, h6, h⟩ := Option.bind_eq_some_iff.1 h
    obtain ⟨x7, h7, h⟩ := Option.bind_eq_some_iff.1 h
    rcases num_cases hi hi2 with rfl | rfl | rfl | rfl | rfl | rfl | rfl <;> simp_all
theorem parse_not8 {l : Bytes} (h : (parts 32 [] l).length ≠ 8) : parseP l = none := by
  unfold parseP
  split
  · rename_i hp
    rw [hp] at h
    simp at h
  · rfl
theorem parse_8 {l : Bytes} (h : (parts 32 [] l).length = 8) : parseP l = (kindP ((parts 32 [] l).getD 2 [])).bind fun k => mkP k ((parts 32 [] l).getD 0 []) ((parts 32 [] l).getD 1 []) ((parts 32 [] l).getD 3 []) ((parts 32 [] l).getD 4 []) ((parts 32 [] l).getD 5 []) ((parts 32 [] l).getD 6 []) ((parts 32 [] l).getD 7 []) := by
  unfold parseP
  generalize parts 32 [] l = ws at *
  match ws, h with
  | [a, b, c, d, e, f, g, i], _ => rfl
theorem parts_len (c : UInt8) : ∀ (l cur : Bytes), ∀ f ∈ parts c cur l, f.length ≤ cur.length + l.length
  | [], cur, f, h => by
    simp [parts] at h
    rw [h]; simp
  | b :: l, cur, f, h => by
    rw [parts] at h
    split at h
    · rcases List.mem_cons.1 h with rfl | h
      · simp
      · have := parts_len c l [] f h
        simp at this ⊢
        omega
    · have := parts_len c l (cur ++ [b]) f h
      simp at this ⊢
      omega
theorem parts_count (c : UInt8) : ∀ (l cur : Bytes), (parts c cur l).length ≤ l.length + 1
  | [], cur => by simp [parts]
  | b :: l, cur => by
    rw [parts]
    split
    · have := parts_count c l []
      simp
      omega
    · have := parts_count c l (cur ++ [b])
      simp
      omega
end Go.Proofs.YtpmbhdheeaejgaaGreatDoor.TR
