/- The dispatches as the reference lists them. -/
import Derived.Test.YtehdgdlndlamjaaPlainAu6
namespace Go.Proofs.Ytehdgdlndlamjaa.AU
open SL (Tk Cd srt winR bef)
theorem overI_get {α : Type} (l : List α) : overI l.length (fun i => l[i]?) = l := by
  have h : ∀ n, n ≤ l.length → overI n (fun i => l[i]?) = l.take n := by
    intro n
    induction n with
    | zero => intro _; simp [overI_zero]
    | succ n ih =>
      intro hn
      rw [overI_succ, ih (by omega), List.getElem?_eq_getElem (by omega), List.take_succ_eq_append_getElem (by omega)]
      rfl
  rw [h _ (Nat.le_refl _), List.take_length]
/-- What a list has at a place, if it has the core. -/
def pickG (R : List Rq) (c i : Nat) : Option Rq := match R[i]? with
  | some r => if r.core == (c : Int) then some r else none
  | none => none
theorem overI_filter' {α : Type} (f : Nat → Option α) (q : α → Bool) : ∀ n, (overI n f).filter q = overI n (fun i => (f i).filter q)
  | 0 => rfl
  | n + 1 => by
    rw [overI_succ, overI_succ, List.filter_append, overI_filter' f q n]
    congr 1
    cases f n with
    | none => rfl
    | some r => cases h : q r <;> simp [h, Option.filter]
theorem pick_eq (R : List Rq) (c : Nat) : R.filter (fun r => r.core == (c : Int)) = overI R.length (pickG R c) := by
  conv => lhs; rw [← overI_get R]
  rw [overI_filter']
  congr 1
  funext i
  unfold pickG
  cases R[i]? with
  | none => rfl
  | some r => cases h : (r.core == (c : Int)) <;> simp [h, Option.filter]
theorem count_one (x : Int) : ∀ n, ((List.range n).countP fun (c : Nat) => x == (c : Int)) ≤ 1 ∧ ((n : Int) ≤ x → ((List.range n).countP fun (c : Nat) => x == (c : Int)) = 0)
  | 0 => by simp
  | n + 1 => by
    obtain ⟨h1, h2⟩ := count_one x n
    rw [List.range_succ, List.countP_append]
    simp only [List.countP_cons, List.countP_nil, Nat.zero_add]
    by_cases h : x = (n : Int)
    · have := h2 (by omega)
      refine ⟨?_, fun h' => by omega⟩
      rw [this]
      split <;> omega
    · have hb : (x == (n : Int)) = false := beq_false_of_ne h
      rw [hb]
      refine ⟨by simpa using h1, fun h' => ?_⟩
      have := h2 (by omega)
      simpa using this
theorem countP_or_le {α : Type} (p q : α → Bool) : ∀ l : List α, l.countP (fun x => p x || q x) ≤ l.countP p + l.countP q
  | [] => by simp
  | x :: l => by
    have ih := countP_or_le p q l
    rw [List.countP_cons, List.countP_cons, List.countP_cons]
    cases p x <;> cases q x <;> simp <;> omega
theorem taken_count (n : Nat) : ∀ F : List Rq, ((List.range n).countP fun c => takenB F c) ≤ F.length
  | [] => by
    have : (fun c => takenB [] c) = fun _ => false := by funext c; rfl
    rw [this]
    simp
  | r :: F => by
    have ih := taken_count n F
    have h1 := (count_one r.core n).1
    have h2 : (fun c : Nat => takenB (r :: F) c) = fun (c : Nat) => (r.core == (c : Int)) || takenB F c := by funext c; rfl
    rw [h2, List.length_cons]
    have := countP_or_le (fun c : Nat => r.core == (c : Int)) (fun c => takenB F c) (List.range n)
    omega
theorem free_len (F : List Rq) (n : Nat) : n ≤ (freeL F n).length + F.length := by
  have h1 := taken_count n F
  unfold freeL
  rw [← List.countP_eq_length_filter]
  have h2 := List.length_eq_countP_add_countP (fun c => takenB F c) (l := List.range n)
  rw [List.length_range] at h2
  have h3 : (List.range n).countP (fun c => !takenB F c) = (List.range n).countP (fun a => decide ¬takenB F a = true) := by
    congr 1
    funext c
    cases takenB F c <;> simp
  omega
theorem fix_oth_len (ps : List Pr) (slot : Nat) : ∀ l : List Nat, (fixL ps slot l).length + (othL ps slot l).length = l.length
  | [] => by simp [fixL, othL]
  | i :: l => by
    have ih := fix_oth_len ps slot l
    unfold fixL othL at ih ⊢
    rw [List.filterMap_cons, List.filter_cons]
    cases h : fixed ps slot i with
    | none => simp; omega
    | some c => simp; omega
theorem oth_le {ps : List Pr} {slot n : Nat} {l : List Nat} (h : l.length ≤ n) : (othL ps slot l).length ≤ (freeL (fixL ps slot l) n).length := by
  have h1 := fix_oth_len ps slot l
  have h2 := free_len (fixL ps slot l) n
  omega
def resL (ps : List Pr) (slot n : Nat) (l : List Nat) : List Rq := resJ ps slot (freeL (fixL ps slot l) n) l 0
theorem resL_perm {ps : List Pr} {slot n : Nat} {l : List Nat} (h : l.length ≤ n) : (resL ps slot n l).Perm (asg ps slot n l) := by
  have := resJ_perm ps slot (freeL (fixL ps slot l) n) l 0 (by have := oth_le (ps := ps) (slot := slot) h; omega)
  exact this
/-- The dispatches, core by core. -/
theorem disp_pick {ts : List Tk} {ps : List Pr} {slot n : Nat} (ha : Apart ps) : dispL ts ps slot n = (List.range n).flatMap fun c => overI (resL ps slot n (sel ts ps slot n)).length (pickG (resL ps slot n (sel ts ps slot n)) c) := by
  have hp := resL_perm (ps := ps) (slot := slot) (sel_len ts ps slot n)
  have hn := asg_cores (slot := slot) (n := n) ha (sel_nodup ts ps slot n)
  unfold dispL
  rw [byCore_perm hp.symm hn]
  unfold byCore
  congr 1
  funext c
  exact pick_eq _ c
theorem resJ_at (ps : List Pr) (slot : Nat) (fr : List Nat) : ∀ (l : List Nat) (j k i : Nat), l[k]? = some i → ∃ c, (resJ ps slot fr l j)[k]? = some (mkR ps c i)
  | [], _, _, _, h => by simp at h
  | a :: l, j, 0, i, h => by
    simp at h
    subst h
    rw [resJ]
    split
    · exact ⟨_, rfl⟩
    · exact ⟨_, rfl⟩
  | a :: l, j, k + 1, i, h => by
    rw [resJ]
    split
    · exact resJ_at ps slot fr l j k i (by simpa using h)
    · exact resJ_at ps slot fr l (j + 1) k i (by simpa using h)
/-- The reference's cores are those of the list. -/
theorem cores_res {ps : List Pr} {slot n : Nat} {l : List Nat} (h : l.length ≤ n) (hr : ∀ i ∈ l, ∀ c, fixed ps slot i = some c → 0 ≤ c) : coresR n (befL ps slot l) = (resL ps slot n l).map (·.core) := coresR_eq hr (oth_le h)
end Go.Proofs.Ytehdgdlndlamjaa.AU
