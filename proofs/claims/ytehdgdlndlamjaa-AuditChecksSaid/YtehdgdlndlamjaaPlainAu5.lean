/- The reference's selection and its cores: the sorted list's first ones, the same cores. -/
import Derived.Test.YtehdgdlndlamjaaPlainAu4
namespace Go.Proofs.Ytehdgdlndlamjaa.AU
open SL (Tk Cd srt winR bef)
/-- The index of the first one among the places 0 to j. -/
def minT (l : List Cd) : Nat → Nat
  | 0 => 0
  | j + 1 => match l[j + 1]?, l[minT l j]? with
    | some a, some b => if bef a b then j + 1 else minT l j
    | _, _ => minT l j
theorem minT_le (l : List Cd) : ∀ j, minT l j ≤ j
  | 0 => Nat.le_refl _
  | j + 1 => by
    have ih := minT_le l j
    rw [minT]
    split
    · split <;> omega
    · omega
theorem minT_succ {l : List Cd} {j : Nat} {a b : Cd} (h1 : l[j + 1]? = some a) (h2 : l[minT l j]? = some b) : minT l (j + 1) = if bef a b then j + 1 else minT l j := by
  rw [minT, h1, h2]
theorem minT_min {l : List Cd} : ∀ (j i : Nat) (a b : Cd), i ≤ j → l[i]? = some a → l[minT l j]? = some b → bef a b = false
  | 0, i, a, b, hi, h1, h2 => by
    have : i = 0 := by omega
    subst this
    rw [minT] at h2
    rw [h1] at h2
    injection h2 with h2
    subst h2
    exact SL.bef_irr _
  | j + 1, i, a, b, hi, h1, h2 => by
    by_cases hj : j + 1 < l.length
    · obtain ⟨c, hc⟩ : ∃ c, l[j + 1]? = some c := ⟨_, List.getElem?_eq_getElem hj⟩
      have hm := minT_le l j
      obtain ⟨d, hd⟩ : ∃ d, l[minT l j]? = some d := ⟨_, List.getElem?_eq_getElem (by omega)⟩
      rw [minT_succ hc hd] at h2
      by_cases hb : bef c d = true
      · rw [if_pos hb, hc] at h2
        injection h2 with h2
        subst h2
        by_cases he : i = j + 1
        · subst he
          rw [hc] at h1
          injection h1 with h1
          subst h1
          exact SL.bef_irr _
        · have ih := minT_min j i a d (by omega) h1 hd
          rw [← Bool.not_eq_true]
          intro h
          rw [SL.bef_trans h hb] at ih
          cases ih
      · rw [if_neg hb, hd] at h2
        injection h2 with h2
        subst h2
        by_cases he : i = j + 1
        · subst he
          rw [hc] at h1
          injection h1 with h1
          subst h1
          simpa using hb
        · exact minT_min j i a d (by omega) h1 hd
    · have hn : l[j + 1]? = none := List.getElem?_eq_none (by omega)
      have : minT l (j + 1) = minT l j := by rw [minT, hn]
      rw [this] at h2
      have hil := (List.getElem?_eq_some_iff.1 h1).1
      exact minT_min j i a b (by omega) h1 h2
/-- The reference's selection. -/
def selN : Nat → List Cd → List Cd
  | 0, _ => []
  | n + 1, l => match l[minT l (l.length - 1)]? with
    | none => []
    | some c => c :: selN n (l.take (minT l (l.length - 1)) ++ l.drop (minT l (l.length - 1) + 1))
theorem split_at {l : List Cd} {k : Nat} {c : Cd} (h : l[k]? = some c) : l = l.take k ++ c :: l.drop (k + 1) := by
  obtain ⟨h1, h2⟩ := List.getElem?_eq_some_iff.1 h
  rw [← h2, ← List.drop_eq_getElem_cons h1, List.take_append_drop]
theorem selN_eq : ∀ (n : Nat) (l : List Cd), (l.map (·.num)).Nodup → selN n l = (srt l).take n
  | 0, l, _ => by simp [selN]
  | n + 1, l, hn => by
    rw [selN]
    have hm := minT_le l (l.length - 1)
    cases hc : l[minT l (l.length - 1)]? with
    | none =>
      have : l.length ≤ minT l (l.length - 1) := List.getElem?_eq_none_iff.1 hc
      have : l = [] := List.length_eq_zero_iff.1 (by omega)
      subst this
      simp [srt]
    | some c =>
      simp only
      have hs := split_at hc
      generalize hR : l.take (minT l (l.length - 1)) ++ l.drop (minT l (l.length - 1) + 1) = R
      have hp : l.Perm (c :: R) := by
        rw [← hR]
        conv => lhs; rw [hs]
        exact List.perm_middle
      have hn2 : ((c :: R).map (·.num)).Nodup := ((hp.map _).nodup_iff).1 hn
      rw [List.map_cons, List.nodup_cons] at hn2
      rw [selN_eq n R hn2.2]
      have hsr : srt l = c :: srt R := by
        refine List.Perm.eq_of_pairwise (le := fun a b => bef a b = true) (fun a b _ _ h1 h2 => ?_) (SL.srt_strict hn) ?_ ((SL.srt_perm' l).trans (hp.trans (List.Perm.cons c (SL.srt_perm' R).symm)))
        · have := SL.bef_trans h1 h2
          rw [SL.bef_irr] at this
          cases this
        · rw [List.pairwise_cons]
          refine ⟨fun x hx => ?_, SL.srt_strict hn2.2⟩
          have hxR := (SL.srt_perm' R).mem_iff.1 hx
          have hxl : x ∈ l := hp.symm.mem_iff.1 (List.mem_cons_of_mem _ hxR)
          obtain ⟨i, hi⟩ := List.mem_iff_getElem?.1 hxl
          have hil := (List.getElem?_eq_some_iff.1 hi).1
          have h1 := minT_min (l.length - 1) i x c (by omega) hi hc
          have hne : x.num ≠ c.num := fun e => hn2.1 (List.mem_map.2 ⟨x, hxR, e⟩)
          exact SL.bef_total hne h1
      rw [hsr, List.take_succ_cons]
theorem selN_len : ∀ (n : Nat) (l : List Cd), (selN n l).length ≤ n
  | 0, l => by simp [selN]
  | n + 1, l => by
    rw [selN]
    split
    · simp
    · have := selN_len n (l.take (minT l (l.length - 1)) ++ l.drop (minT l (l.length - 1) + 1))
      simp only [List.length_cons]
      omega
end Go.Proofs.Ytehdgdlndlamjaa.AU
