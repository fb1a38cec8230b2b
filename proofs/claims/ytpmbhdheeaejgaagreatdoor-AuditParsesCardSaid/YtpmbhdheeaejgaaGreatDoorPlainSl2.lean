/- The sorted candidates and rows, in plain terms; the chapter's example. -/
import Derived.Test.YtpmbhdheeaejgaaGreatDoorPlainSl
namespace Go.Proofs.YtpmbhdheeaejgaaGreatDoor.SL
instance : DecidableEq Tk := fun ⟨a, b, c⟩ ⟨a', b', c'⟩ => decidable_of_iff (a = a' ∧ b = b' ∧ c = c') (by simp)
instance : DecidableEq Cd := fun ⟨a, b, c, d⟩ ⟨a', b', c', d'⟩ => decidable_of_iff (a = a' ∧ b = b' ∧ c = c' ∧ d = d') (by simp)
theorem bef_asymm {a b : Cd} (h : bef a b = true) : bef b a = false := by
  rw [← Bool.not_eq_true]
  intro h'
  have := bef_trans h h'
  rw [bef_irr] at this
  cases this
/-- Negatively transitive. -/
theorem bef_ntrans {a b c : Cd} (h1 : bef b a = false) (h2 : bef c b = false) : bef c a = false := by
  rw [← Bool.not_eq_true] at *
  unfold bef at *
  rw [befK_iff] at *
  generalize over a.tk a.idx = o1 at *
  generalize over b.tk b.idx = o2 at *
  generalize over c.tk c.idx = o3 at *
  generalize dl a = d1 at *
  generalize dl b = d2 at *
  generalize dl c = d3 at *
  generalize ends a = e1 at *
  generalize ends b = e2 at *
  generalize ends c = e3 at *
  cases o1 <;> cases o2 <;> cases o3 <;> simp only [reduceCtorEq, true_and, false_and, and_false, and_true, false_or, or_false, true_or] at h1 h2 ⊢ <;> omega
theorem map_finRange' {α : Type} (l : List α) : (List.finRange l.length).map l.get = l := by
  apply List.ext_getElem
  · simp
  · intro i h1 h2; simp
theorem srt_perm' (l : List Cd) : (srt l).Perm l := by
  unfold srt
  have h := (List.mergeSort_perm (List.finRange l.length) (fun x y => !bef (l.get y) (l.get x))).map l.get
  rw [map_finRange'] at h
  exact h
theorem srt_pairwise (l : List Cd) : (srt l).Pairwise fun a b => bef b a = false := by
  unfold srt
  rw [List.pairwise_map]
  have h := List.pairwise_mergeSort (le := fun (x y : Fin l.length) => !bef (l.get y) (l.get x)) (fun a b c h1 h2 => by
    simp only [Bool.not_eq_true'] at *
    exact bef_ntrans h1 h2) (fun a b => by
    cases h : bef (l.get b) (l.get a)
    · simp
    · have := bef_asymm h
      simp at this ⊢
      exact this) (List.finRange l.length)
  exact h.imp fun h => by simpa using h
theorem srt_eq {l l' : List Cd} (hp : l'.Perm l) (hs : l'.Pairwise fun a b => bef a b = true) : srt l = l' := by
  refine List.Perm.eq_of_pairwise (le := fun a b => bef b a = false) ?_ (srt_pairwise l) (hs.imp fun h => bef_asymm h) ((srt_perm' l).trans hp.symm)
  intro a b ha hb h1 h2
  have ha' : a ∈ l' := hp.symm.mem_iff.1 ((srt_perm' l).mem_iff.1 ha)
  obtain ⟨i, hi, rfl⟩ := List.mem_iff_getElem.1 ha'
  obtain ⟨j, hj, rfl⟩ := List.mem_iff_getElem.1 hb
  rcases Nat.lt_trichotomy i j with h | h | h
  · have := List.pairwise_iff_getElem.1 hs i j hi hj h
    rw [this] at h2; cases h2
  · subst h; rfl
  · have := List.pairwise_iff_getElem.1 hs j i hj hi h
    rw [this] at h1; cases h1
theorem rowOf_perm (l : List Nat) : (rowOf l).Perm l := List.mergeSort_perm l _
theorem rowOf_pairwise (l : List Nat) : (rowOf l).Pairwise (· ≤ ·) := by
  have h := List.pairwise_mergeSort (le := fun (a b : Nat) => decide (a ≤ b)) (fun a b c h1 h2 => by simp at *; omega) (fun a b => by simp; omega) l
  exact h.imp fun h => by simpa using h
theorem rowOf_eq {l l' : List Nat} (hp : l'.Perm l) (hs : l'.Pairwise (· ≤ ·)) : rowOf l = l' :=
  List.Perm.eq_of_pairwise (le := (· ≤ ·)) (fun _ _ _ _ h1 h2 => Nat.le_antisymm h1 h2) (rowOf_pairwise l) hs ((rowOf_perm l).trans hp.symm)
theorem rowOf_nodup {l : List Nat} (h : l.Nodup) : (rowOf l).Nodup := (rowOf_perm l).nodup_iff.2 h
/-- Strictly ascending. -/
theorem rowOf_lt {l : List Nat} (h : l.Nodup) : (rowOf l).Pairwise (· < ·) := by
  have h1 := rowOf_pairwise l
  have h2 := rowOf_nodup h
  exact (h1.and h2).imp fun ⟨a, b⟩ => by omega
def awT : Tk := ⟨⟨#[]⟩, 2, 3⟩
theorem aw_valid : valid [awT, awT, awT] 2 [[0], [0], [0]] = true := by decide
theorem aw_ch0 : chosen [awT, awT, awT] 2 0 (begJs [awT, awT, awT] [[0], [0], [0]] 0 (List.replicate 3 jb0)) = [0, 1] := by
  unfold chosen
  rw [srt_eq (l' := [⟨0, awT, 0, 1⟩, ⟨1, awT, 0, 1⟩, ⟨2, awT, 0, 1⟩]) (by decide) (by decide)]
  rfl
theorem aw_ch1 : chosen [awT, awT, awT] 2 1 (begJs [awT, awT, awT] [[0], [0], [0]] 1 (bump (begJs [awT, awT, awT] [[0], [0], [0]] 0 (List.replicate 3 jb0)) [0, 1])) = [2, 0] := by
  unfold chosen
  rw [srt_eq (l' := [⟨2, awT, 0, 1⟩, ⟨0, awT, 0, 2⟩, ⟨1, awT, 0, 2⟩]) (by decide) (by decide)]
  rfl
theorem aw_ch2 : chosen [awT, awT, awT] 2 2 (begJs [awT, awT, awT] [[0], [0], [0]] 2 (bump (begJs [awT, awT, awT] [[0], [0], [0]] 1 (bump (begJs [awT, awT, awT] [[0], [0], [0]] 0 (List.replicate 3 jb0)) [0, 1])) [2, 0])) = [1, 2] := by
  unfold chosen
  rw [srt_eq (l' := [⟨1, awT, 0, 2⟩, ⟨2, awT, 0, 2⟩]) (by decide) (by decide)]
  rfl
theorem aw_sim : simulate [awT, awT, awT] [[0], [0], [0]] 2 3 = ([[0, 1], [0, 2], [1, 2]], []) := by
  unfold simulate
  simp only [simS]
  rw [show [awT, awT, awT].length = 3 from rfl, show ((0 : Nat) : Int) = 0 from rfl, show ((0 + 1 : Nat) : Int) = 1 from rfl, show ((0 + 1 + 1 : Nat) : Int) = 2 from rfl, aw_ch0, aw_ch1, aw_ch2, rowOf_eq (l' := [0, 1]) (by decide) (by decide), rowOf_eq (l' := [0, 2]) (by decide) (by decide), rowOf_eq (l' := [1, 2]) (by decide) (by decide)]
  rfl
end Go.Proofs.YtpmbhdheeaejgaaGreatDoor.SL
