/- The reference's cores: the same cores in another order. -/
import Derived.Test.YtehdgdlndlamjaaPlainAu5
namespace Go.Proofs.Ytehdgdlndlamjaa.AU
open SL (Tk Cd srt winR bef)
def firstF (U : List Bool) : Option Nat := U.findIdx? (fun b => !b)
def markU (n : Nat) (bs : List Int) : List Bool := (List.range n).map fun (c : Nat) => bs.any fun b => b == (c : Int)
/-- Behind so many of the second loop's rounds. -/
def st2 (U : List Bool) (bs : List Int) : Nat → List Bool × List Int
  | 0 => (U, [])
  | k + 1 => match bs[k]? with
    | none => st2 U bs k
    | some b => if b < 0 then (match firstF (st2 U bs k).1 with
      | some f => ((st2 U bs k).1.set f true, (st2 U bs k).2 ++ [(f : Int)])
      | none => ((st2 U bs k).1, (st2 U bs k).2 ++ [b])) else ((st2 U bs k).1, (st2 U bs k).2 ++ [b])
def coresR (n : Nat) (bs : List Int) : List Int := (st2 (markU n bs) bs bs.length).2
theorem st2_keep {U : List Bool} {bs : List Int} {k : Nat} {b : Int} (h : bs[k]? = some b) (hb : ¬ b < 0) : st2 U bs (k + 1) = ((st2 U bs k).1, (st2 U bs k).2 ++ [b]) := by
  rw [st2, h]
  simp [hb]
theorem st2_some {U : List Bool} {bs : List Int} {k f : Nat} {b : Int} (h : bs[k]? = some b) (hb : b < 0) (hf : firstF (st2 U bs k).1 = some f) : st2 U bs (k + 1) = ((st2 U bs k).1.set f true, (st2 U bs k).2 ++ [(f : Int)]) := by
  rw [st2, h]
  simp [hb, hf]
theorem st2_none {U : List Bool} {bs : List Int} {k : Nat} {b : Int} (h : bs[k]? = some b) (hb : b < 0) (hf : firstF (st2 U bs k).1 = none) : st2 U bs (k + 1) = ((st2 U bs k).1, (st2 U bs k).2 ++ [b]) := by
  rw [st2, h]
  simp [hb, hf]
theorem st2_len {U : List Bool} {bs : List Int} : ∀ k, k ≤ bs.length → (st2 U bs k).1.length = U.length ∧ (st2 U bs k).2.length = k
  | 0, _ => by simp [st2]
  | k + 1, hk => by
    obtain ⟨h1, h2⟩ := st2_len (U := U) (bs := bs) k (by omega)
    obtain ⟨b, hb⟩ : ∃ b, bs[k]? = some b := ⟨_, List.getElem?_eq_getElem (by omega)⟩
    by_cases hn : b < 0
    · cases hf : firstF (st2 U bs k).1 with
      | none => rw [st2_none hb hn hf]; simp [h1, h2]
      | some f => rw [st2_some hb hn hf]; simp [h1, h2]
    · rw [st2_keep hb hn]; simp [h1, h2]
theorem firstF_some {U : List Bool} {f : Nat} (h : ∀ c, c < f → U[c]? = some true) (hf : U[f]? = some false) : firstF U = some f := by
  unfold firstF
  rw [List.findIdx?_eq_some_iff_getElem]
  obtain ⟨h1, h2⟩ := List.getElem?_eq_some_iff.1 hf
  refine ⟨h1, by simp [h2], fun j hj => ?_⟩
  obtain ⟨h3, h4⟩ := List.getElem?_eq_some_iff.1 (h j hj)
  simp [h4]
theorem firstF_none {U : List Bool} (h : ∀ c, c < U.length → U[c]? = some true) : firstF U = none := by
  unfold firstF
  rw [List.findIdx?_eq_none_iff]
  intro x hx
  obtain ⟨i, hi⟩ := List.mem_iff_getElem?.1 hx
  rw [h i (List.getElem?_eq_some_iff.1 hi).1] at hi
  injection hi with hi
  simp [← hi]
/-- Which cores are taken when so many of the free ones have been given away. -/
def usedJ (F : List Rq) (n j : Nat) : List Bool := (List.range n).map fun (c : Nat) => takenB F c || decide (c ∈ (freeL F n).take j)
theorem usedJ_first {F : List Rq} {n j : Nat} (c : Nat) (h : (freeL F n)[j]? = some c) : firstF (usedJ F n j) = some c := by
  have hc : c ∈ freeL F n := List.mem_of_getElem? h
  have hs : (freeL F n).Pairwise (· < ·) := List.Pairwise.sublist List.filter_sublist List.pairwise_lt_range
  obtain ⟨hcn, hct⟩ := freeL_mem.1 hc
  have htk : takenB F c = false := by
    rw [← Bool.not_eq_true]
    intro h'
    obtain ⟨r, hr, he⟩ := taken_iff.1 h'
    exact hct r hr he
  have hj := (List.getElem?_eq_some_iff.1 h).1
  have hsplit : freeL F n = (freeL F n).take j ++ c :: (freeL F n).drop (j + 1) := by
    rw [← (List.getElem?_eq_some_iff.1 h).2, ← List.drop_eq_getElem_cons hj, List.take_append_drop]
  have hnt : c ∉ (freeL F n).take j := by
    intro hm
    rw [hsplit, List.pairwise_append] at hs
    have := hs.2.2 c hm c (by simp)
    omega
  refine firstF_some (fun c' hc' => ?_) ?_
  · unfold usedJ
    rw [List.getElem?_map, List.getElem?_range (by omega)]
    simp only [Option.map_some, Option.some.injEq, Bool.or_eq_true, decide_eq_true_eq]
    cases ht : takenB F c' with
    | true => exact .inl rfl
    | false =>
      right
      have hm : c' ∈ freeL F n := by
        unfold freeL
        rw [List.mem_filter]
        exact ⟨List.mem_range.2 (by omega), by rw [ht]; rfl⟩
      rw [hsplit] at hm hs
      rcases List.mem_append.1 hm with hm | hm
      · exact hm
      · rw [List.pairwise_append, List.pairwise_cons] at hs
        rcases List.mem_cons.1 hm with rfl | hm
        · omega
        · have := hs.2.1.1 c' hm
          omega
  · unfold usedJ
    rw [List.getElem?_map, List.getElem?_range hcn]
    simp [htk, hnt]
theorem usedJ_set {F : List Rq} {n j : Nat} {c : Nat} (h : (freeL F n)[j]? = some c) : (usedJ F n j).set c true = usedJ F n (j + 1) := by
  have htk : (freeL F n).take (j + 1) = (freeL F n).take j ++ [c] := by
    obtain ⟨h1, h2⟩ := List.getElem?_eq_some_iff.1 h
    rw [List.take_succ_eq_append_getElem h1, h2]
  apply List.ext_getElem?
  intro i
  rw [List.getElem?_set]
  unfold usedJ
  rw [htk]
  by_cases hi : i < n
  · simp only [List.getElem?_map, List.getElem?_range hi, Option.map_some, List.length_map, List.length_range]
    by_cases hc : c = i
    · subst hc
      simp [hi]
    · rw [if_neg hc]
      have : i ≠ c := fun e => hc e.symm
      simp [this]
  · have hn : (List.range n)[i]? = none := List.getElem?_eq_none (by simp; omega)
    simp only [List.getElem?_map, hn, Option.map_none, List.length_map, List.length_range]
    split
    · rw [if_neg (by omega)]
    · rfl
/-- The cores that the jobs ran on, or -1. -/
def befL (ps : List Pr) (slot : Nat) (l : List Nat) : List Int := l.map fun i => (fixed ps slot i).getD (-1)
/-- Each with its core, in the order of the selection. -/
def resJ (ps : List Pr) (slot : Nat) (fr : List Nat) : List Nat → Nat → List Rq
  | [], _ => []
  | i :: l, j => match fixed ps slot i with
    | some c => mkR ps c i :: resJ ps slot fr l j
    | none => mkR ps ((fr[j]?.map fun (c : Nat) => (c : Int)).getD (-1)) i :: resJ ps slot fr l (j + 1)
theorem resJ_perm (ps : List Pr) (slot : Nat) (fr : List Nat) : ∀ (l : List Nat) (j : Nat), (othL ps slot l).length + j ≤ fr.length → (resJ ps slot fr l j).Perm (fixL ps slot l ++ newL ps (fr.drop j) (othL ps slot l))
  | [], j, _ => by simp [resJ, fixL, othL, newL]
  | i :: l, j, h => by
    cases hf : fixed ps slot i with
    | some c =>
      have h1 : fixL ps slot (i :: l) = mkR ps c i :: fixL ps slot l := by unfold fixL; rw [List.filterMap_cons, hf]; rfl
      have h2 : othL ps slot (i :: l) = othL ps slot l := by unfold othL; rw [List.filter_cons, hf]; rfl
      rw [h2] at h
      rw [h1, h2, resJ, hf]
      exact (resJ_perm ps slot fr l j h).cons _
    | none =>
      have h1 : fixL ps slot (i :: l) = fixL ps slot l := by unfold fixL; rw [List.filterMap_cons, hf]; rfl
      have h2 : othL ps slot (i :: l) = i :: othL ps slot l := by unfold othL; rw [List.filter_cons, hf]; rfl
      rw [h2, List.length_cons] at h
      have hj : j < fr.length := by omega
      rw [h1, h2, resJ, hf]
      simp only
      rw [List.getElem?_eq_getElem hj, List.drop_eq_getElem_cons hj]
      have hp := resJ_perm ps slot fr l (j + 1) (by omega)
      refine (hp.cons _).trans ?_
      unfold newL
      rw [List.zipWith_cons_cons]
      exact List.perm_middle.symm
theorem resJ_snoc (ps : List Pr) (slot : Nat) (fr : List Nat) (i : Nat) : ∀ (l : List Nat) (j : Nat), resJ ps slot fr (l ++ [i]) j = resJ ps slot fr l j ++ resJ ps slot fr [i] (j + (othL ps slot l).length)
  | [], j => by simp [resJ, othL]
  | a :: l, j => by
    rw [List.cons_append, resJ, resJ]
    cases hf : fixed ps slot a with
    | some c =>
      have h2 : othL ps slot (a :: l) = othL ps slot l := by unfold othL; rw [List.filter_cons, hf]; rfl
      simp only
      rw [resJ_snoc ps slot fr i l j, h2, List.cons_append]
    | none =>
      have h2 : othL ps slot (a :: l) = a :: othL ps slot l := by unfold othL; rw [List.filter_cons, hf]; rfl
      simp only
      rw [resJ_snoc ps slot fr i l (j + 1), h2, List.cons_append, List.length_cons, show j + 1 + (othL ps slot l).length = j + ((othL ps slot l).length + 1) from by omega]
theorem resJ_len (ps : List Pr) (slot : Nat) (fr : List Nat) : ∀ (l : List Nat) (j : Nat), (resJ ps slot fr l j).length = l.length
  | [], j => rfl
  | a :: l, j => by
    rw [resJ]
    split
    · rw [List.length_cons, List.length_cons, resJ_len ps slot fr l j]
    · rw [List.length_cons, List.length_cons, resJ_len ps slot fr l (j + 1)]
theorem markU_bef {ps : List Pr} {slot n : Nat} {l : List Nat} : markU n (befL ps slot l) = usedJ (fixL ps slot l) n 0 := by
  unfold markU usedJ
  apply List.map_congr_left
  intro c _
  simp only [List.take_zero, List.not_mem_nil, decide_false, Bool.or_false]
  unfold takenB befL fixL
  rw [List.any_map, List.any_filterMap]
  congr 1
  funext i
  simp only [Function.comp]
  cases hf : fixed ps slot i with
  | none =>
    simp only [Option.getD_none, Option.map_none]
    exact beq_false_of_ne (by omega)
  | some x => simp [mkR_core]
/-- The second loop gives the free ones away in their order. -/
theorem st2_res {ps : List Pr} {slot n : Nat} {l : List Nat} (hr : ∀ i ∈ l, ∀ c, fixed ps slot i = some c → 0 ≤ c) (ho : (othL ps slot l).length ≤ (freeL (fixL ps slot l) n).length) : ∀ k, k ≤ l.length →
    st2 (markU n (befL ps slot l)) (befL ps slot l) k = (usedJ (fixL ps slot l) n (othL ps slot (l.take k)).length, (resJ ps slot (freeL (fixL ps slot l) n) (l.take k) 0).map (·.core))
  | 0, _ => by simp [st2, markU_bef, othL, resJ]
  | k + 1, hk => by
    have ih := st2_res hr ho k (by omega)
    obtain ⟨i, hi⟩ : ∃ i, l[k]? = some i := ⟨_, List.getElem?_eq_getElem (by omega)⟩
    have htk : l.take (k + 1) = l.take k ++ [i] := by
      obtain ⟨h1, h2⟩ := List.getElem?_eq_some_iff.1 hi
      rw [List.take_succ_eq_append_getElem h1, h2]
    have hb : (befL ps slot l)[k]? = some ((fixed ps slot i).getD (-1)) := by unfold befL; rw [List.getElem?_map, hi]; rfl
    have hos : othL ps slot (l.take k ++ [i]) = othL ps slot (l.take k) ++ (if (fixed ps slot i).isNone then [i] else []) := by
      unfold othL
      rw [List.filter_append]
      congr 1
      cases h : (fixed ps slot i).isNone <;> simp [h]
    cases hf : fixed ps slot i with
    | some c =>
      have h0 := hr i (List.mem_of_getElem? hi) c hf
      rw [hf] at hb hos
      rw [st2_keep hb (by simp; omega), ih, htk, hos, resJ_snoc]
      simp [resJ, hf, mkR_core]
    | none =>
      rw [hf] at hb hos
      have hsub : (othL ps slot (l.take (k + 1))).length ≤ (othL ps slot l).length := (List.Sublist.filter _ (List.take_sublist _ _)).length_le
      rw [htk, hos] at hsub
      simp only [Option.isNone_none, if_true, List.length_append, List.length_singleton] at hsub
      have hj : (othL ps slot (l.take k)).length < (freeL (fixL ps slot l) n).length := by omega
      have hfr := List.getElem?_eq_getElem hj
      have h1 : firstF (st2 (markU n (befL ps slot l)) (befL ps slot l) k).1 = some ((freeL (fixL ps slot l) n)[(othL ps slot (l.take k)).length]) := by
        rw [ih]
        exact usedJ_first _ hfr
      rw [st2_some hb (by simp) h1, ih, htk, hos, resJ_snoc, usedJ_set hfr]
      simp [resJ, hf, mkR_core]
      rw [hfr]
      rfl
theorem coresR_eq {ps : List Pr} {slot n : Nat} {l : List Nat} (hr : ∀ i ∈ l, ∀ c, fixed ps slot i = some c → 0 ≤ c) (ho : (othL ps slot l).length ≤ (freeL (fixL ps slot l) n).length) : coresR n (befL ps slot l) = (resJ ps slot (freeL (fixL ps slot l) n) l 0).map (·.core) := by
  unfold coresR
  rw [show (befL ps slot l).length = l.length from by simp [befL], st2_res hr ho l.length (Nat.le_refl _), List.take_length]
end Go.Proofs.Ytehdgdlndlamjaa.AU
