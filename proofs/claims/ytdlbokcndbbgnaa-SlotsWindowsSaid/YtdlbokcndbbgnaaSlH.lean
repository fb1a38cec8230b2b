/- Facts on the candidates; the schedule in memory. -/
import Derived.Test.YtdlbokcndbbgnaaSlS
import Derived.Test.YtdlbokcndbbgnaaSlV
import Derived.Test.YtdlbokcndbbgnaaSlE
namespace Go.Proofs.Ytdlbokcndbbgnaa
open Go.RowKit Go.Maps Go.Sort Go.Lib
open SL (Tk Jb Ms Cd)
theorem cands_mem : ∀ (ts : List Tk) (i : Nat) (slot : Int) (js : List Jb) (c : Cd), c ∈ SL.cands ts i slot js → ∃ k t j, ts[k]? = some t ∧ js[k]? = some j ∧ SL.elig t slot j = true ∧ c = SL.mkCd (i + k) t j
  | [], _, _, _, _, h => by simp [SL.cands] at h
  | _ :: _, _, _, [], _, h => by simp [SL.cands] at h
  | t :: ts, i, slot, j :: js, c, h => by
    rw [SL.cands, List.mem_append] at h
    rcases h with h | h
    · by_cases he : SL.elig t slot j = true
      · rw [if_pos he] at h
        exact ⟨0, t, j, rfl, rfl, he, by simpa using h⟩
      · rw [if_neg he] at h; simp at h
    · obtain ⟨k, t', j', h1, h2, h3, h4⟩ := cands_mem ts (i + 1) slot js c h
      exact ⟨k + 1, t', j', by simpa using h1, by simpa using h2, h3, by rw [h4]; congr 1; omega⟩
theorem cands_nodup : ∀ (ts : List Tk) (i : Nat) (slot : Int) (js : List Jb), ((SL.cands ts i slot js).map (·.num)).Nodup
  | [], _, _, _ => by simp [SL.cands]
  | _ :: _, _, _, [] => by simp [SL.cands]
  | t :: ts, i, slot, j :: js => by
    have ih := cands_nodup ts (i + 1) slot js
    rw [SL.cands]
    by_cases he : SL.elig t slot j = true
    · rw [if_pos he, List.singleton_append, List.map_cons, List.nodup_cons]
      refine ⟨fun h => ?_, ih⟩
      obtain ⟨c, hc, hn⟩ := List.mem_map.1 h
      obtain ⟨k, _, _, _, _, _, h4⟩ := cands_mem ts (i + 1) slot js c hc
      rw [h4] at hn
      simp [SL.mkCd] at hn
      omega
    · rw [if_neg he, List.nil_append]
      exact ih
theorem srt_perm (l : List Cd) : (SL.srt l).Perm l := by
  unfold SL.srt
  have h := (List.mergeSort_perm (List.finRange l.length) (fun x y => !SL.bef (l.get y) (l.get x))).map l.get
  rw [map_finRange] at h
  exact h
theorem cands_ok {B : World} {M : Mdl} (hmc : MC B M) {js : List Jb} (hok : ∀ j ∈ js, okJ j) (slot : Int) : okCs (SL.cands M.ts 0 slot js) := by
  refine ⟨fun c hc => ?_, cands_nodup _ _ _ _⟩
  obtain ⟨k, t, j, h1, h2, h3, rfl⟩ := cands_mem _ _ _ _ _ hc
  have hj := hok j (List.mem_of_getElem? h2)
  have ht := hmc.okt h1
  unfold SL.elig SL.pend at h3
  simp only [Bool.and_eq_true, decide_eq_true_eq] at h3
  exact ⟨⟨ht, by show 1 ≤ j.done + 1; have := hj.2.2.1; omega, by show j.done + 1 ≤ t.cost; omega⟩, hj.1, by show j.rel ≤ 1000000; have := hj.2.1; omega⟩
/-- The chosen tasks: distinct, pending, in the list. -/
theorem chosen_ok (ts : List Tk) (cores : Nat) (slot : Int) (js : List Jb) : (SL.chosen ts cores slot js).Nodup ∧ (SL.chosen ts cores slot js).length ≤ cores ∧ ∀ k ∈ SL.chosen ts cores slot js, ∃ t j, ts[k]? = some t ∧ js[k]? = some j ∧ SL.pend t j = true := by
  unfold SL.chosen
  have hp := srt_perm (SL.cands ts 0 slot js)
  refine ⟨?_, by simp; omega, fun k hk => ?_⟩
  · have h1 : ((SL.srt (SL.cands ts 0 slot js)).map (·.num)).Nodup := (hp.map (·.num)).nodup_iff.2 (cands_nodup ts 0 slot js)
    rw [List.map_take]
    exact h1.sublist (List.take_sublist _ _)
  · obtain ⟨c, hc, rfl⟩ := List.mem_map.1 hk
    obtain ⟨k, t, j, h1, h2, h3, rfl⟩ := cands_mem _ _ _ _ _ (hp.mem_iff.1 (List.mem_of_mem_take hc))
    unfold SL.elig at h3
    simp only [Bool.and_eq_true] at h3
    exact ⟨t, j, by simpa [SL.mkCd] using h1, by simpa [SL.mkCd] using h2, h3.1⟩
theorem bump_len (l : List Nat) : ∀ js : List Jb, (SL.bump js l).length = js.length := by
  induction l with
  | nil => intro js; rfl
  | cons i l ih => intro js; show (SL.bump (SL.bump1 js i) l).length = _; rw [ih]; simp [SL.bump1]
theorem bump_snoc (js : List Jb) (l : List Nat) (i : Nat) : SL.bump js (l ++ [i]) = SL.bump1 (SL.bump js l) i := by simp [SL.bump]
theorem bump_get : ∀ (l : List Nat) (js : List Jb) (k : Nat), k ∉ l → (SL.bump js l)[k]? = js[k]?
  | [], _, _, _ => rfl
  | i :: l, js, k, h => by
    show (SL.bump (SL.bump1 js i) l)[k]? = _
    rw [bump_get l _ k (fun h' => h (by simp [h']))]
    unfold SL.bump1
    rw [List.getElem?_modify]
    have hik : ¬ i = k := fun e => h (by simp [e])
    simp only [hik, if_false]
    cases js[k]? <;> rfl
theorem bump1_set {js : List Jb} {k : Nat} {j : Jb} (h : js[k]? = some j) : SL.bump1 js k = js.set k { j with done := j.done + 1 } := by
  unfold SL.bump1
  apply List.ext_getElem?
  intro i
  rw [List.getElem?_modify, List.getElem?_set]
  obtain ⟨h1, h2⟩ := List.getElem?_eq_some_iff.1 h
  by_cases hi : k = i
  · subst hi
    rw [h]
    simp [h1]
  · simp [hi]
/-- A row of ints in a block of ints. -/
def RowI (W : World) (A : Option Addr) (xs : List Value) : Prop := xs ≠ [] → ∃ (b : Nat) (cs : Array Value) (m : Nat × Nat), A = some ⟨b, 0, none⟩ ∧ W.heap[b]? = some (.cells cs 3 m) ∧ ∀ (i : Nat) (v : Value), xs[i]? = some v → cs[i]? = some v
theorem RowI.fx {T : List TypeId} {W W' : World} {A : Option Addr} {xs : List Value} (h : RowI W A xs) (k : FxT T W W') (ht : 3 ∉ T) : RowI W' A xs := fun hn => by
  obtain ⟨b, cs, m, h1, h2, h3⟩ := h hn
  exact ⟨b, cs, m, h1, k.2 _ _ _ _ h2 ht, h3⟩
theorem RowI.row {W : World} {A : Option Addr} {xs : List Value} (h : RowI W A xs) : Row W A xs := fun hn => by
  obtain ⟨b, cs, m, h1, h2, h3⟩ := h hn
  refine ⟨b, 0, h1, (Array.getElem?_eq_some_iff.1 h2).1, fun i v hi => ?_⟩
  rw [Nat.zero_add, cell_of_row W b i cs _ m h2]
  exact h3 i v hi
theorem rowI_own {W : World} {base : Nat} {A : Option Addr} {n c : Nat} {xs : List Value} (h : W.ownsRow base 3 1 (.slice A n c) n xs) : RowI W A xs := fun hn => by
  rcases h.2 with ⟨e0, h0⟩ | ⟨g, cap, cur, e0, hb, hg, hnc, hm, hs, ht⟩
  · have := h.1
    rw [h0] at this
    simp at this
    exact absurd this hn
  · injection e0 with e1
    subst e1
    refine ⟨g, cur, (0, 0), rfl, hg, fun i v hi => ?_⟩
    rw [← ht] at hi
    rw [List.getElem?_take] at hi
    split at hi
    · simpa using hi
    · cases hi
def natI (l : List Nat) : List Value := l.map fun (k : Nat) => Value.int .i64 (k : Int)
/-- The schedule, t slots of n being laid. -/
def SchedS (W : World) (gs n t : Nat) (S : List (List Nat)) : Prop :=
  ∃ vs : Array Value, Blk W gs 35 vs ∧ vs.size = n ∧ S.length = t ∧ (∀ (i : Nat) (r : List Nat), S[i]? = some r → ∃ (A : Option Addr) (c : Nat), vs[i]? = some (.slice A r.length c) ∧ RowI W A (natI r)) ∧ ∀ i, t ≤ i → i < n → vs[i]? = some (.slice none 0 0)
theorem SchedS.fx {T : List TypeId} {W W' : World} {gs n t : Nat} {S : List (List Nat)} (h : SchedS W gs n t S) (k : FxT T W W') (h1 : 3 ∉ T) (h2 : 35 ∉ T) : SchedS W' gs n t S := by
  obtain ⟨vs, a, b, c, d, e⟩ := h
  refine ⟨vs, a.fx k h2, b, c, fun i r hi => ?_, e⟩
  obtain ⟨A, cc, f, g⟩ := d i r hi
  exact ⟨A, cc, f, g.fx k h1⟩
theorem MInv.fx {T : List TypeId} {B : World} {M : Mdl} {gm gj : Nat} {js : List Jb} {mv : Value} {ms : List Ms} {W W' : World} (h : MInv B M gm gj js mv ms W) (k : FxT T W W') (hb : Below B.heap.size B W') (h1 : 75 ∉ T) (h2 : 72 ∉ T) (h3 : 88 ∉ T) : MInv B M gm gj js mv ms W' :=
  ⟨hb, h.lom, h.loj, h.bm.fx k h1, h.bj.fx k h2, own_fx h.bs k h3, h.jl, h.ok⟩
theorem FxT.mono {T T' : List TypeId} {w w' : World} (h : FxT T w w') (hs : ∀ x ∈ T, x ∈ T') : FxT T' w w' := ⟨h.1, fun i cs t m hi ht => h.2 i cs t m hi (fun h' => ht (hs t h'))⟩
theorem FxT.grownNew {T : List TypeId} {w w' w'' : World} (h : FxT T w w') {row : Option Nat} (hg : w'.grownBy w'' row) (hr : ∀ k, row = some k → w.heap.size ≤ k) : FxT T w w'' := ⟨Nat.le_trans h.1 hg.size, fun i cs' t' m hi ht' => by
  have h1 := h.2 i cs' t' m hi ht'
  rw [hg.block i (Array.getElem?_eq_some_iff.1 h1).1 (by
    intro e
    have := hr i e.symm
    have := (Array.getElem?_eq_some_iff.1 hi).1
    omega), h1]⟩
end Go.Proofs.Ytdlbokcndbbgnaa
