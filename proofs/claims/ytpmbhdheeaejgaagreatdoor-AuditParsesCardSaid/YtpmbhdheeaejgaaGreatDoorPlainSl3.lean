/- Check accepts what Simulate makes, with the same misses. -/
import Derived.Test.YtpmbhdheeaejgaaGreatDoorPlainSl2
namespace Go.Proofs.YtpmbhdheeaejgaaGreatDoor.SL
def ints (l : List Nat) : List Int := l.map fun (k : Nat) => (k : Int)
theorem cands_mem' : ∀ (ts : List Tk) (i : Nat) (slot : Int) (js : List Jb) (c : Cd), c ∈ cands ts i slot js → ∃ k t j, ts[k]? = some t ∧ js[k]? = some j ∧ elig t slot j = true ∧ c = mkCd (i + k) t j
  | [], _, _, _, _, h => by simp [cands] at h
  | _ :: _, _, _, [], _, h => by simp [cands] at h
  | t :: ts, i, slot, j :: js, c, h => by
    rw [cands, List.mem_append] at h
    rcases h with h | h
    · by_cases he : elig t slot j = true
      · rw [if_pos he] at h
        exact ⟨0, t, j, rfl, rfl, he, by simpa using h⟩
      · rw [if_neg he] at h; simp at h
    · obtain ⟨k, t', j', h1, h2, h3, h4⟩ := cands_mem' ts (i + 1) slot js c h
      exact ⟨k + 1, t', j', by simpa using h1, by simpa using h2, h3, by rw [h4]; congr 1; omega⟩
theorem cands_nodup' : ∀ (ts : List Tk) (i : Nat) (slot : Int) (js : List Jb), ((cands ts i slot js).map (·.num)).Nodup
  | [], _, _, _ => by simp [cands]
  | _ :: _, _, _, [] => by simp [cands]
  | t :: ts, i, slot, j :: js => by
    have ih := cands_nodup' ts (i + 1) slot js
    rw [cands]
    by_cases he : elig t slot j = true
    · rw [if_pos he, List.singleton_append, List.map_cons, List.nodup_cons]
      refine ⟨fun h => ?_, ih⟩
      obtain ⟨c, hc, hn⟩ := List.mem_map.1 h
      obtain ⟨k, _, _, _, _, _, h4⟩ := cands_mem' ts (i + 1) slot js c hc
      rw [h4] at hn
      simp [mkCd] at hn
      omega
    · rw [if_neg he, List.nil_append]
      exact ih
theorem chosen_ok' (ts : List Tk) (cores : Nat) (slot : Int) (js : List Jb) : (chosen ts cores slot js).Nodup ∧ (chosen ts cores slot js).length ≤ cores ∧ ∀ k ∈ chosen ts cores slot js, ∃ t j, ts[k]? = some t ∧ js[k]? = some j ∧ pend t j = true := by
  unfold chosen
  have hp := srt_perm' (cands ts 0 slot js)
  refine ⟨?_, by simp; omega, fun k hk => ?_⟩
  · have h1 : ((srt (cands ts 0 slot js)).map (·.num)).Nodup := (hp.map (·.num)).nodup_iff.2 (cands_nodup' ts 0 slot js)
    rw [List.map_take]
    exact h1.sublist (List.take_sublist _ _)
  · obtain ⟨c, hc, rfl⟩ := List.mem_map.1 hk
    obtain ⟨k, t, j, h1, h2, h3, rfl⟩ := cands_mem' _ _ _ _ _ (hp.mem_iff.1 (List.mem_of_mem_take hc))
    unfold elig at h3
    simp only [Bool.and_eq_true] at h3
    exact ⟨t, j, by simpa [mkCd] using h1, by simpa [mkCd] using h2, h3.1⟩
theorem bump1_comm (js : List Jb) (i k : Nat) : bump1 (bump1 js i) k = bump1 (bump1 js k) i := by
  unfold bump1
  apply List.ext_getElem?
  intro m
  simp only [List.getElem?_modify]
  by_cases h1 : i = m <;> by_cases h2 : k = m <;> simp [h1, h2] <;> cases js[m]? <;> rfl
theorem bump_perm {l l' : List Nat} (h : l.Perm l') (js : List Jb) : bump js l = bump js l' :=
  h.foldl_eq' (fun x _ y _ z => bump1_comm z x y) js
theorem bump_len' (l : List Nat) : ∀ js : List Jb, (bump js l).length = js.length := by
  induction l with
  | nil => intro js; rfl
  | cons i l ih => intro js; show (bump (bump1 js i) l).length = _; rw [ih]; simp [bump1]
theorem ints_back (l : List Nat) : (ints l).map Int.toNat = l := by
  unfold ints; rw [List.map_map]; conv => rhs; rw [← List.map_id l]
  rfl
theorem asc_ints (n : Nat) : ∀ (l : List Nat) (b : Int), (∀ k ∈ l, b < (k : Int) ∧ k < n) → l.Pairwise (· < ·) → asc n b (ints l) = true
  | [], _, _, _ => rfl
  | k :: l, b, h, hp => by
    obtain ⟨h1, h2⟩ := h k (by simp)
    rw [List.pairwise_cons] at hp
    have ih := asc_ints n l k (fun m hm => ⟨by have := hp.1 m hm; omega, (h m (by simp [hm])).2⟩) hp.2
    show (decide (b < (k : Int)) && decide ((k : Int) < n) && asc n k (ints l)) = true
    rw [ih, decide_eq_true h1, decide_eq_true (by omega)]
    rfl
theorem row_ok {ts : List Tk} {js : List Jb} {cores : Nat} {ch : List Nat} (h : ch.Nodup ∧ ch.length ≤ cores ∧ ∀ k ∈ ch, ∃ t j, ts[k]? = some t ∧ js[k]? = some j ∧ pend t j = true) : chkRow ts cores js (ints (rowOf ch)) = 0 := by
  obtain ⟨h1, h2, h3⟩ := h
  have hm : ∀ k ∈ rowOf ch, k ∈ ch := fun k hk => (rowOf_perm ch).mem_iff.1 hk
  have ha : asc ts.length (-1) (ints (rowOf ch)) = true := asc_ints _ _ _ (fun k hk => by
    obtain ⟨t, j, ht, _⟩ := h3 k (hm k hk)
    exact ⟨by omega, (List.getElem?_eq_some_iff.1 ht).1⟩) (rowOf_lt h1)
  have hp : (ints (rowOf ch)).all (pendAt ts js) = true := List.all_eq_true.2 fun x hx => by
    obtain ⟨k, hk, rfl⟩ := List.mem_map.1 hx
    obtain ⟨t, j, ht, hj, hpe⟩ := h3 k (hm k hk)
    unfold pendAt
    rw [Int.toNat_natCast, ht, hj]
    exact hpe
  have hl : ¬ (cores : Int) < ((ints (rowOf ch)).length : Int) := by
    have := (rowOf_perm ch).length_eq
    unfold ints; rw [List.length_map]; omega
  unfold chkRow
  rw [if_pos ha, if_neg hl, if_pos hp]
/-- Check on a simulation. -/
theorem chk_sim (ts : List Tk) (rs : List (List Int)) (cores : Nat) : ∀ (n slot : Nat) (js : List Jb),
    chkS ts rs cores ((simS ts rs cores n slot js).1.map ints) slot js = ((simS ts rs cores n slot js).2.2 ++ begMs ts ((slot + n : Nat) : Int) 0 (simS ts rs cores n slot js).2.1, 0)
  | 0, slot, js => by simp [simS, chkS]
  | n + 1, slot, js => by
    have ih := chk_sim ts rs cores n (slot + 1) (bump (begJs ts rs slot js) (chosen ts cores slot (begJs ts rs slot js)))
    have hr := row_ok (chosen_ok' ts cores slot (begJs ts rs slot js))
    have hb := bump_perm (rowOf_perm (chosen ts cores slot (begJs ts rs slot js))) (begJs ts rs slot js)
    show chkS ts rs cores (ints (rowOf (chosen ts cores slot (begJs ts rs slot js))) :: (simS ts rs cores n (slot + 1) (bump (begJs ts rs slot js) (chosen ts cores slot (begJs ts rs slot js)))).1.map ints) slot js = _
    rw [chkS]
    simp only [hr, if_true, ints_back, hb, ih]
    rw [show slot + 1 + n = slot + (n + 1) from by omega]
    simp [simS]
theorem chk_simulate (ts : List Tk) (rs : List (List Int)) (cores n : Nat) : chkS ts rs cores ((simulate ts rs cores n).1.map ints) 0 (List.replicate ts.length jb0) = ((simulate ts rs cores n).2, 0) := by
  have h := chk_sim ts rs cores n 0 (List.replicate ts.length jb0)
  rw [Nat.zero_add] at h
  exact h
theorem simS_len (ts : List Tk) (rs : List (List Int)) (cores : Nat) : ∀ (n slot : Nat) (js : List Jb), (simS ts rs cores n slot js).1.length = n ∧ (simS ts rs cores n slot js).2.2.length ≤ n * ts.length
  | 0, slot, js => by simp [simS]
  | n + 1, slot, js => by
    have ih := simS_len ts rs cores n (slot + 1) (bump (begJs ts rs slot js) (chosen ts cores slot (begJs ts rs slot js)))
    have hb : ∀ (ts : List Tk) (slot : Int) (i : Nat) (js : List Jb), (begMs ts slot i js).length ≤ ts.length := by
      intro ts
      induction ts with
      | nil => intro slot i js; simp [begMs]
      | cons t ts ih =>
        intro slot i js
        cases js with
        | nil => simp [begMs]
        | cons j js =>
          have := ih slot (i + 1) js
          simp only [begMs, List.length_append, List.length_cons]
          unfold begM
          split <;> simp <;> omega
    have h2 := hb ts slot 0 js
    simp only [simS, List.length_cons, List.length_append]
    refine ⟨by omega, ?_⟩
    rw [Nat.succ_mul]
    omega
theorem begMs_len' (ts : List Tk) : ∀ (slot : Int) (i : Nat) (js : List Jb), (begMs ts slot i js).length ≤ ts.length := by
  induction ts with
  | nil => intro slot i js; simp [begMs]
  | cons t ts ih =>
    intro slot i js
    cases js with
    | nil => simp [begMs]
    | cons j js =>
      have := ih slot (i + 1) js
      simp only [begMs, List.length_append, List.length_cons]
      unfold begM
      split <;> simp <;> omega
theorem simulate_len (ts : List Tk) (rs : List (List Int)) (cores n : Nat) : (simulate ts rs cores n).1.length = n ∧ (simulate ts rs cores n).2.length ≤ (n + 1) * ts.length := by
  have h := simS_len ts rs cores n 0 (List.replicate ts.length jb0)
  have h2 := begMs_len' ts n 0 (simS ts rs cores n 0 (List.replicate ts.length jb0)).2.1
  refine ⟨h.1, ?_⟩
  show (_ ++ _ : List Ms).length ≤ _
  rw [List.length_append, Nat.succ_mul]
  omega
/-- Every row of a simulation: strictly ascending places in the list. -/
theorem simS_rows (ts : List Tk) (rs : List (List Int)) (cores : Nat) : ∀ (n slot : Nat) (js : List Jb), ∀ r ∈ (simS ts rs cores n slot js).1, r.length ≤ cores ∧ r.Pairwise (· < ·) ∧ ∀ k ∈ r, k < ts.length
  | 0, slot, js => by simp [simS]
  | n + 1, slot, js => by
    have ih := simS_rows ts rs cores n (slot + 1) (bump (begJs ts rs slot js) (chosen ts cores slot (begJs ts rs slot js)))
    obtain ⟨h1, h2, h3⟩ := chosen_ok' ts cores slot (begJs ts rs slot js)
    intro r hr
    simp only [simS, List.mem_cons] at hr
    rcases hr with rfl | hr
    · refine ⟨by rw [(rowOf_perm _).length_eq]; exact h2, rowOf_lt h1, fun k hk => ?_⟩
      obtain ⟨t, j, ht, _⟩ := h3 k ((rowOf_perm _).mem_iff.1 hk)
      exact (List.getElem?_eq_some_iff.1 ht).1
    · exact ih r hr
end Go.Proofs.YtpmbhdheeaejgaaGreatDoor.SL
