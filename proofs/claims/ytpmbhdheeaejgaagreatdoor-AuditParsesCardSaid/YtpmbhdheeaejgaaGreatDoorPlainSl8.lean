/- Check and Simulate answer as the reference does. -/
import Derived.Test.YtpmbhdheeaejgaaGreatDoorPlainSl7
namespace Go.Proofs.YtpmbhdheeaejgaaGreatDoor.SL
/-- All jobs, the tasks' numbers beginning at i. -/
def AllPre (ts : List Tk) (rs : List (List Int)) (S : List (List Int)) (i slot : Nat) (js : List Jb) : Prop :=
  js.length = ts.length ∧ ∀ (k : Nat) (t : Tk) (r : List Int) (j : Jb), ts[k]? = some t → rs[k]? = some r → js[k]? = some j → Pre t r S (i + k) slot j
def AllPost (ts : List Tk) (rs : List (List Int)) (S : List (List Int)) (i slot : Nat) (js : List Jb) : Prop :=
  js.length = ts.length ∧ ∀ (k : Nat) (t : Tk) (r : List Int) (j : Jb), ts[k]? = some t → rs[k]? = some r → js[k]? = some j → Post t r S (i + k) slot j
theorem okRels_all : ∀ {ts : List Tk} {rs : List (List Int)} {k : Nat} {t : Tk} {r : List Int}, okRels ts rs = true → ts[k]? = some t → rs[k]? = some r → okRel t r = true
  | [], _, _, _, _, _, h, _ => by simp at h
  | _ :: _, [], _, _, _, _, _, h => by simp at h
  | t0 :: ts, r0 :: rs, 0, t, r, h, h1, h2 => by
    simp at h1 h2; subst h1 h2
    simp [okRels] at h; exact h.1
  | t0 :: ts, r0 :: rs, k + 1, t, r, h, h1, h2 => by
    simp [okRels] at h
    exact okRels_all h.2 (by simpa using h1) (by simpa using h2)
theorem begJs_at : ∀ {ts : List Tk} {rs : List (List Int)} {slot : Int} {js : List Jb} {k : Nat} {j' : Jb}, (begJs ts rs slot js)[k]? = some j' → ∃ t r j, ts[k]? = some t ∧ rs[k]? = some r ∧ js[k]? = some j ∧ j' = begJ t r slot j
  | [], _, _, _, _, _, h => by simp [begJs] at h
  | _ :: _, [], _, _, _, _, h => by simp [begJs] at h
  | _ :: _, _ :: _, _, [], _, _, h => by simp [begJs] at h
  | t :: ts, r :: rs, slot, j :: js, 0, j', h => by
    simp [begJs] at h
    exact ⟨t, r, j, rfl, rfl, rfl, h.symm⟩
  | t :: ts, r :: rs, slot, j :: js, k + 1, j', h => by
    simp only [begJs, List.getElem?_cons_succ] at h
    obtain ⟨t', r', j'', h1, h2, h3, h4⟩ := begJs_at h
    exact ⟨t', r', j'', by simpa using h1, by simpa using h2, by simpa using h3, h4⟩
theorem allPre_post {ts : List Tk} {rs : List (List Int)} {S : List (List Int)} {i slot : Nat} {js : List Jb} (ht : ∀ t ∈ ts, okTk t = true) (hl : rs.length = ts.length) (ho : okRels ts rs = true) (h : AllPre ts rs S i slot js) : AllPost ts rs S i slot (begJs ts rs slot js) := by
  refine ⟨by rw [begJs_len ts rs slot js h.1.symm (by have := h.1; omega), h.1], fun k t r j' h1 h2 h3 => ?_⟩
  obtain ⟨t', r', j, e1, e2, e3, rfl⟩ := begJs_at h3
  rw [h1] at e1; injection e1 with e1; subst e1
  rw [h2] at e2; injection e2 with e2; subst e2
  have := okTk_iff.1 (ht t (List.mem_of_getElem? h1))
  exact begJ_post (by omega) (okRels_all ho h1 h2) (h.2 k t r j h1 h2 e3)
/-- The reference's misses of a time. -/
def missAt : List Tk → List (List Int) → List (List Int) → Nat → Nat → List Ms
  | t :: ts, r :: rs, S, i, slot => missT t r S i slot ++ missAt ts rs S (i + 1) slot
  | _, _, _, _, _ => []
theorem begMs_eq : ∀ {ts : List Tk} {rs : List (List Int)} {S : List (List Int)} {i slot : Nat} {js : List Jb}, (∀ t ∈ ts, okTk t = true) → rs.length = ts.length → okRels ts rs = true → AllPre ts rs S i slot js → begMs ts slot i js = missAt ts rs S i slot
  | [], _, _, _, _, _, _, _, _, _ => by simp [begMs, missAt]
  | _ :: _, [], _, _, _, _, _, h, _, _ => by simp at h
  | _ :: _, _ :: _, _, _, _, [], _, _, _, h => by have := h.1; simp at this
  | t :: ts, r :: rs, S, i, slot, j :: js, ht, hl, ho, h => by
    simp only [okRels, Bool.and_eq_true] at ho
    have h1 := okTk_iff.1 (ht t (by simp))
    have hj : Pre t r S i slot j := h.2 0 t r j rfl rfl rfl
    have h2 : AllPre ts rs S (i + 1) slot js := ⟨by have := h.1; simpa using this, fun k t' r' j' a b c => by
      have := h.2 (k + 1) t' r' j' (by simpa using a) (by simpa using b) (by simpa using c)
      rw [show i + 1 + k = i + (k + 1) from by omega]
      exact this⟩
    simp only [begMs, missAt]
    rw [begMs_eq (fun t h => ht t (by simp [h])) (by simpa using hl) ho.2 h2, begM_eq (by omega) ho.1 hj]
/-- Whether the reference finds a pending job of a task. -/
def pendRAt (ts : List Tk) (rs : List (List Int)) (S : List (List Int)) (slot : Nat) (i : Int) : Bool := match ts[i.toNat]?, rs[i.toNat]? with
  | some t, some r => pendB t (pendR t r S i.toNat slot)
  | _, _ => false
def chkRowR (ts : List Tk) (rs : List (List Int)) (S : List (List Int)) (cores : Int) (slot : Nat) (r : List Int) : Nat :=
  if asc ts.length (-1) r then (if cores < r.length then 20 else if r.all (pendRAt ts rs S slot) then 0 else 14) else 3
def chkR (ts : List Tk) (rs : List (List Int)) (S : List (List Int)) (cores : Int) : List (List Int) → Nat → Nat
  | [], _ => 0
  | r :: T, slot => if chkRowR ts rs S cores slot r = 0 then chkR ts rs S cores T (slot + 1) else chkRowR ts rs S cores slot r
def missFrom (ts : List Tk) (rs : List (List Int)) (S : List (List Int)) : List (List Int) → Nat → List Ms
  | [], slot => missAt ts rs S 0 slot
  | _ :: T, slot => missAt ts rs S 0 slot ++ missFrom ts rs S T (slot + 1)
def missL (ts : List Tk) (rs : List (List Int)) (S : List (List Int)) (n : Nat) : List Ms := (List.range n).flatMap fun t => missAt ts rs S 0 t
theorem missL_succ (ts : List Tk) (rs : List (List Int)) (S : List (List Int)) (n : Nat) : missL ts rs S (n + 1) = missL ts rs S n ++ missAt ts rs S 0 n := by
  unfold missL
  rw [List.range_succ, List.flatMap_append]
  simp
theorem missFrom_eq (ts : List Tk) (rs : List (List Int)) (S : List (List Int)) : ∀ (T : List (List Int)) (slot : Nat), missL ts rs S slot ++ missFrom ts rs S T slot = missL ts rs S (slot + T.length + 1)
  | [], slot => by rw [missFrom, List.length_nil, Nat.add_zero, missL_succ]
  | r :: T, slot => by
    rw [missFrom, ← List.append_assoc, ← missL_succ, missFrom_eq ts rs S T (slot + 1), List.length_cons]
    congr 1
    omega
theorem asc_mem {n : Nat} : ∀ {r : List Int} {b : Int}, asc n b r = true → ∀ x ∈ r, b < x ∧ x < n
  | [], _, _, _, hx => by simp at hx
  | i :: l, b, h, x, hx => by
    simp [asc] at h
    rcases List.mem_cons.1 hx with rfl | hx
    · exact h.1
    · have := asc_mem h.2 x hx
      omega
theorem asc_nodup {n : Nat} : ∀ {r : List Int} {b : Int}, asc n b r = true → r.Nodup
  | [], _, _ => by simp
  | i :: l, b, h => by
    simp [asc] at h
    rw [List.nodup_cons]
    exact ⟨fun hm => by have := asc_mem h.2 i hm; omega, asc_nodup h.2⟩
theorem pendAt_eq {ts : List Tk} {rs : List (List Int)} {S : List (List Int)} {slot : Nat} {js : List Jb} (ht : ∀ t ∈ ts, okTk t = true) (hl : rs.length = ts.length) (ho : okRels ts rs = true) (h : AllPost ts rs S 0 slot js) (i : Int) : pendAt ts js i = pendRAt ts rs S slot i := by
  unfold pendAt pendRAt
  rcases Nat.lt_or_ge i.toNat ts.length with hi | hi
  · obtain ⟨t, h1⟩ : ∃ t, ts[i.toNat]? = some t := ⟨_, List.getElem?_eq_getElem hi⟩
    obtain ⟨r, h2⟩ : ∃ r, rs[i.toNat]? = some r := ⟨_, List.getElem?_eq_getElem (by omega)⟩
    obtain ⟨j, h3⟩ : ∃ j, js[i.toNat]? = some j := ⟨_, List.getElem?_eq_getElem (by rw [h.1]; exact hi)⟩
    have h4 := h.2 _ t r j h1 h2 h3
    rw [Nat.zero_add] at h4
    rw [h1, h2, h3]
    have := okTk_iff.1 (ht t (List.mem_of_getElem? h1))
    exact post_pend (by omega) (okRels_all ho h1 h2) h4
  · rw [List.getElem?_eq_none hi]
theorem chkRow_eq {ts : List Tk} {rs : List (List Int)} {S : List (List Int)} {cores : Int} {slot : Nat} {js : List Jb} (ht : ∀ t ∈ ts, okTk t = true) (hl : rs.length = ts.length) (ho : okRels ts rs = true) (h : AllPost ts rs S 0 slot js) (r : List Int) : chkRow ts cores js r = chkRowR ts rs S cores slot r := by
  unfold chkRow chkRowR
  rw [show r.all (pendAt ts js) = r.all (pendRAt ts rs S slot) from by
    congr 1
    funext i
    exact pendAt_eq ht hl ho h i]
theorem bump_at : ∀ (l : List Nat) (js : List Jb) (k : Nat), (bump js l)[k]? = (js[k]?).map fun j => { j with done := j.done + (l.count k : Nat) }
  | [], js, k => by
    show js[k]? = _
    cases js[k]? with
    | none => rfl
    | some j => simp
  | i :: l, js, k => by
    show (bump (bump1 js i) l)[k]? = _
    rw [bump_at l]
    unfold bump1
    rw [List.getElem?_modify]
    rw [List.count_cons]
    cases h : js[k]? with
    | none => simp
    | some j =>
      by_cases hik : i = k
      · subst hik
        simp
        omega
      · simp [hik]
theorem count_toNat {n : Nat} {r : List Int} {b : Int} (hb : -1 ≤ b) (h : asc n b r = true) (k : Nat) : (r.map Int.toNat).count k = if inn r k then 1 else 0 := by
  have hn : (r.map Int.toNat).Nodup := by
    have h1 := asc_nodup h
    rw [List.nodup_iff_pairwise_ne] at h1 ⊢
    rw [List.pairwise_map]
    refine List.Pairwise.imp_of_mem (fun {a c} ha hc hne he => ?_) h1
    have h2 := asc_mem h a ha
    have h3 := asc_mem h c hc
    exact hne (by omega)
  by_cases hm : (k : Int) ∈ r
  · have : inn r k = true := by unfold inn; rw [List.contains_iff_mem]; exact hm
    rw [this, if_pos rfl]
    have h2 : k ∈ r.map Int.toNat := List.mem_map.2 ⟨k, hm, by simp⟩
    rw [hn.count, if_pos h2]
  · have : inn r k = false := by unfold inn; rw [← Bool.not_eq_true, List.contains_iff_mem]; exact hm
    rw [this, if_neg (by simp)]
    rw [List.count_eq_zero]
    intro h2
    obtain ⟨x, hx, e⟩ := List.mem_map.1 h2
    have h3 := asc_mem h x hx
    exact hm (by rw [← e]; rw [show ((x.toNat : Nat) : Int) = x from by omega]; exact hx)
theorem chkRowR_asc {ts : List Tk} {rs : List (List Int)} {S : List (List Int)} {cores : Int} {slot : Nat} {r : List Int} (h : chkRowR ts rs S cores slot r = 0) : asc ts.length (-1) r = true := by
  unfold chkRowR at h
  split at h
  · assumption
  · cases h
theorem allPost_pre {ts : List Tk} {rs : List (List Int)} {S : List (List Int)} {slot : Nat} {js : List Jb} {R : List Int} (ho : okRels ts rs = true) (h : AllPost ts rs S 0 slot js) (hR : S[slot]? = some R) (ha : asc ts.length (-1) R = true) :
    AllPre ts rs S 0 (slot + 1) (bump js (R.map Int.toNat)) := by
  refine ⟨by rw [bump_len', h.1], fun k t r j' h1 h2 h3 => ?_⟩
  rw [bump_at] at h3
  obtain ⟨j, h4, rfl⟩ := Option.map_eq_some_iff.1 h3
  have h5 := h.2 k t r j h1 h2 h4
  rw [Nat.zero_add] at h5 ⊢
  exact post_pre (okRels_all ho h1 h2) h5 hR (by rw [count_toNat (by omega) ha]; split <;> simp)
/-- Check is the reference's. -/
theorem chkS_eq {ts : List Tk} {rs : List (List Int)} {S : List (List Int)} {cores : Int} (ht : ∀ t ∈ ts, okTk t = true) (hl : rs.length = ts.length) (ho : okRels ts rs = true) : ∀ (T : List (List Int)) (slot : Nat) (js : List Jb), S.drop slot = T → AllPre ts rs S 0 slot js →
    chkS ts rs cores T slot js = (if chkR ts rs S cores T slot = 0 then missFrom ts rs S T slot else [], chkR ts rs S cores T slot)
  | [], slot, js, _, h => by
    simp only [chkS, chkR, missFrom, if_true]
    rw [begMs_eq ht hl ho h]
  | r :: T, slot, js, hS, h => by
    have hr : S[slot]? = some r := by
      have := congrArg (·[0]?) hS
      simpa using this
    have hp := allPre_post ht hl ho h
    have he := chkRow_eq (cores := cores) ht hl ho hp r
    rw [chkS, chkR, missFrom]
    simp only [he]
    by_cases h0 : chkRowR ts rs S cores slot r = 0
    · have h1 := allPost_pre ho hp hr (chkRowR_asc h0)
      have ih := chkS_eq (cores := cores) ht hl ho T (slot + 1) _ (by rw [← List.tail_drop, hS]; rfl) h1
      rw [ih]
      simp only [h0, if_true]
      rw [begMs_eq ht hl ho h]
      by_cases h2 : chkR ts rs S cores T (slot + 1) = 0
      · simp only [h2, if_true]
      · simp only [h2, if_false]
    · simp only [h0, if_false]
theorem chkS_all {ts : List Tk} {rs : List (List Int)} {S : List (List Int)} {cores : Int} (hv : valid ts cores rs = true) :
    chkS ts rs cores S 0 (List.replicate ts.length jb0) = (if chkR ts rs S cores S 0 = 0 then missL ts rs S (S.length + 1) else [], chkR ts rs S cores S 0) := by
  unfold valid at hv
  simp only [Bool.and_eq_true, decide_eq_true_eq] at hv
  obtain ⟨⟨⟨⟨h1, h2⟩, h3⟩, h4⟩, h5⟩ := hv
  rw [chkS_eq (S := S) (okTs_all h1) h4 h5 S 0 _ rfl ⟨by simp, fun k t r j a b c => by
    have hj : j = jb0 := by
      have hm := List.mem_of_getElem? c
      exact List.eq_of_mem_replicate hm
    rw [hj]
    exact pre0 (okRels_all h5 a b)⟩]
  have := missFrom_eq ts rs S S 0
  rw [show missL ts rs S 0 = [] from rfl, List.nil_append, Nat.zero_add] at this
  rw [this]
end Go.Proofs.YtpmbhdheeaejgaaGreatDoor.SL
