/- The reference slot by slot, in plain terms: what a job has received, the pending job, the misses, the check. -/
import Derived.Test.YtpmbhdheeaejgaaGreatDoorPlainSl6
import Derived.Test.YtpmbhdheeaejgaaGreatDoorPlainSl4
namespace Go.Proofs.YtpmbhdheeaejgaaGreatDoor.SL
/-- The slots from one on, before another one, in which a task runs. -/
def cnt (S : List (List Int)) (k : Int) (a m : Nat) : Nat := ((S.take m).drop a).countP fun r => inn r k
theorem cnt_self (S : List (List Int)) (k : Int) (a m : Nat) (h : m ≤ a) : cnt S k a m = 0 := by
  unfold cnt
  rw [List.drop_eq_nil_of_le (by rw [List.length_take]; omega)]
  rfl
theorem cnt_succ {S : List (List Int)} {k : Int} {a m : Nat} {r : List Int} (hr : S[m]? = some r) (h : a ≤ m) : cnt S k a (m + 1) = cnt S k a m + (if inn r k then 1 else 0) := by
  unfold cnt
  have hm := (List.getElem?_eq_some_iff.1 hr).1
  rw [take_snoc hr, List.drop_append_of_le_length (by rw [List.length_take]; omega), List.countP_append]
  simp [List.countP_cons]
theorem cnt_over {S : List (List Int)} {k : Int} {a m m' : Nat} (h : S.length ≤ m) (h' : m ≤ m') : cnt S k a m' = cnt S k a m := by
  unfold cnt
  rw [List.take_of_length_le (by omega), List.take_of_length_le h]
theorem cnt_le (S : List (List Int)) (k : Int) (a m : Nat) : cnt S k a m ≤ m := by
  unfold cnt
  refine Nat.le_trans List.countP_le_length ?_
  rw [List.length_drop, List.length_take]
  omega
theorem cnt_take (S : List (List Int)) (k : Int) (a m : Nat) : cnt (S.take m) k a m = cnt S k a m := by
  unfold cnt
  rw [List.take_take, Nat.min_self]
/-- The reference's pending job. -/
def pendP (per : Int) (slot : Nat) (x : Int) : Bool := decide (x ≤ slot) && decide ((slot : Int) < x + per)
def pendR (t : Tk) (r : List Int) (S : List (List Int)) (k slot : Nat) : Option (Int × Nat) := (r.find? (pendP t.per slot)).map fun x => (x, cnt S k x.toNat slot)
/-- A job before the start of a slot, and behind it. -/
structure Pre (t : Tk) (r : List Int) (S : List (List Int)) (k slot : Nat) (j : Jb) : Prop where
  nx : ∀ (m : Nat) (x : Int), r[m]? = some x → (m < j.next ↔ x < slot)
  lv : j.live = true → ∃ m, j.next = m + 1 ∧ r[m]? = some j.rel ∧ (slot : Int) ≤ j.rel + t.per ∧ j.done = (cnt S k j.rel.toNat slot : Nat)
  dd : j.live = false → ∀ x ∈ r, x < slot → x + t.per < slot
structure Post (t : Tk) (r : List Int) (S : List (List Int)) (k slot : Nat) (j : Jb) : Prop where
  nx : ∀ (m : Nat) (x : Int), r[m]? = some x → (m < j.next ↔ x ≤ slot)
  lv : j.live = true → ∃ m, j.next = m + 1 ∧ r[m]? = some j.rel ∧ (slot : Int) < j.rel + t.per ∧ j.done = (cnt S k j.rel.toNat slot : Nat)
  dd : j.live = false → ∀ x ∈ r, x ≤ slot → x + t.per ≤ slot
theorem mem_at {r : List Int} {x : Int} (h : x ∈ r) : ∃ m : Nat, r[m]? = some x := by
  obtain ⟨m, hm, rfl⟩ := List.mem_iff_getElem.1 h
  exact ⟨m, List.getElem?_eq_getElem hm⟩
theorem okRel_index {t : Tk} {r : List Int} (ht : 1 ≤ t.per) (h : okRel t r = true) {i j : Nat} {x y : Int} (hx : r[i]? = some x) (hy : r[j]? = some y) :
    (i < j ∧ x + t.per ≤ y) ∨ (i = j ∧ x = y) ∨ (j < i ∧ y + t.per ≤ x) := by
  rcases Nat.lt_trichotomy i j with h1 | h1 | h1
  · exact .inl ⟨h1, okRel_mono ht h h1 hx hy⟩
  · subst h1
    rw [hx] at hy
    injection hy with hy
    exact .inr (.inl ⟨rfl, hy⟩)
  · exact .inr (.inr ⟨h1, okRel_mono ht h h1 hy hx⟩)
theorem begJ_post {t : Tk} {r : List Int} {S : List (List Int)} {k slot : Nat} {j : Jb} (ht : 1 ≤ t.per) (h : okRel t r = true) (hp : Pre t r S k slot j) : Post t r S k slot (begJ t r slot j) := by
  unfold begJ
  by_cases hc : r[j.next]? = some (slot : Int)
  · rw [if_pos hc]
    refine ⟨fun m x hx => ?_, fun _ => ⟨j.next, rfl, hc, by show (slot : Int) < (slot : Int) + t.per; omega, ?_⟩, fun h => by cases h⟩
    · show m < j.next + 1 ↔ _
      rcases okRel_index ht h hx hc with h1 | h1 | h1 <;> omega
    · show (0 : Int) = _
      rw [cnt_self _ _ _ _ (by simp)]
      rfl
  · rw [if_neg hc]
    have hne : ∀ (m : Nat) (x : Int), r[m]? = some x → x ≠ slot := fun m x hx he => by
      subst he
      have h1 := hp.nx m _ hx
      rcases Nat.lt_or_ge m j.next with h2 | h2
      · have := h1.1 h2; omega
      · rcases Nat.eq_or_lt_of_le h2 with h3 | h3
        · subst h3; exact hc hx
        · obtain ⟨y, hy⟩ : ∃ y, r[j.next]? = some y := ⟨_, List.getElem?_eq_getElem (by have := (List.getElem?_eq_some_iff.1 hx).1; omega)⟩
          have h4 := okRel_mono ht h h3 hy hx
          have h5 := (hp.nx j.next y hy).2 (by omega)
          omega
    refine ⟨fun m x hx => ?_, fun hl => ?_, fun hl x hx hs => ?_⟩
    · have h1 := hp.nx m x hx
      have h2 := hne m x hx
      show m < j.next ↔ _
      omega
    · simp only [Bool.and_eq_true, Bool.not_eq_true'] at hl
      obtain ⟨m, h1, h2, h3, h4⟩ := hp.lv hl.1
      refine ⟨m, h1, h2, ?_, h4⟩
      have h5 := hl.2
      unfold dead at h5
      rw [hl.1, Bool.true_and, decide_eq_false_iff_not] at h5
      show (slot : Int) < j.rel + t.per
      omega
    · obtain ⟨m, hm⟩ := mem_at hx
      have hxs := hne m x hm
      have h1 := hp.nx m x hm
      simp only at hl
      cases hlv : j.live with
      | false =>
        have := hp.dd hlv x hx (by omega)
        omega
      | true =>
        rw [hlv, Bool.true_and, Bool.not_eq_false'] at hl
        unfold dead at hl
        rw [hlv, Bool.true_and, decide_eq_true_eq] at hl
        obtain ⟨q, h2, h3, h4, h5⟩ := hp.lv hlv
        rcases okRel_index ht h hm h3 with h6 | h6 | h6 <;> omega
theorem fm_one {β : Type} (f : Int → Option β) (y : Int) (hf : ∀ x, x ≠ y → f x = none) : ∀ (r : List Int), r.Pairwise (· < ·) → r.filterMap f = if y ∈ r then (f y).toList else []
  | [], _ => by simp
  | x :: r, hp => by
    rw [List.pairwise_cons] at hp
    have ih := fm_one f y hf r hp.2
    rw [List.filterMap_cons, ih]
    by_cases hx : x = y
    · subst hx
      have hn : x ∉ r := fun hm => by have := hp.1 x hm; omega
      rw [if_neg hn, if_pos (by simp)]
      cases f x <;> rfl
    · rw [hf x hx]
      simp only
      by_cases hm : y ∈ r
      · rw [if_pos hm, if_pos (by simp [hm])]
      · rw [if_neg hm, if_neg (by simp [hm]; exact fun h => hx h.symm)]
/-- The reference's misses at a time. -/
def missF (t : Tk) (S : List (List Int)) (k slot : Nat) (x : Int) : Option Ms := if x + t.per = slot ∧ ((cnt S k x.toNat slot : Nat) : Int) < t.cost then some ⟨k, x, (cnt S k x.toNat slot : Nat)⟩ else none
def missT (t : Tk) (r : List Int) (S : List (List Int)) (k slot : Nat) : List Ms := r.filterMap (missF t S k slot)
theorem begM_eq {t : Tk} {r : List Int} {S : List (List Int)} {k slot : Nat} {j : Jb} (ht : 1 ≤ t.per) (h : okRel t r = true) (hp : Pre t r S k slot j) : begM t slot k j = missT t r S k slot := by
  unfold missT
  rw [fm_one (missF t S k slot) ((slot : Int) - t.per) (fun x hx => by unfold missF; rw [if_neg (fun h => hx (by omega))]) r (okRel_pairwise ht h)]
  unfold begM missed dead
  cases hlv : j.live with
  | false =>
    have hd := hp.dd hlv
    rw [Bool.false_and, Bool.false_and, if_neg (by simp)]
    split
    · rename_i hm
      have := hd _ hm (by omega)
      omega
    · rfl
  | true =>
    obtain ⟨m, h1, h2, h3, h4⟩ := hp.lv hlv
    rw [Bool.true_and]
    by_cases he : j.rel + t.per = slot
    · have e1 : (slot : Int) - t.per = j.rel := by omega
      rw [decide_eq_true (show t.per ≤ (slot : Int) - j.rel by omega), Bool.true_and, e1, if_pos (List.mem_of_getElem? h2)]
      unfold missF
      by_cases hc : j.done < t.cost
      · rw [decide_eq_true hc, if_pos rfl, if_pos ⟨he, by rw [← h4]; exact hc⟩, h4]
        rfl
      · rw [decide_eq_false hc, if_neg (by simp), if_neg (fun h => hc (by rw [h4]; exact h.2))]
        rfl
    · rw [decide_eq_false (show ¬ t.per ≤ (slot : Int) - j.rel by omega), Bool.false_and, if_neg (by simp)]
      split
      · rename_i hm
        obtain ⟨q, hq⟩ := mem_at hm
        have h5 := (hp.nx q _ hq).2 (by omega)
        have h7 := (hp.nx m _ h2).1 (by omega)
        rcases okRel_index ht h hq h2 with h6 | h6 | h6 <;> omega
      · rfl
theorem find_only {p : Int → Bool} {y : Int} {r : List Int} (hy : y ∈ r) (hpy : p y = true) (hu : ∀ x ∈ r, p x = true → x = y) : r.find? p = some y := by
  cases h : r.find? p with
  | none =>
    rw [List.find?_eq_none] at h
    exact absurd hpy (h y hy)
  | some z => rw [hu z (List.mem_of_find?_eq_some h) (List.find?_some h)]
theorem post_live {t : Tk} {r : List Int} {S : List (List Int)} {k slot : Nat} {j : Jb} (ht : 1 ≤ t.per) (h : okRel t r = true) (hp : Post t r S k slot j) (hl : j.live = true) :
    pendR t r S k slot = some (j.rel, cnt S k j.rel.toNat slot) ∧ j.done = (cnt S k j.rel.toNat slot : Nat) := by
  obtain ⟨m, h1, h2, h3, h4⟩ := hp.lv hl
  refine ⟨?_, h4⟩
  unfold pendR
  rw [find_only (List.mem_of_getElem? h2) (p := pendP t.per slot) (by
    have := (hp.nx m _ h2).1 (by omega)
    unfold pendP
    rw [decide_eq_true this, decide_eq_true h3]; rfl) (fun x hx hpx => by
    unfold pendP at hpx
    simp only [Bool.and_eq_true, decide_eq_true_eq] at hpx
    obtain ⟨q, hq⟩ := mem_at hx
    have h5 := (hp.nx q x hq).2 hpx.1
    have h7 := (hp.nx m _ h2).1 (by omega)
    rcases okRel_index ht h hq h2 with h6 | h6 | h6 <;> omega)]
  rfl
theorem post_dead {t : Tk} {r : List Int} {S : List (List Int)} {k slot : Nat} {j : Jb} (hp : Post t r S k slot j) (hl : j.live = false) : pendR t r S k slot = none := by
  unfold pendR
  rw [Option.map_eq_none_iff, List.find?_eq_none]
  intro x hx hpx
  unfold pendP at hpx
  simp only [Bool.and_eq_true, decide_eq_true_eq] at hpx
  have := hp.dd hl x hx hpx.1
  omega
/-- Whether the reference's pending job wants more. -/
def pendB (t : Tk) : Option (Int × Nat) → Bool
  | none => false
  | some (_, n) => decide ((n : Int) < t.cost)
theorem post_pend {t : Tk} {r : List Int} {S : List (List Int)} {k slot : Nat} {j : Jb} (ht : 1 ≤ t.per) (h : okRel t r = true) (hp : Post t r S k slot j) : pend t j = pendB t (pendR t r S k slot) := by
  unfold pend
  cases hl : j.live with
  | false => rw [post_dead hp hl]; rfl
  | true =>
    obtain ⟨h1, h2⟩ := post_live ht h hp hl
    rw [h1, h2]
    rfl
/-- The next slot. -/
theorem post_pre {t : Tk} {r : List Int} {S : List (List Int)} {k slot : Nat} {j : Jb} {R : List Int} (h0 : okRel t r = true) (hp : Post t r S k slot j) (hR : S[slot]? = some R) {d : Int} (hd : d = (if inn R k then 1 else 0)) :
    Pre t r S k (slot + 1) { j with done := j.done + d } := by
  refine ⟨fun m x hx => ?_, fun hl => ?_, fun hl x hx hs => ?_⟩
  · have := hp.nx m x hx
    show m < j.next ↔ _
    omega
  · obtain ⟨m, h1, h2, h3, h4⟩ := hp.lv hl
    refine ⟨m, h1, h2, by show ((slot + 1 : Nat) : Int) ≤ j.rel + t.per; omega, ?_⟩
    have h5 := (hp.nx m _ h2).1 (by omega)
    have h6 := okRel_at h0 h2
    show j.done + d = (cnt S k j.rel.toNat (slot + 1) : Nat)
    rw [cnt_succ hR (by omega), h4, hd]
    split <;> simp
  · have := hp.dd hl x hx (by omega)
    omega
theorem pre0 {t : Tk} {r : List Int} {S : List (List Int)} {k : Nat} (h0 : okRel t r = true) : Pre t r S k 0 jb0 :=
  ⟨fun m x hx => by have := okRel_at h0 hx; show m < 0 ↔ _; omega, fun h => (by cases h), fun _ x hx hs => by
    obtain ⟨m, hm⟩ := mem_at hx
    have := okRel_at h0 hm
    omega⟩
end Go.Proofs.YtpmbhdheeaejgaaGreatDoor.SL
