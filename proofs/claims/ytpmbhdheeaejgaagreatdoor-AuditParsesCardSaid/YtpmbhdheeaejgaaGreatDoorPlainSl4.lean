/- A simulation does not know the future. -/
import Derived.Test.YtpmbhdheeaejgaaGreatDoorPlainSl3
namespace Go.Proofs.YtpmbhdheeaejgaaGreatDoor.SL
def early (k : Int) (r : List Int) : List Int := r.filter fun x => decide (x < k)
theorem okRel_at {t : Tk} {r : List Int} (h : okRel t r = true) {i : Nat} {x : Int} (hx : r[i]? = some x) : 0 ≤ x := by
  unfold okRel at h
  simp only [Bool.and_eq_true, List.all_eq_true, List.mem_range, decide_eq_true_eq] at h
  have h1 := h.2 i (List.getElem?_eq_some_iff.1 hx).1
  unfold okAt at h1
  simp only [Bool.and_eq_true, decide_eq_true_eq] at h1
  have h2 := h1.1
  rw [List.getD_eq_getElem?_getD, hx] at h2
  exact h2
theorem okRel_step {t : Tk} {r : List Int} (h : okRel t r = true) {i : Nat} {x y : Int} (hx : r[i]? = some x) (hy : r[i + 1]? = some y) : x + t.per ≤ y := by
  unfold okRel at h
  simp only [Bool.and_eq_true, List.all_eq_true, List.mem_range, decide_eq_true_eq] at h
  have h1 := h.2 (i + 1) (List.getElem?_eq_some_iff.1 hy).1
  unfold okAt at h1
  simp only [Bool.and_eq_true, decide_eq_true_eq, Bool.or_eq_true] at h1
  have h2 := h1.2
  simp only [Nat.add_eq_zero_iff, Nat.one_ne_zero, and_false, false_or, Nat.add_sub_cancel] at h2
  rw [List.getD_eq_getElem?_getD, List.getD_eq_getElem?_getD, hx, hy] at h2
  simp only [Option.getD_some] at h2
  omega
theorem okRel_lt {t : Tk} {r : List Int} (ht : 1 ≤ t.per) (h : okRel t r = true) : ∀ (d i : Nat) (x y : Int), r[i]? = some x → r[i + 1 + d]? = some y → x + t.per ≤ y
  | 0, i, x, y, hx, hy => okRel_step h hx hy
  | d + 1, i, x, y, hx, hy => by
    obtain ⟨z, hz⟩ : ∃ z, r[i + 1]? = some z := ⟨_, List.getElem?_eq_getElem (by have := (List.getElem?_eq_some_iff.1 hy).1; omega)⟩
    have h1 := okRel_step h hx hz
    have h2 := okRel_lt ht h d (i + 1) z y hz (by rw [show i + 1 + 1 + d = i + 1 + (d + 1) from by omega]; exact hy)
    omega
theorem okRel_mono {t : Tk} {r : List Int} (ht : 1 ≤ t.per) (h : okRel t r = true) {i j : Nat} {x y : Int} (hij : i < j) (hx : r[i]? = some x) (hy : r[j]? = some y) : x + t.per ≤ y :=
  okRel_lt ht h (j - i - 1) i x y hx (by rw [show i + 1 + (j - i - 1) = j from by omega]; exact hy)
theorem okRel_pairwise {t : Tk} {r : List Int} (ht : 1 ≤ t.per) (h : okRel t r = true) : r.Pairwise (· < ·) := by
  rw [List.pairwise_iff_getElem]
  intro i j hi hj hij
  have := okRel_mono ht h hij (List.getElem?_eq_getElem hi) (List.getElem?_eq_getElem hj)
  omega
theorem early_take (k : Int) : ∀ (r : List Int), r.Pairwise (· < ·) → early k r = r.take (early k r).length ∧ ∀ (i : Nat) (x : Int), r[i]? = some x → x < k → i < (early k r).length
  | [], _ => ⟨rfl, fun i x h => by simp at h⟩
  | y :: r, hp => by
    rw [List.pairwise_cons] at hp
    obtain ⟨ih1, ih2⟩ := early_take k r hp.2
    by_cases hy : y < k
    · have he : early k (y :: r) = y :: early k r := by unfold early; rw [List.filter_cons, decide_eq_true hy]; rfl
      rw [he]
      refine ⟨by rw [List.length_cons, List.take_succ_cons, ← ih1], fun i x hx hk => ?_⟩
      cases i with
      | zero => simp
      | succ i => have := ih2 i x (by simpa using hx) hk; simp; omega
    · have he : early k (y :: r) = [] := by
        unfold early
        rw [List.filter_eq_nil_iff]
        intro x hx
        rcases List.mem_cons.1 hx with rfl | hx
        · simpa using hy
        · have := hp.1 x hx; simp; omega
      rw [he]
      refine ⟨by simp, fun i x hx hk => ?_⟩
      exfalso
      cases i with
      | zero => simp at hx; omega
      | succ i => have := hp.1 x (List.mem_of_getElem? (by simpa using hx)); omega
theorem early_get {k : Int} {r : List Int} (hp : r.Pairwise (· < ·)) {slot : Int} (hs : slot < k) (i : Nat) : (early k r)[i]? = some slot ↔ r[i]? = some slot := by
  obtain ⟨h1, h2⟩ := early_take k r hp
  constructor
  · intro h
    rw [h1, List.getElem?_take] at h
    split at h
    · exact h
    · cases h
  · intro h
    rw [h1, List.getElem?_take, if_pos (h2 i slot h hs)]
    exact h
theorem early_okRel {k : Int} {t : Tk} {r : List Int} (ht : 1 ≤ t.per) (h : okRel t r = true) : okRel t (early k r) = true := by
  obtain ⟨h1, _⟩ := early_take k r (okRel_pairwise ht h)
  have hl : (early k r).length ≤ r.length := by unfold early; exact List.length_filter_le _ _
  have hg : ∀ i, i < (early k r).length → (early k r).getD i 0 = r.getD i 0 := fun i hi => by
    rw [List.getD_eq_getElem?_getD, List.getD_eq_getElem?_getD]
    conv => lhs; rw [h1]
    rw [List.getElem?_take, if_pos hi]
  unfold okRel at h ⊢
  simp only [Bool.and_eq_true, List.all_eq_true, List.mem_range, decide_eq_true_eq] at h ⊢
  refine ⟨by omega, fun i hi => ?_⟩
  have h3 := h.2 i (by omega)
  unfold okAt at h3 ⊢
  rw [hg i hi, hg (i - 1) (by omega)]
  exact h3
theorem early_okRels {k : Int} : ∀ (ts : List Tk) (rs : List (List Int)), (∀ t ∈ ts, okTk t = true) → okRels ts rs = true → okRels ts (rs.map (early k)) = true
  | [], rs, _, _ => by cases rs <;> rfl
  | _ :: _, [], _, _ => rfl
  | t :: ts, r :: rs, ht, h => by
    simp only [okRels, Bool.and_eq_true, List.map_cons] at h ⊢
    have h1 := okTk_iff.1 (ht t (by simp))
    exact ⟨early_okRel (by omega) h.1, early_okRels ts rs (fun t h => ht t (by simp [h])) h.2⟩
theorem okTs_all {ts : List Tk} (h : okTs ts = true) : ∀ t ∈ ts, okTk t = true := by
  unfold okTs at h
  simp only [Bool.and_eq_true, List.all_eq_true] at h
  exact h.2
theorem early_valid {k : Int} {ts : List Tk} {cores : Int} {rs : List (List Int)} (h : valid ts cores rs = true) : valid ts cores (rs.map (early k)) = true := by
  unfold valid at h ⊢
  simp only [Bool.and_eq_true, decide_eq_true_eq, List.length_map] at h ⊢
  exact ⟨h.1, early_okRels ts rs (okTs_all h.1.1.1.1) h.2⟩
theorem begJs_early {k slot : Int} (hs : slot < k) : ∀ (ts : List Tk) (rs : List (List Int)) (js : List Jb), (∀ t ∈ ts, okTk t = true) → okRels ts rs = true → begJs ts (rs.map (early k)) slot js = begJs ts rs slot js
  | [], rs, js, _, _ => by cases rs <;> rfl
  | _ :: _, [], _, _, _ => rfl
  | _ :: _, _ :: _, [], _, _ => rfl
  | t :: ts, r :: rs, j :: js, ht, h => by
    simp only [okRels, Bool.and_eq_true] at h
    have h1 := okTk_iff.1 (ht t (by simp))
    simp only [List.map_cons, begJs]
    rw [begJs_early hs ts rs js (fun t h => ht t (by simp [h])) h.2]
    congr 1
    unfold begJ
    have := early_get (okRel_pairwise (by omega : 1 ≤ t.per) h.1) hs j.next
    by_cases hc : r[j.next]? = some slot
    · rw [if_pos hc, if_pos (this.2 hc)]
    · rw [if_neg hc, if_neg (fun h' => hc (this.1 h'))]
theorem simS_early {ts : List Tk} {rs : List (List Int)} {cores k : Nat} (ht : ∀ t ∈ ts, okTk t = true) (h : okRels ts rs = true) : ∀ (n slot : Nat) (js : List Jb), slot + n ≤ k →
    simS ts (rs.map (early k)) cores n slot js = simS ts rs cores n slot js
  | 0, _, _, _ => rfl
  | n + 1, slot, js, hs => by
    simp only [simS]
    rw [begJs_early (by omega : (slot : Int) < (k : Int)) ts rs js ht h, simS_early ht h n (slot + 1) _ (by omega)]
theorem simS_prefix (ts : List Tk) (rs : List (List Int)) (cores d : Nat) : ∀ (m slot : Nat) (js : List Jb), (simS ts rs cores m slot js).1 = (simS ts rs cores (m + d) slot js).1.take m
  | 0, slot, js => by simp [simS]
  | m + 1, slot, js => by
    rw [show m + 1 + d = (m + d) + 1 from by omega]
    simp only [simS, List.take_succ_cons]
    rw [← simS_prefix ts rs cores d m (slot + 1)]
theorem simulate_early {ts : List Tk} {rs : List (List Int)} {cores k n : Nat} (ht : ∀ t ∈ ts, okTk t = true) (h : okRels ts rs = true) (hk : k ≤ n) :
    (simulate ts (rs.map (early k)) cores k).1 = (simulate ts rs cores n).1.take k := by
  show (simS ts (rs.map (early k)) cores k 0 _).1 = (simS ts rs cores n 0 _).1.take k
  rw [simS_early ht h k 0 _ (by omega)]
  have := simS_prefix ts rs cores (n - k) k 0 (List.replicate ts.length jb0)
  rw [show k + (n - k) = n from by omega] at this
  exact this
end Go.Proofs.YtpmbhdheeaejgaaGreatDoor.SL
