/- The reference's next row is the simulation's. -/
import Derived.Test.YtpmbhdheeaejgaaGreatDoorPlainSl9
namespace Go.Proofs.YtpmbhdheeaejgaaGreatDoor.SL
/-- A task's candidate as the reference finds it. -/
def canB (t : Tk) (slot : Int) (p : Option (Int × Nat)) : Bool := match p with
  | some (x, n) => decide ((n : Int) < t.cost) && decide (x + winR t ((n : Int) + 1) ≤ slot)
  | none => false
def canC (i : Nat) (t : Tk) (p : Option (Int × Nat)) : Cd := match p with
  | some (x, n) => ⟨i, t, x, (n : Int) + 1⟩
  | none => ⟨i, t, 0, 0⟩
def canR (ts : List Tk) (rs : List (List Int)) (S : List (List Int)) (slot : Nat) (i : Nat) : List Cd := match ts[i]?, rs[i]? with
  | some t, some r => if canB t slot (pendR t r S i slot) then [canC i t (pendR t r S i slot)] else []
  | _, _ => []
def candR (ts : List Tk) (rs : List (List Int)) (S : List (List Int)) (slot n : Nat) : List Cd := (List.range n).flatMap (canR ts rs S slot)
theorem candR_succ (ts : List Tk) (rs : List (List Int)) (S : List (List Int)) (slot n : Nat) : candR ts rs S slot (n + 1) = candR ts rs S slot n ++ canR ts rs S slot n := by
  unfold candR
  rw [List.range_succ, List.flatMap_append]
  simp
theorem canR_at {ts : List Tk} {rs : List (List Int)} {S : List (List Int)} {slot i : Nat} {t : Tk} {r : List Int} (h1 : ts[i]? = some t) (h2 : rs[i]? = some r) :
    canR ts rs S slot i = if canB t slot (pendR t r S i slot) then [canC i t (pendR t r S i slot)] else [] := by
  unfold canR
  rw [h1, h2]
theorem canR_len (ts : List Tk) (rs : List (List Int)) (S : List (List Int)) (slot i : Nat) : (canR ts rs S slot i).length ≤ 1 := by
  unfold canR
  split
  · split <;> simp
  · simp
theorem candR_len (ts : List Tk) (rs : List (List Int)) (S : List (List Int)) (slot : Nat) : ∀ n, (candR ts rs S slot n).length ≤ n
  | 0 => by simp [candR]
  | n + 1 => by
    rw [candR_succ, List.length_append]
    have h1 := candR_len ts rs S slot n
    have h2 := canR_len ts rs S slot n
    omega
theorem candR_mem {ts : List Tk} {rs : List (List Int)} {S : List (List Int)} {slot n : Nat} {c : Cd} (h : c ∈ candR ts rs S slot n) :
    ∃ i t r x m, i < n ∧ ts[i]? = some t ∧ rs[i]? = some r ∧ pendR t r S i slot = some (x, m) ∧ (m : Int) < t.cost ∧ x + winR t ((m : Int) + 1) ≤ slot ∧ c = ⟨i, t, x, (m : Int) + 1⟩ := by
  unfold candR at h
  rw [List.mem_flatMap] at h
  obtain ⟨i, hi, h⟩ := h
  rw [List.mem_range] at hi
  unfold canR at h
  split at h
  · rename_i t r h1 h2
    split at h
    · rename_i hb
      cases hp : pendR t r S i slot with
      | none => rw [hp] at hb; cases hb
      | some p =>
        obtain ⟨x, m⟩ := p
        rw [hp] at hb h
        unfold canB at hb
        simp only [Bool.and_eq_true, decide_eq_true_eq] at hb
        exact ⟨i, t, r, x, m, hi, h1, h2, hp, hb.1, hb.2, by simpa [canC] using h⟩
    · simp at h
  · simp at h
/-- The candidates are the reference's. -/
theorem elig_eq {t : Tk} {r : List Int} {S : List (List Int)} {k slot : Nat} {j : Jb} (ht : 1 ≤ t.per) (h : okRel t r = true) (hp : Post t r S k slot j) (i : Nat) :
    (if elig t slot j then [mkCd i t j] else []) = (if canB t slot (pendR t r S k slot) then [canC i t (pendR t r S k slot)] else []) := by
  unfold elig
  rw [post_pend ht h hp]
  cases hl : j.live with
  | false => rw [post_dead hp hl]; rfl
  | true =>
    obtain ⟨h1, h2⟩ := post_live ht h hp hl
    rw [h1, h2]
    show (if (decide (((cnt S k j.rel.toNat slot : Nat) : Int) < t.cost) && _) = true then [_] else []) = _
    unfold canB canC mkCd
    simp only [h2]
theorem cands_eq : ∀ {ts : List Tk} {rs : List (List Int)} {S : List (List Int)} {i slot : Nat} {js : List Jb}, (∀ t ∈ ts, okTk t = true) → rs.length = ts.length → okRels ts rs = true → AllPost ts rs S i slot js →
    cands ts i slot js = (List.range ts.length).flatMap fun k => match ts[k]?, rs[k]? with
      | some t, some r => if canB t slot (pendR t r S (i + k) slot) then [canC (i + k) t (pendR t r S (i + k) slot)] else []
      | _, _ => []
  | [], _, _, _, _, _, _, _, _, _ => by simp [cands]
  | _ :: _, [], _, _, _, _, _, h, _, _ => by simp at h
  | _ :: _, _ :: _, _, _, _, [], _, _, _, h => by have := h.1; simp at this
  | t :: ts, r :: rs, S, i, slot, j :: js, ht, hl, ho, h => by
    simp only [okRels, Bool.and_eq_true] at ho
    have h1 := okTk_iff.1 (ht t (by simp))
    have hj : Post t r S i slot j := h.2 0 t r j rfl rfl rfl
    have h2 : AllPost ts rs S (i + 1) slot js := ⟨by have := h.1; simpa using this, fun k t' r' j' a b c => by
      have := h.2 (k + 1) t' r' j' (by simpa using a) (by simpa using b) (by simpa using c)
      rw [show i + 1 + k = i + (k + 1) from by omega]
      exact this⟩
    have ih := cands_eq (fun t h => ht t (by simp [h])) (by simpa using hl) ho.2 h2
    rw [cands, ih, elig_eq (by omega) ho.1 hj i, List.length_cons, List.range_succ_eq_map, List.flatMap_cons, List.flatMap_map]
    simp only [List.getElem?_cons_zero, List.getElem?_cons_succ, Nat.add_zero]
    congr 1
    congr 1
    funext k
    rw [show i + 1 + k = i + Nat.succ k from by omega]
theorem cands_all {ts : List Tk} {rs : List (List Int)} {S : List (List Int)} {slot : Nat} {js : List Jb} (ht : ∀ t ∈ ts, okTk t = true) (hl : rs.length = ts.length) (ho : okRels ts rs = true) (h : AllPost ts rs S 0 slot js) : cands ts 0 slot js = candR ts rs S slot ts.length := by
  rw [cands_eq ht hl ho h]
  unfold candR canR
  congr 1
  funext k
  rw [Nat.zero_add]
/-- How many have priority over one. -/
def rank (l : List Cd) (c : Cd) : Nat := l.countP fun x => bef x c
def nextI (l : List Cd) (cores : Int) (i : Nat) (m : List Cd) : List Nat := (m.filter fun c => decide (c.num = i) && decide ((rank l c : Int) < cores)).map (·.num)
def nextL (l : List Cd) (cores : Int) (n : Nat) : List Nat := (List.range n).flatMap fun i => nextI l cores i l
theorem nextL_succ (l : List Cd) (cores : Int) (n : Nat) : nextL l cores (n + 1) = nextL l cores n ++ nextI l cores n l := by
  unfold nextL
  rw [List.range_succ, List.flatMap_append]
  simp
theorem nextI_snoc {l : List Cd} {cores : Int} {i : Nat} {m : List Cd} {c : Cd} : nextI l cores i (m ++ [c]) = nextI l cores i m ++ (if c.num = i ∧ (rank l c : Int) < cores then [i] else []) := by
  unfold nextI
  rw [List.filter_append, List.map_append]
  congr 1
  by_cases h : c.num = i ∧ (rank l c : Int) < cores
  · rw [if_pos h, List.filter_cons_of_pos (by simp [h.1, h.2])]
    simp [h.1]
  · rw [if_neg h, List.filter_cons_of_neg (by simp; intro a; have := fun b => h ⟨a, b⟩; omega)]
    rfl
theorem nextI_mem {l : List Cd} {cores : Int} {i : Nat} {m : List Cd} {x : Nat} : x ∈ nextI l cores i m ↔ ∃ c ∈ m, c.num = i ∧ (rank l c : Int) < cores ∧ x = i := by
  unfold nextI
  simp only [List.mem_map, List.mem_filter, Bool.and_eq_true, decide_eq_true_eq]
  constructor
  · rintro ⟨c, ⟨h1, h2, h3⟩, rfl⟩
    exact ⟨c, h1, h2, h3, h2⟩
  · rintro ⟨c, h1, h2, h3, rfl⟩
    exact ⟨c, ⟨h1, h2, h3⟩, h2⟩
theorem nextL_mem {l : List Cd} {cores : Int} {n x : Nat} : x ∈ nextL l cores n ↔ x < n ∧ ∃ c ∈ l, c.num = x ∧ (rank l c : Int) < cores := by
  unfold nextL
  simp only [List.mem_flatMap, List.mem_range, nextI_mem]
  constructor
  · rintro ⟨i, hi, c, h1, h2, h3, rfl⟩
    exact ⟨hi, c, h1, h2, h3⟩
  · rintro ⟨hi, c, h1, h2, h3⟩
    exact ⟨x, hi, c, h1, h2, h3, rfl⟩
theorem filter_one : ∀ {l : List Cd} (f : Cd → Bool) (i : Nat), (l.map (·.num)).Nodup → (l.filter fun c => decide (c.num = i) && f c).length ≤ 1
  | [], _, _, _ => by simp
  | c :: l, f, i, h => by
    rw [List.map_cons, List.nodup_cons] at h
    have ih := filter_one f i h.2
    by_cases hc : c.num = i
    · have hz : (l.filter fun c => decide (c.num = i) && f c) = [] := by
        rw [List.filter_eq_nil_iff]
        intro d hd hx
        simp only [Bool.and_eq_true, decide_eq_true_eq] at hx
        exact h.1 (List.mem_map.2 ⟨d, hd, by rw [hx.1, hc]⟩)
      rw [List.filter_cons]
      split
      · rw [hz]; simp
      · rw [hz]; simp
    · rw [List.filter_cons_of_neg (by simp [hc])]
      exact ih
theorem nextL_pairwise {l : List Cd} {cores : Int} {n : Nat} (h : (l.map (·.num)).Nodup) : (nextL l cores n).Pairwise (· < ·) := by
  unfold nextL
  rw [List.pairwise_flatMap]
  refine ⟨fun i _ => ?_, ?_⟩
  · have h1 : (nextI l cores i l).length ≤ 1 := by
      unfold nextI
      rw [List.length_map]
      exact filter_one (fun c => decide ((rank l c : Int) < cores)) i h
    match hm : nextI l cores i l, h1 with
    | [], _ => simp
    | [_], _ => simp
    | _ :: _ :: _, h => simp at h
  · refine List.pairwise_lt_range.imp ?_
    intro a b hab x hx y hy
    obtain ⟨_, _, _, _, rfl⟩ := nextI_mem.1 hx
    obtain ⟨_, _, _, _, rfl⟩ := nextI_mem.1 hy
    exact hab
theorem rank_perm {l l' : List Cd} (h : l.Perm l') (c : Cd) : rank l c = rank l' c := h.countP_eq _
/-- In a sorted list the rank is the place. -/
theorem rank_at {l : List Cd} (h : l.Pairwise fun a b => bef a b = true) {i : Nat} {c : Cd} (hc : l[i]? = some c) : rank l c = i := by
  obtain ⟨hi, rfl⟩ := List.getElem?_eq_some_iff.1 hc
  have hs : l = l.take i ++ l[i] :: l.drop (i + 1) := by
    rw [← List.drop_eq_getElem_cons hi, List.take_append_drop]
  have hp := List.pairwise_iff_getElem.1 h
  unfold rank
  rw [show l.countP (fun x => bef x l[i]) = (l.take i ++ l[i] :: l.drop (i + 1)).countP (fun x => bef x l[i]) from by rw [← hs]]
  rw [List.countP_append, List.countP_cons, bef_irr]
  have h1 : (l.take i).countP (fun x => bef x l[i]) = i := by
    rw [List.countP_eq_length.2 (fun x hx => ?_), List.length_take]
    · omega
    · obtain ⟨j, hj, rfl⟩ := List.mem_iff_getElem.1 hx
      rw [List.getElem_take]
      rw [List.length_take] at hj
      exact hp j i (by omega) hi (by omega)
  have h2 : (l.drop (i + 1)).countP (fun x => bef x l[i]) = 0 := by
    rw [List.countP_eq_zero]
    intro x hx
    obtain ⟨j, hj, rfl⟩ := List.mem_iff_getElem.1 hx
    rw [List.getElem_drop]
    rw [List.length_drop] at hj
    have := bef_asymm (hp i (i + 1 + j) hi (by omega) (by omega))
    rw [this]; simp
  rw [h1, h2]
  simp
theorem srt_strict {l : List Cd} (h : (l.map (·.num)).Nodup) : (srt l).Pairwise fun a b => bef a b = true := by
  have h1 := srt_pairwise l
  have h2 : ((srt l).map (·.num)).Nodup := ((srt_perm' l).map (·.num)).nodup_iff.2 h
  rw [List.nodup_iff_pairwise_ne, List.pairwise_map] at h2
  exact (h1.and h2).imp fun ⟨a, b⟩ => bef_total (fun e => b e.symm) a
/-- The chosen ones are those with few before them. -/
theorem chosen_next {ts : List Tk} {cores : Nat} {slot : Int} {js : List Jb} : rowOf (chosen ts cores slot js) = nextL (cands ts 0 slot js) cores ts.length := by
  have hn := cands_nodup' ts 0 slot js
  have hs := srt_strict hn
  have hp := srt_perm' (cands ts 0 slot js)
  have hch := chosen_ok' ts cores slot js
  have hpw := nextL_pairwise (cores := (cores : Int)) (n := ts.length) hn
  refine rowOf_eq ?_ (hpw.imp fun h => Nat.le_of_lt h)
  rw [List.perm_ext_iff_of_nodup (hpw.imp fun h => Nat.ne_of_lt h) hch.1]
  intro x
  rw [nextL_mem]
  unfold chosen
  constructor
  · rintro ⟨_, c, hc, rfl, hr⟩
    rw [← rank_perm hp] at hr
    obtain ⟨i, hi⟩ := List.mem_iff_getElem?.1 (hp.mem_iff.2 hc)
    rw [rank_at hs hi] at hr
    refine List.mem_map.2 ⟨c, List.mem_iff_getElem?.2 ⟨i, ?_⟩, rfl⟩
    rw [List.getElem?_take, if_pos (by omega), hi]
  · intro hx
    obtain ⟨c, hc, rfl⟩ := List.mem_map.1 hx
    obtain ⟨i, hi⟩ := List.mem_iff_getElem?.1 hc
    rw [List.getElem?_take] at hi
    split at hi
    · rename_i hlt
      have hm : c ∈ cands ts 0 slot js := hp.mem_iff.1 (List.mem_of_mem_take hc)
      obtain ⟨k, t, j, h1, h2, h3, rfl⟩ := cands_mem' _ _ _ _ _ hm
      have hk := (List.getElem?_eq_some_iff.1 h1).1
      refine ⟨by simp [mkCd]; exact hk, _, hm, rfl, ?_⟩
      rw [← rank_perm hp, rank_at hs hi]
      omega
    · cases hi
/-- The reference's next row. -/
def nextR (ts : List Tk) (rs : List (List Int)) (S : List (List Int)) (cores : Int) (slot : Nat) : List Nat := nextL (candR ts rs S slot ts.length) cores ts.length
theorem nextR_eq {ts : List Tk} {rs : List (List Int)} {S : List (List Int)} {cores slot : Nat} {js : List Jb} (ht : ∀ t ∈ ts, okTk t = true) (hl : rs.length = ts.length) (ho : okRels ts rs = true) (h : AllPost ts rs S 0 slot js) :
    rowOf (chosen ts cores slot js) = nextR ts rs S cores slot := by
  rw [chosen_next, cands_all ht hl ho h]
  rfl
/-- Only the rows before matter. -/
theorem pendR_take (t : Tk) (r : List Int) (S : List (List Int)) (k slot : Nat) : pendR t r (S.take slot) k slot = pendR t r S k slot := by
  unfold pendR
  congr 1
  funext x
  rw [cnt_take]
theorem nextR_take (ts : List Tk) (rs : List (List Int)) (S : List (List Int)) (cores : Int) (slot : Nat) : nextR ts rs (S.take slot) cores slot = nextR ts rs S cores slot := by
  unfold nextR candR canR
  simp only [pendR_take]
theorem sim_next {ts : List Tk} {rs : List (List Int)} {cores : Nat} {S : List (List Int)} (ht : ∀ t ∈ ts, okTk t = true) (hl : rs.length = ts.length) (ho : okRels ts rs = true) (hasc : ∀ r ∈ S, asc ts.length (-1) r = true) : ∀ (n slot : Nat) (js : List Jb), S.drop slot = (simS ts rs cores n slot js).1.map ints → AllPre ts rs S 0 slot js →
    ∀ i row, (simS ts rs cores n slot js).1[i]? = some row → row = nextR ts rs S cores (slot + i)
  | 0, _, _, _, _, _, _, h => by simp [simS] at h
  | n + 1, slot, js, hS, h, i, row, hi => by
    have hp := allPre_post ht hl ho h
    rw [simS] at hi hS
    simp only [List.map_cons] at hi hS
    have hr : S[slot]? = some (ints (rowOf (chosen ts cores slot (begJs ts rs slot js)))) := by
      have := congrArg (·[0]?) hS
      simpa using this
    cases i with
    | zero =>
      simp only [List.getElem?_cons_zero, Option.some.injEq] at hi
      rw [← hi, Nat.add_zero]
      exact nextR_eq ht hl ho hp
    | succ i =>
      simp only [List.getElem?_cons_succ] at hi
      have h1 := allPost_pre ho hp hr (hasc _ (List.mem_of_getElem? hr))
      rw [ints_back, bump_perm (rowOf_perm _)] at h1
      rw [show slot + (i + 1) = slot + 1 + i from by omega]
      exact sim_next ht hl ho hasc n (slot + 1) _ (by rw [← List.tail_drop, hS]; rfl) h1 i row hi
theorem chkR_asc {ts : List Tk} {rs : List (List Int)} {S : List (List Int)} {cores : Int} : ∀ (T : List (List Int)) (slot : Nat), chkR ts rs S cores T slot = 0 → ∀ r ∈ T, asc ts.length (-1) r = true
  | [], _, _, _, h => by simp at h
  | r :: T, slot, h, x, hx => by
    rw [chkR] at h
    split at h
    · rename_i h0
      rcases List.mem_cons.1 hx with rfl | hx
      · exact chkRowR_asc h0
      · exact chkR_asc T (slot + 1) h x hx
    · rename_i h0
      exact absurd h h0
/-- The simulation's rows and misses are the reference's. -/
theorem sim_ref {ts : List Tk} {rs : List (List Int)} {cores n : Nat} (hv : valid ts cores rs = true) :
    (∀ i row, (simulate ts rs cores n).1[i]? = some row → row = nextR ts rs (((simulate ts rs cores n).1.map ints).take i) cores i) ∧
    (simulate ts rs cores n).2 = missL ts rs ((simulate ts rs cores n).1.map ints) (((simulate ts rs cores n).1.map ints).length + 1) := by
  have hc := chk_simulate ts rs cores n
  have ha := chkS_all (S := (simulate ts rs cores n).1.map ints) hv
  rw [ha] at hc
  have h2 := congrArg Prod.snd hc
  have h1 := congrArg Prod.fst hc
  simp only at h1 h2
  rw [h2, if_pos rfl] at h1
  have hv0 := hv
  unfold valid at hv
  simp only [Bool.and_eq_true, decide_eq_true_eq] at hv
  obtain ⟨⟨⟨⟨v1, v2⟩, v3⟩, v4⟩, v5⟩ := hv
  refine ⟨fun i row hi => ?_, h1.symm⟩
  rw [nextR_take]
  have := sim_next (S := (simulate ts rs cores n).1.map ints) (okTs_all v1) v4 v5 (chkR_asc _ 0 h2) n 0 (List.replicate ts.length jb0) rfl ⟨by simp, fun k t r j a b c => by
    have hj : j = jb0 := List.eq_of_mem_replicate (List.mem_of_getElem? c)
    rw [hj]
    exact pre0 (okRels_all v5 a b)⟩ i row hi
  rw [Nat.zero_add] at this
  exact this
end Go.Proofs.YtpmbhdheeaejgaaGreatDoor.SL
