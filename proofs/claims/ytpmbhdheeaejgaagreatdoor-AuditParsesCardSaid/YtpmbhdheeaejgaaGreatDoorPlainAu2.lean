/- The auditor: what holds between two events. -/
import Derived.Test.YtpmbhdheeaejgaaGreatDoorPlainAu
import Derived.Test.YtpmbhdheeaejgaaGreatDoorPlainSl10
namespace Go.Proofs.YtpmbhdheeaejgaaGreatDoor.AU
open SL (Tk Cd srt winR)
/-- A task's last job is in bounds. -/
structure OkP (n slot J : Nat) (t : Tk) (p : Pr) : Prop where
  jobs : p.jobs ≤ J
  rel0 : 0 ≤ p.rel
  rel1 : p.rel ≤ slot
  ran0 : 0 ≤ p.ran
  ran1 : p.ran ≤ t.cost
  last : 0 < p.ran → 0 ≤ p.last ∧ p.last ≤ slot
  core : 0 < p.ran → 0 ≤ p.core ∧ p.core < n
/-- Two jobs that ran last in the same slot ran on different cores. -/
def Apart (ps : List Pr) : Prop := ∀ (i j : Nat) (p q : Pr), i ≠ j → ps[i]? = some p → ps[j]? = some q → 0 < p.ran → 0 < q.ran → p.last = q.last → p.core ≠ q.core
def OkPs (n slot J : Nat) (ts : List Tk) (ps : List Pr) : Prop := ∀ (i : Nat) (t : Tk) (p : Pr), ts[i]? = some t → ps[i]? = some p → OkP n slot J t p
/-- What is still to be dispatched. -/
structure ReqOk (ts : List Tk) (n slot : Nat) (ps : List Pr) (l : List Rq) : Prop where
  tasks : (l.map (·.task)).Nodup
  cores : (l.map (·.core)).Nodup
  one : ∀ r ∈ l, 0 ≤ r.core ∧ r.core < n ∧ ∃ t p, ts[r.task]? = some t ∧ ps[r.task]? = some p ∧ p.ran < t.cost ∧ r.value = p.ran + 1
  far : ∀ r ∈ l, ∀ p ∈ ps, 0 < p.ran → p.last = (slot : Int) → p.core ≠ r.core
structure Inv (ts : List Tk) (n J : Nat) (m : Mo) : Prop where
  len : m.ps.length = ts.length
  slot : m.slot ≤ 100000
  ph : 1 ≤ m.phase ∧ m.phase ≤ 5
  ok : OkPs n m.slot J ts m.ps
  apart : Apart m.ps
  early : m.phase ≤ 2 → ∀ p ∈ m.ps, 0 < p.ran → p.last < (m.slot : Int)
  disp : m.phase = 3 → ReqOk ts n m.slot m.ps m.req
theorem byCore_mem {n : Nat} {l : List Rq} {r : Rq} : r ∈ byCore n l ↔ r ∈ l ∧ 0 ≤ r.core ∧ r.core < n := by
  unfold byCore
  simp only [List.mem_flatMap, List.mem_range, List.mem_filter, beq_iff_eq]
  constructor
  · rintro ⟨c, hc, hr, he⟩
    exact ⟨hr, by omega, by omega⟩
  · rintro ⟨hr, h0, h1⟩
    exact ⟨r.core.toNat, by omega, hr, by omega⟩
theorem byCore_nil (n : Nat) : byCore n [] = [] := by
  unfold byCore
  simp
theorem filter_core_one {l : List Rq} (h : (l.map (·.core)).Nodup) (c : Int) : (l.filter fun r => r.core == c).length ≤ 1 := by
  induction l with
  | nil => simp
  | cons r l ih =>
    rw [List.map_cons, List.nodup_cons] at h
    rw [List.filter_cons]
    split
    · rename_i he
      have hz : (l.filter fun r => r.core == c) = [] := by
        rw [List.filter_eq_nil_iff]
        intro d hd hx
        simp only [beq_iff_eq] at he hx
        exact h.1 (List.mem_map.2 ⟨d, hd, by rw [hx, he]⟩)
      rw [hz]; simp
    · exact ih h.2
theorem perm_one {l l' : List Rq} (h : l.Perm l') (h1 : l.length ≤ 1) : l = l' := by
  match l, h1 with
  | [], _ => exact h.nil_eq
  | [x], _ => exact (List.singleton_perm.1 h).symm ▸ rfl
  | _ :: _ :: _, h => simp at h
/-- The order of a list with different cores does not matter. -/
theorem byCore_perm {n : Nat} {l l' : List Rq} (h : l.Perm l') (hn : (l.map (·.core)).Nodup) : byCore n l = byCore n l' := by
  unfold byCore
  congr 1
  funext c
  exact perm_one (h.filter _) (filter_core_one hn _)
theorem byCore_sorted {n : Nat} {l : List Rq} (hn : (l.map (·.core)).Nodup) : (byCore n l).Pairwise fun a b => a.core < b.core := by
  unfold byCore
  rw [List.pairwise_flatMap]
  refine ⟨fun c _ => ?_, ?_⟩
  · have h1 := filter_core_one hn (c : Int)
    revert h1
    generalize (l.filter fun r => r.core == (c : Int)) = L
    intro h1
    match L, h1 with
    | [], _ => simp
    | [_], _ => simp
    | _ :: _ :: _, h => simp at h
  · refine List.pairwise_lt_range.imp ?_
    intro a b hab x hx y hy
    simp only [List.mem_filter, beq_iff_eq] at hx hy
    omega
theorem byCore_nodup {n : Nat} {l : List Rq} (hn : (l.map (·.core)).Nodup) : ((byCore n l).map (·.core)).Nodup := by
  rw [List.nodup_iff_pairwise_ne, List.pairwise_map]
  exact (byCore_sorted hn).imp fun h => by omega
theorem nodup_core {l : List Rq} (h : (l.map (·.core)).Nodup) : l.Nodup := by
  rw [List.nodup_iff_pairwise_ne, List.pairwise_map] at h
  rw [List.nodup_iff_pairwise_ne]
  exact h.imp fun {a b} h (e : a = b) => h (by rw [e])
theorem byCore_self {n : Nat} {l : List Rq} (hn : (l.map (·.core)).Nodup) (h : ∀ r ∈ l, 0 ≤ r.core ∧ r.core < n) : (byCore n l).Perm l := by
  have hnd : l.Nodup := nodup_core hn
  have hnd2 : (byCore n l).Nodup := nodup_core (byCore_nodup hn)
  rw [List.perm_ext_iff_of_nodup hnd2 hnd]
  intro r
  rw [byCore_mem]
  exact ⟨fun a => a.1, fun a => ⟨a, h r a⟩⟩
/-- A sorted list is the one in the order of the cores. -/
theorem byCore_eq {n : Nat} {l l' : List Rq} (hp : l'.Perm l) (hs : l'.Pairwise fun a b => a.core < b.core) (h : ∀ r ∈ l, 0 ≤ r.core ∧ r.core < n) : l' = byCore n l := by
  have hn : (l.map (·.core)).Nodup := by
    refine ((hp.map _).nodup_iff).1 ?_
    rw [List.nodup_iff_pairwise_ne, List.pairwise_map]
    exact hs.imp fun h => by omega
  refine List.Perm.eq_of_pairwise (le := fun a b => a.core < b.core) (fun a b _ _ h1 h2 => by omega) hs (byCore_sorted hn) (hp.trans (byCore_self hn h).symm)
theorem canF_some {ts : List Tk} {ps : List Pr} {slot i : Nat} {c : Cd} (h : canF ts ps slot i = some c) : ∃ t p, ts[i]? = some t ∧ ps[i]? = some p ∧ p.live = true ∧ p.ran < t.cost ∧ p.rel + winR t (p.ran + 1) ≤ slot ∧ c = ⟨i, t, p.rel, p.ran + 1⟩ := by
  unfold canF at h
  split at h
  · rename_i t p h1 h2
    split at h
    · rename_i hb
      unfold canB at hb
      simp only [Bool.and_eq_true, decide_eq_true_eq] at hb
      injection h with h
      exact ⟨t, p, h1, h2, hb.1.1, hb.1.2, hb.2, h.symm⟩
    · cases h
  · cases h
theorem canL_mem {ts : List Tk} {ps : List Pr} {slot : Nat} {c : Cd} (h : c ∈ canL ts ps slot) : ∃ i t p, ts[i]? = some t ∧ ps[i]? = some p ∧ p.live = true ∧ p.ran < t.cost ∧ p.rel + winR t (p.ran + 1) ≤ slot ∧ c = ⟨i, t, p.rel, p.ran + 1⟩ := by
  obtain ⟨i, _, h⟩ := overI_mem.1 h
  exact ⟨i, canF_some h⟩
theorem canF_num {ts : List Tk} {ps : List Pr} {slot i : Nat} {c : Cd} (h : canF ts ps slot i = some c) : c.num = i := by
  obtain ⟨t, p, _, _, _, _, _, rfl⟩ := canF_some h
  rfl
theorem overI_nodup {α : Type} {f : Nat → Option α} {g : α → Nat} (hf : ∀ i x, f i = some x → g x = i) : ∀ n, ((overI n f).map g).Pairwise (· < ·)
  | 0 => by simp [overI_zero]
  | n + 1 => by
    rw [overI_succ, List.map_append, List.pairwise_append]
    refine ⟨overI_nodup hf n, ?_, ?_⟩
    · cases h : f n <;> simp
    · intro a ha b hb
      obtain ⟨x, hx, rfl⟩ := List.mem_map.1 ha
      obtain ⟨i, hi, hfi⟩ := overI_mem.1 hx
      cases h : f n with
      | none => rw [h] at hb; simp at hb
      | some y =>
        rw [h] at hb
        simp at hb
        rw [hf i x hfi, hb, hf n y h]
        exact hi
theorem canL_nodup (ts : List Tk) (ps : List Pr) (slot n : Nat) : ((overI n (canF ts ps slot)).map (·.num)).Nodup := by
  rw [List.nodup_iff_pairwise_ne]
  exact (overI_nodup (fun i x h => canF_num h) n).imp fun h => Nat.ne_of_lt h
theorem sel_nodup (ts : List Tk) (ps : List Pr) (slot n : Nat) : (sel ts ps slot n).Nodup := by
  unfold sel
  rw [List.map_take]
  refine List.Nodup.sublist (List.take_sublist _ _) ?_
  exact (((SL.srt_perm' _).map _).nodup_iff).2 (canL_nodup _ _ _ _)
theorem sel_mem {ts : List Tk} {ps : List Pr} {slot n i : Nat} (h : i ∈ sel ts ps slot n) : ∃ t p, ts[i]? = some t ∧ ps[i]? = some p ∧ p.live = true ∧ p.ran < t.cost := by
  unfold sel at h
  obtain ⟨c, hc, rfl⟩ := List.mem_map.1 h
  have h1 := (SL.srt_perm' _).mem_iff.1 (List.mem_of_mem_take hc)
  obtain ⟨i, t, p, a1, a2, a3, a4, _, rfl⟩ := canL_mem h1
  exact ⟨t, p, a1, a2, a3, a4⟩
theorem sel_len (ts : List Tk) (ps : List Pr) (slot n : Nat) : (sel ts ps slot n).length ≤ n := by
  unfold sel
  rw [List.length_map, List.length_take]
  omega
theorem fixed_some {ps : List Pr} {slot i : Nat} {c : Int} (h : fixed ps slot i = some c) : ∃ p, ps[i]? = some p ∧ 0 < p.ran ∧ p.last = (slot : Int) - 1 ∧ p.core = c := by
  unfold fixed at h
  split at h
  · rename_i p hp
    split at h
    · rename_i hk
      unfold keeps at hk
      simp only [Bool.and_eq_true, decide_eq_true_eq] at hk
      injection h with h
      exact ⟨p, hp, hk.1, hk.2, h⟩
    · cases h
  · cases h
theorem fixL_mem {ps : List Pr} {slot : Nat} {l : List Nat} {r : Rq} : r ∈ fixL ps slot l ↔ ∃ i c, i ∈ l ∧ fixed ps slot i = some c ∧ r = mkR ps c i := by
  unfold fixL
  simp only [List.mem_filterMap, Option.map_eq_some_iff]
  constructor
  · rintro ⟨i, h1, c, h2, rfl⟩
    exact ⟨i, c, h1, h2, rfl⟩
  · rintro ⟨i, c, h1, h2, rfl⟩
    exact ⟨i, h1, c, h2, rfl⟩
theorem newL_mem {ps : List Pr} : ∀ {fr oth : List Nat} {r : Rq}, r ∈ newL ps fr oth → ∃ c i : Nat, c ∈ fr ∧ i ∈ oth ∧ r = mkR ps c i
  | [], _, r, h => by simp [newL] at h
  | _ :: _, [], r, h => by simp [newL] at h
  | c :: fr, i :: oth, r, h => by
    unfold newL at h
    rw [List.zipWith_cons_cons, List.mem_cons] at h
    rcases h with rfl | h
    · exact ⟨c, i, by simp, by simp, rfl⟩
    · obtain ⟨c', i', h1, h2, h3⟩ := newL_mem (fr := fr) (oth := oth) h
      exact ⟨c', i', by simp [h1], by simp [h2], h3⟩
theorem newL_cores {ps : List Pr} : ∀ {fr oth : List Nat}, fr.Nodup → ((newL ps fr oth).map (·.core)).Nodup
  | [], _, _ => by simp [newL]
  | _ :: _, [], _ => by simp [newL]
  | c :: fr, i :: oth, h => by
    rw [List.nodup_cons] at h
    unfold newL
    rw [List.zipWith_cons_cons, List.map_cons, List.nodup_cons]
    refine ⟨fun hm => ?_, newL_cores h.2⟩
    obtain ⟨r, hr, he⟩ := List.mem_map.1 hm
    obtain ⟨c', i', h1, _, rfl⟩ := newL_mem hr
    rw [mkR_core, mkR_core] at he
    have : c' = c := by omega
    subst this
    exact h.1 h1
theorem newL_tasks {ps : List Pr} : ∀ {fr oth : List Nat}, oth.Nodup → ((newL ps fr oth).map (·.task)).Nodup
  | [], _, _ => by simp [newL]
  | _ :: _, [], _ => by simp [newL]
  | c :: fr, i :: oth, h => by
    rw [List.nodup_cons] at h
    unfold newL
    rw [List.zipWith_cons_cons, List.map_cons, List.nodup_cons]
    refine ⟨fun hm => ?_, newL_tasks h.2⟩
    obtain ⟨r, hr, he⟩ := List.mem_map.1 hm
    obtain ⟨c', i', _, h1, rfl⟩ := newL_mem hr
    rw [mkR_task, mkR_task] at he
    subst he
    exact h.1 h1
theorem fixL_tasks {ps : List Pr} {slot : Nat} : ∀ {l : List Nat}, l.Nodup → ((fixL ps slot l).map (·.task)).Nodup
  | [], _ => by simp [fixL]
  | i :: l, h => by
    rw [List.nodup_cons] at h
    have ih := fixL_tasks (ps := ps) (slot := slot) h.2
    unfold fixL at ih ⊢
    rw [List.filterMap_cons]
    cases hf : fixed ps slot i with
    | none => simpa using ih
    | some c =>
      simp only [Option.map_some, List.map_cons, List.nodup_cons]
      refine ⟨fun hm => ?_, ih⟩
      obtain ⟨r, hr, he⟩ := List.mem_map.1 hm
      obtain ⟨i', c', h1, _, rfl⟩ := fixL_mem.1 (show r ∈ fixL ps slot l from hr)
      rw [mkR_task, mkR_task] at he
      subst he
      exact h.1 h1
theorem fixL_cores {ps : List Pr} {slot : Nat} (ha : Apart ps) : ∀ {l : List Nat}, l.Nodup → ((fixL ps slot l).map (·.core)).Nodup
  | [], _ => by simp [fixL]
  | i :: l, h => by
    rw [List.nodup_cons] at h
    have ih := fixL_cores (slot := slot) ha h.2
    unfold fixL at ih ⊢
    rw [List.filterMap_cons]
    cases hf : fixed ps slot i with
    | none => simpa using ih
    | some c =>
      simp only [Option.map_some, List.map_cons, List.nodup_cons]
      refine ⟨fun hm => ?_, ih⟩
      obtain ⟨r, hr, he⟩ := List.mem_map.1 hm
      obtain ⟨i', c', h1, h2, rfl⟩ := fixL_mem.1 (show r ∈ fixL ps slot l from hr)
      rw [mkR_core, mkR_core] at he
      obtain ⟨p, b1, b2, b3, b4⟩ := fixed_some hf
      obtain ⟨q, d1, d2, d3, d4⟩ := fixed_some h2
      have hne : i ≠ i' := fun e => h.1 (e ▸ h1)
      exact ha i i' p q hne b1 d1 b2 d2 (by rw [b3, d3]) (by rw [b4, d4, he])
theorem taken_iff {F : List Rq} {c : Nat} : takenB F c = true ↔ ∃ r ∈ F, r.core = (c : Int) := by
  unfold takenB
  simp [List.any_eq_true]
theorem freeL_mem {F : List Rq} {n c : Nat} : c ∈ freeL F n ↔ c < n ∧ ∀ r ∈ F, r.core ≠ (c : Int) := by
  unfold freeL
  rw [List.mem_filter, List.mem_range]
  constructor
  · rintro ⟨h1, h2⟩
    refine ⟨h1, fun r hr he => ?_⟩
    have := taken_iff.2 ⟨r, hr, he⟩
    rw [this] at h2; simp at h2
  · rintro ⟨h1, h2⟩
    refine ⟨h1, ?_⟩
    cases ht : takenB F c with
    | false => rfl
    | true =>
      obtain ⟨r, hr, he⟩ := taken_iff.1 ht
      exact absurd he (h2 r hr)
theorem freeL_nodup (F : List Rq) (n : Nat) : (freeL F n).Nodup := List.Nodup.sublist (List.filter_sublist) List.nodup_range
theorem asg_mem {ps : List Pr} {slot n : Nat} {l : List Nat} {r : Rq} (h : r ∈ asg ps slot n l) : ∃ i c, i ∈ l ∧ r = mkR ps c i ∧ (fixed ps slot i = some c ∨ (0 ≤ c ∧ c < n)) := by
  unfold asg at h
  rw [List.mem_append] at h
  rcases h with h | h
  · obtain ⟨i, c, h1, h2, rfl⟩ := fixL_mem.1 h
    exact ⟨i, c, h1, rfl, .inl h2⟩
  · obtain ⟨c, i, h1, h2, rfl⟩ := newL_mem h
    have h3 := (freeL_mem.1 h1).1
    unfold othL at h2
    exact ⟨i, c, (List.mem_filter.1 h2).1, rfl, .inr ⟨by omega, by omega⟩⟩
theorem asg_cores {ps : List Pr} {slot n : Nat} {l : List Nat} (ha : Apart ps) (hl : l.Nodup) : ((asg ps slot n l).map (·.core)).Nodup := by
  unfold asg
  rw [List.map_append, List.nodup_append]
  refine ⟨fixL_cores ha hl, newL_cores (freeL_nodup _ _), ?_⟩
  intro a h1 b h2 he
  subst he
  obtain ⟨r, hr, rfl⟩ := List.mem_map.1 h1
  obtain ⟨q, hq, he⟩ := List.mem_map.1 h2
  obtain ⟨c, i, h3, _, rfl⟩ := newL_mem hq
  rw [mkR_core] at he
  exact (freeL_mem.1 h3).2 r hr he.symm
theorem asg_tasks {ps : List Pr} {slot n : Nat} {l : List Nat} (hl : l.Nodup) : ((asg ps slot n l).map (·.task)).Nodup := by
  unfold asg
  rw [List.map_append, List.nodup_append]
  refine ⟨fixL_tasks hl, newL_tasks (List.Nodup.sublist (List.filter_sublist) hl), ?_⟩
  intro a h1 b h2 he
  subst he
  obtain ⟨r, hr, rfl⟩ := List.mem_map.1 h1
  obtain ⟨q, hq, he⟩ := List.mem_map.1 h2
  obtain ⟨c, i, _, h4, rfl⟩ := newL_mem hq
  obtain ⟨i', c', h5, h6, rfl⟩ := fixL_mem.1 hr
  rw [mkR_task, mkR_task] at he
  subst he
  unfold othL at h4
  have := (List.mem_filter.1 h4).2
  rw [h6] at this
  simp at this
end Go.Proofs.YtpmbhdheeaejgaaGreatDoor.AU
