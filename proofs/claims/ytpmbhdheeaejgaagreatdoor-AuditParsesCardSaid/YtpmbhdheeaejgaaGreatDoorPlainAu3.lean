/- The auditor: what holds between two events stays. -/
import Derived.Test.YtpmbhdheeaejgaaGreatDoorPlainAu2
namespace Go.Proofs.YtpmbhdheeaejgaaGreatDoor.AU
open SL (Tk Cd srt winR)
theorem OkP.up {n s s' J J' : Nat} {t : Tk} {p : Pr} (h : OkP n s J t p) (hs : s ≤ s') (hJ : J ≤ J') : OkP n s' J' t p :=
  ⟨by have := h.jobs; omega, h.rel0, by have := h.rel1; omega, h.ran0, h.ran1, fun a => ⟨(h.last a).1, by have := (h.last a).2; omega⟩, h.core⟩
theorem OkPs.at {n s J : Nat} {ts : List Tk} {ps : List Pr} (h : OkPs n s J ts ps) (hl : ps.length = ts.length) {p : Pr} (hp : p ∈ ps) : ∃ t, t ∈ ts ∧ OkP n s J t p := by
  obtain ⟨i, hi⟩ := List.mem_iff_getElem?.1 hp
  have hlt := (List.getElem?_eq_some_iff.1 hi).1
  obtain ⟨t, ht⟩ : ∃ t, ts[i]? = some t := ⟨_, List.getElem?_eq_getElem (by omega)⟩
  exact ⟨t, List.mem_of_getElem? ht, h i t p ht hi⟩
theorem disp_ok {ts : List Tk} {ps : List Pr} {n slot J : Nat} (_hl : ps.length = ts.length) (ho : OkPs n slot J ts ps) (ha : Apart ps) (he : ∀ p ∈ ps, 0 < p.ran → p.last < (slot : Int)) : ReqOk ts n slot ps (dispL ts ps slot n) := by
  have hs := sel_nodup ts ps slot n
  have hc := asg_cores (slot := slot) (n := n) ha hs
  have hr : ∀ r ∈ asg ps slot n (sel ts ps slot n), 0 ≤ r.core ∧ r.core < n := by
    intro r hr
    obtain ⟨i, c, h1, rfl, h2⟩ := asg_mem hr
    rw [mkR_core]
    rcases h2 with h2 | h2
    · obtain ⟨p, a1, a2, a3, rfl⟩ := fixed_some h2
      obtain ⟨t, q, b1, b2, _, _⟩ := sel_mem h1
      rw [a1] at b2
      injection b2 with b2
      subst b2
      exact (ho i t p b1 a1).core a2
    · exact h2
  have hp := byCore_self hc hr
  unfold dispL
  refine ⟨?_, byCore_nodup hc, ?_, ?_⟩
  · exact ((hp.map _).nodup_iff).2 (asg_tasks hs)
  · intro r hr0
    have hm := (byCore_mem.1 hr0)
    refine ⟨hm.2.1, hm.2.2, ?_⟩
    obtain ⟨i, c, h1, rfl, _⟩ := asg_mem hm.1
    obtain ⟨t, p, b1, b2, _, b4⟩ := sel_mem h1
    refine ⟨t, p, by rw [mkR_task]; exact b1, by rw [mkR_task]; exact b2, b4, ?_⟩
    unfold mkR
    rw [b2]
  · intro r _ p hp h1 h2
    have := he p hp h1
    omega
def mm (m : Mo) : Nat := m.slot * 5 + m.phase
theorem nxt_mm (ts : List Tk) (n : Nat) (m : Mo) (h : m.phase ≤ 5) : mm (nxt ts n m) = mm m + 1 := by
  unfold nxt mm
  split
  · simp only; omega
  · simp only; omega
theorem inv_nxt {ts : List Tk} {n J : Nat} {m : Mo} (h : Inv ts n J m) (hs : m.phase < 5 ∨ m.slot < 100000) : Inv ts n J (nxt ts n m) := by
  unfold nxt
  by_cases hp : m.phase < 5
  · rw [if_pos hp]
    refine ⟨h.len, h.slot, ⟨by simp only; omega, by simp only; omega⟩, h.ok, h.apart, fun h2 => h.early (by simp only at h2; omega), fun h3 => ?_⟩
    simp only at h3 ⊢
    have h2 : m.phase = 2 := by omega
    unfold need
    rw [if_neg (by omega), if_pos h3]
    exact disp_ok h.len h.ok h.apart (h.early (by omega))
  · rw [if_neg hp]
    refine ⟨h.len, by simp only; omega, ⟨by simp only; omega, by simp only; omega⟩, fun i t p a b => (h.ok i t p a b).up (by simp only; omega) (Nat.le_refl _), h.apart, fun _ p hp h1 => ?_, fun h3 => ?_⟩
    · obtain ⟨t, _, ht⟩ := h.ok.at h.len hp
      have := (ht.last h1).2
      simp only
      omega
    · simp only at h3; omega
theorem inv_adv {ts : List Tk} {n J slot phase : Nat} (hs : slot ≤ 100000) : ∀ (k : Nat) (m : Mo), Inv ts n J m → Inv ts n J (adv ts n slot phase k m).2
  | 0, m, h => h
  | k + 1, m, h => by
    rw [adv]
    split
    · split
      · exact h
      · split
        · rename_i h1
          exact inv_adv hs k _ (inv_nxt h (by omega))
        · exact h
    · exact h
/-- Where the way to a phase ends. -/
theorem adv_end {ts : List Tk} {n slot phase : Nat} (hp : 1 ≤ phase ∧ phase ≤ 5) : ∀ (k : Nat) (m : Mo), 1 ≤ m.phase ∧ m.phase ≤ 5 → mm m ≤ slot * 5 + phase → slot * 5 + phase < mm m + k → (adv ts n slot phase k m).1 = 0 → (adv ts n slot phase k m).2.slot = slot ∧ (adv ts n slot phase k m).2.phase = phase
  | 0, m, _, h1, h2, _ => by omega
  | k + 1, m, h0, h1, h2, h3 => by
    rw [adv] at h3 ⊢
    by_cases hc : m.slot < slot ∨ m.phase < phase
    · rw [if_pos hc] at h3 ⊢
      by_cases hr : m.req ≠ []
      · rw [if_pos hr] at h3
        simp at h3
      · rw [if_neg hr] at h3 ⊢
        have hc2 : m.phase < 5 ∨ m.slot < slot := by unfold mm at h1; omega
        rw [if_pos hc2] at h3 ⊢
        have hmm := nxt_mm ts n m h0.2
        refine adv_end hp k _ ?_ ?_ (by omega) h3
        · unfold nxt; split <;> simp only <;> omega
        · rw [hmm]; unfold mm at *; omega
    · rw [if_neg hc]
      unfold mm at h1
      simp only
      omega
theorem adv_req {ts : List Tk} {n slot phase : Nat} : ∀ (k : Nat) (m : Mo), (adv ts n slot phase k m).1 = 0 ∨ ((adv ts n slot phase k m).1 = (adv ts n slot phase k m).2.phase + 2)
  | 0, m => .inl rfl
  | k + 1, m => by
    rw [adv]
    split
    · split
      · exact .inr rfl
      · split
        · exact adv_req k _
        · exact .inl rfl
    · exact .inl rfl
theorem phaseOf_le (k : Nat) : phaseOf k ≤ 5 := by
  unfold phaseOf
  repeat (first | split | omega)
theorem modify_at {ps : List Pr} {i j : Nat} {f : Pr → Pr} {q : Pr} (h : (ps.modify i f)[j]? = some q) : ∃ p, ps[j]? = some p ∧ q = if i = j then f p else p := by
  rw [List.getElem?_modify] at h
  obtain ⟨p, h1, h2⟩ := Option.map_eq_some_iff.1 h
  exact ⟨p, h1, h2.symm⟩
theorem modify_mem {ps : List Pr} {i : Nat} {f : Pr → Pr} {q : Pr} (h : q ∈ ps.modify i f) : q ∈ ps ∨ ∃ p, ps[i]? = some p ∧ q = f p := by
  obtain ⟨j, hj⟩ := List.mem_iff_getElem?.1 h
  obtain ⟨p, h1, h2⟩ := modify_at hj
  by_cases e : i = j
  · rw [if_pos e] at h2
    subst e
    exact .inr ⟨p, h1, h2⟩
  · rw [if_neg e] at h2
    subst h2
    exact .inl (List.mem_of_getElem? h1)
/-- A job that ends: nothing else changes. -/
theorem inv_dead {ts : List Tk} {n J : Nat} {m : Mo} (h : Inv ts n J m) (i : Nat) (l : List Rq) (hl : m.phase = 3 → False) : Inv ts n (J + 1) ⟨m.ps.modify i fun p => ⟨p.jobs, false, p.rel, p.ran, p.last, p.core⟩, m.slot, m.phase, l, m.last⟩ := by
  refine ⟨by simp only [List.length_modify]; exact h.len, h.slot, h.ph, fun j t q a b => ?_, fun a b p q hab ha hb h1 h2 h3 => ?_, fun h2 q hq h1 => ?_, fun h3 => (hl h3).elim⟩
  · obtain ⟨p, h1, rfl⟩ := modify_at b
    have ho := (h.ok j t p a h1).up (Nat.le_refl m.slot) (show J ≤ J + 1 by omega)
    split
    · exact ⟨ho.jobs, ho.rel0, ho.rel1, ho.ran0, ho.ran1, ho.last, ho.core⟩
    · exact ho
  · obtain ⟨p', a1, rfl⟩ := modify_at ha
    obtain ⟨q', b1, rfl⟩ := modify_at hb
    have e1 : (if i = a then (⟨p'.jobs, false, p'.rel, p'.ran, p'.last, p'.core⟩ : Pr) else p').ran = p'.ran ∧ (if i = a then (⟨p'.jobs, false, p'.rel, p'.ran, p'.last, p'.core⟩ : Pr) else p').last = p'.last ∧ (if i = a then (⟨p'.jobs, false, p'.rel, p'.ran, p'.last, p'.core⟩ : Pr) else p').core = p'.core := by split <;> exact ⟨rfl, rfl, rfl⟩
    have e2 : (if i = b then (⟨q'.jobs, false, q'.rel, q'.ran, q'.last, q'.core⟩ : Pr) else q').ran = q'.ran ∧ (if i = b then (⟨q'.jobs, false, q'.rel, q'.ran, q'.last, q'.core⟩ : Pr) else q').last = q'.last ∧ (if i = b then (⟨q'.jobs, false, q'.rel, q'.ran, q'.last, q'.core⟩ : Pr) else q').core = q'.core := by split <;> exact ⟨rfl, rfl, rfl⟩
    rw [e1.1] at h1
    rw [e2.1] at h2
    rw [e1.2.1, e2.2.1] at h3
    rw [e1.2.2, e2.2.2]
    exact h.apart a b p' q' hab a1 b1 h1 h2 h3
  · rcases modify_mem hq with hq | ⟨p, hp, rfl⟩
    · exact h.early h2 q hq h1
    · exact h.early h2 p (List.mem_of_getElem? hp) h1
theorem Inv.up {ts : List Tk} {n J J' : Nat} {m : Mo} (h : Inv ts n J m) (hJ : J ≤ J') : Inv ts n J' m :=
  ⟨h.len, h.slot, h.ph, fun i t p a b => (h.ok i t p a b).up (Nat.le_refl _) hJ, h.apart, h.early, h.disp⟩
theorem inv_follow {ts : List Tk} {n J : Nat} {m : Mo} {e : Ev} (h : Inv ts n J m) (hok : ∀ t ∈ ts, SL.okTk t = true) (h0 : 0 ≤ e.task) (hph : phaseOf e.kind = m.phase) (ha : admits ts m.phase m e = true) : Inv ts n (J + 1) (follow m e) := by
  unfold follow
  split
  · rename_i hk
    have h2 : m.phase = 2 := by rw [← hph, hk]; rfl
    refine ⟨by simp only [List.length_modify]; exact h.len, h.slot, h.ph, fun j t q a b => ?_, fun a b p q hab ha hb h1 h2 h3 => ?_, fun _ q hq h1 => ?_, fun h3 => by simp only at h3; omega⟩
    · obtain ⟨p, h1, rfl⟩ := modify_at b
      have ho := (h.ok j t p a h1).up (Nat.le_refl m.slot) (show J ≤ J + 1 by omega)
      obtain ⟨v1, v2, v3⟩ := SL.okTk_iff.1 (hok t (List.mem_of_getElem? a))
      split
      · have hj := (h.ok j t p a h1).jobs
        exact ⟨by simp only; omega, by simp only; omega, by simp only; omega, by simp only; omega, by simp only; omega, fun h => by simp only at h; omega, fun h => by simp only at h; omega⟩
      · exact ho
    · obtain ⟨p', a1, rfl⟩ := modify_at ha
      obtain ⟨q', b1, rfl⟩ := modify_at hb
      by_cases e1 : e.task.toNat = a
      · rw [if_pos e1] at h1; simp at h1
      · by_cases e2 : e.task.toNat = b
        · rw [if_pos e2] at h2; simp at h2
        · rw [if_neg e1] at h1 h3 ⊢
          rw [if_neg e2] at h2 h3 ⊢
          exact h.apart a b p' q' hab a1 b1 h1 h2 h3
    · rcases modify_mem hq with hq | ⟨p, hp, rfl⟩
      · exact h.early (by omega) q hq h1
      · simp at h1
  · split
    · rename_i hk1 hk
      have h3 : m.phase = 3 := by rw [← hph, hk]; rfl
      have hrq := h.disp h3
      unfold admits at ha
      rw [if_neg (by omega), if_neg (by omega)] at ha
      unfold nextB at ha
      cases hreq : m.req with
      | nil => rw [hreq] at ha; simp at ha
      | cons r rest =>
        rw [hreq] at ha hrq
        simp only [Bool.and_eq_true, decide_eq_true_eq] at ha
        obtain ⟨⟨⟨a1, a2⟩, a3⟩, a4⟩ := ha
        obtain ⟨c0, c1, t0, p0, b1, b2, b3, b4⟩ := hrq.one r (by simp)
        have htk : e.task.toNat = r.task := by omega
        rw [htk]
        have hc := hrq.cores
        have htn := hrq.tasks
        rw [List.map_cons, List.nodup_cons] at hc htn
        refine ⟨by simp only [List.length_modify]; exact h.len, h.slot, h.ph, fun j t q a b => ?_, fun a b p q hab hpa hqb h1 h2 h4 => ?_, fun h2 => by simp only at h2; omega, fun _ => ?_⟩
        · obtain ⟨p, h1, rfl⟩ := modify_at b
          have ho := (h.ok j t p a h1).up (Nat.le_refl m.slot) (show J ≤ J + 1 by omega)
          split
          · rename_i hij
            subst hij
            rw [b1] at a; injection a with a; subst a
            rw [b2] at h1; injection h1 with h1; subst h1
            have := ho.ran0
            exact ⟨ho.jobs, ho.rel0, ho.rel1, by simp only; omega, by simp only; omega, fun _ => ⟨by simp only; omega, by simp only; omega⟩, fun _ => ⟨by simp only; omega, by simp only; omega⟩⟩
          · exact ho
        · obtain ⟨p', d1, rfl⟩ := modify_at hpa
          obtain ⟨q', d2, rfl⟩ := modify_at hqb
          by_cases e1 : r.task = a
          · have e2 : ¬ r.task = b := fun x => hab (e1 ▸ x)
            rw [if_pos e1] at h4 ⊢
            rw [if_neg e2] at h2 h4 ⊢
            simp only at h4 ⊢
            rw [a3]
            exact fun x => hrq.far r (by simp) q' (List.mem_of_getElem? d2) h2 h4.symm x.symm
          · rw [if_neg e1] at h1 h4 ⊢
            by_cases e2 : r.task = b
            · rw [if_pos e2] at h4 ⊢
              simp only at h4 ⊢
              rw [a3]
              exact hrq.far r (by simp) p' (List.mem_of_getElem? d1) h1 h4
            · rw [if_neg e2] at h2 h4 ⊢
              exact h.apart a b p' q' hab d1 d2 h1 h2 h4
        · simp only [List.tail_cons]
          refine ⟨htn.2, hc.2, fun r' hr' => ?_, fun r' hr' p hp h1 h2 => ?_⟩
          · obtain ⟨x0, x1, t', p', y1, y2, y3, y4⟩ := hrq.one r' (by simp [hr'])
            have hne : ¬ r.task = r'.task := fun x => htn.1 (List.mem_map.2 ⟨r', hr', x.symm⟩)
            refine ⟨x0, x1, t', p', y1, ?_, y3, y4⟩
            rw [List.getElem?_modify, y2]
            simp [hne]
          · rcases modify_mem hp with hp | ⟨p', hp', rfl⟩
            · exact hrq.far r' (by simp [hr']) p hp h1 h2
            · simp only
              rw [a3]
              exact fun x => hc.1 (List.mem_map.2 ⟨r', hr', x.symm⟩)
    · split
      · rename_i hk
        refine inv_dead h _ _ ?_
        intro h3
        rw [← hph] at h3
        rcases hk with hk | hk <;> rw [hk] at h3 <;> exact absurd h3 (by decide)
      · split
        · rename_i hk
          refine inv_dead h _ _ ?_
          intro h3
          rw [← hph] at h3
          rcases hk with hk | hk <;> rw [hk] at h3 <;> exact absurd h3 (by decide)
        · exact h.up (by omega)
end Go.Proofs.YtpmbhdheeaejgaaGreatDoor.AU
