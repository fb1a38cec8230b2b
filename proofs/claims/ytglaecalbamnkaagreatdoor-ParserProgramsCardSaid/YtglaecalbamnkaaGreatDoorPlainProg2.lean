/- Plain facts for one round of the loop over tasks of the reference's Program. -/
import Derived.Test.YtglaecalbamnkaaGreatDoorRdQ
import Derived.Test.YtglaecalbamnkaaGreatDoorPlainProg
namespace Go.Proofs.YtglaecalbamnkaaGreatDoor
namespace PP
variable (E : Env)
theorem sees_more {σ : St} {t : List UInt8} (hs : sees E σ t = true) : more E σ = true := by
  unfold sees at hs; simp only [Bool.and_eq_true] at hs; exact hs.1
theorem taskQ_err {σ : St} (he : σ.err ≠ 0) {n : Nat} {r : St × TaskD} (h : taskQ E n σ = some r) : r.1 = σ := by
  have h1 : (nameP E σ).1 = σ := (le_nameP E σ).2 he
  have h2 : require E σ kwPeriod = σ := (le_require E _ _).2 he
  have h3 : (numP E σ 1 1000).1 = σ := (le_numP E σ 1 1000).2 he
  have h4 : require E σ [123] = σ := (le_require E _ _).2 he
  have h5 : require E σ [125] = σ := (le_require E _ _).2 he
  unfold taskQ at h
  simp only [] at h
  rw [h1, h2, h3, h4] at h
  cases n with
  | zero => simp [decls] at h
  | succ n =>
    rw [decls_stop E he] at h
    simp only [Option.bind_some] at h
    rw [stmts_stop E he] at h
    simp only [Option.map_some] at h
    rw [h5, show limitP (.node 47 0 [] []) (here E σ) σ = σ by unfold limitP; rw [if_neg he]] at h
    rw [← Option.some.inj h]
/-- A list stops where its keyword is not seen. -/
theorem tasks_at {σ0 σ3 σ' : St} {ar : List ArrD} {acc : List TaskD} {na : Nat} (h1 : listP E kwShared 4 (fun _ σ => some (arrayP E σ)) na σ0 [] = some (σ3, ar))
    (hgo : ∀ n r, listP E kwTask 8 (taskP E) n σ' acc = some r → ∃ n', listP E kwTask 8 (taskP E) n' σ3 [] = some r) (hs : sees E σ' kwTask = false) :
    ∃ n, programP E n σ0 = some (if more E σ' then reject E σ' else σ', ⟨ar, acc⟩) := by
  obtain ⟨n', hn'⟩ := hgo 1 (σ', acc) (listP_none E _ _ _ hs 0 acc)
  exact ⟨_, programP_mk E h1 hn'⟩
/-- One round of the reference's loop over tasks. -/
theorem task_step {σ0 σ3 σ' σ5 : St} {ar : List ArrD} {acc : List TaskD} {na n : Nat} {td : TaskD} (h1 : listP E kwShared 4 (fun _ σ => some (arrayP E σ)) na σ0 [] = some (σ3, ar))
    (hgo : ∀ n r, listP E kwTask 8 (taskP E) n σ' acc = some r → ∃ n', listP E kwTask 8 (taskP E) n' σ3 [] = some r) (hm : more E σ' = true)
    (hl : acc.length < 8 ∨ sees E σ' kwTask = false) (ht : taskQ E n (require E σ' kwTask) = some (σ5, td)) :
    (σ5.err = 0 → acc.length < 8 ∧ ∀ n r, listP E kwTask 8 (taskP E) n σ5 (acc ++ [td]) = some r → ∃ n', listP E kwTask 8 (taskP E) n' σ3 [] = some r) ∧
    (σ5.err ≠ 0 → ∃ n q, programP E n σ0 = some q ∧ q.1.err = σ5.err ∧ q.1.off = σ5.off) := by
  cases hs : sees E σ' kwTask with
  | false =>
    have hr : require E σ' kwTask = reject E σ' := by unfold require; rw [hs]; rfl
    have h5 : σ5 = reject E σ' := by
      have := taskQ_err E (by rw [hr]; exact reject_err E σ') ht
      rw [hr] at this; exact this
    refine ⟨fun he => absurd he (by rw [h5]; exact reject_err E σ'), fun _ => ?_⟩
    obtain ⟨m, hp⟩ := tasks_at E h1 hgo hs
    rw [hm] at hp
    exact ⟨m, _, hp, by rw [h5]; rfl, by rw [h5]; rfl⟩
  | true =>
    have hl8 : acc.length < 8 := hl.resolve_right (by rw [hs]; simp)
    have hr : require E σ' kwTask = adv σ' := by unfold require; rw [hs]; rfl
    rw [hr] at ht
    have hone : ∀ m r, listP E kwTask 8 (taskP E) m σ5 (acc ++ [td]) = some r → ∃ n', listP E kwTask 8 (taskP E) n' σ3 [] = some r := by
      intro m r hm2
      refine hgo (max n m + 1) r ?_
      rw [listP, hs]
      simp only [if_true]
      rw [if_neg (by omega), taskP_le E (Nat.le_max_left n m) (show taskP E n σ' = some (σ5, td) from ht), Option.bind_some]
      exact listP_le E (fun n σ r hh => taskP_le E (Nat.le_succ n) hh) (Nat.le_max_right n m) hm2
    refine ⟨fun _ => ⟨hl8, hone⟩, fun he => ?_⟩
    obtain ⟨n', hn'⟩ := hone 1 _ (listP_stop E kwTask 8 (taskP E) he 0 _)
    have hp := programP_mk E h1 hn'
    rw [show more E σ5 = false by simp [more, he]] at hp
    exact ⟨_, _, hp, rfl, rfl⟩
/-- The tree of a task is a block. -/
theorem taskQ_node {σ σ5 : St} {n : Nat} {td : TaskD} (h : taskQ E n σ = some (σ5, td)) {nm : List UInt8} {per num : Int} {vs : List (List UInt8)} {ar : List ArrD} {k : Nat} {bn : List UInt8} {kids : List Tree} (ht : td = ⟨nm, per, vs, ar, .node k num bn kids⟩) : k = 47 ∧ num = 0 ∧ bn = [] := by
  unfold taskQ at h
  simp only [] at h
  obtain ⟨d, _, h⟩ := Option.bind_eq_some_iff.1 h
  obtain ⟨r, _, h⟩ := Option.map_eq_some_iff.1 h
  have h2 : (⟨_, _, _, _, .node 47 0 [] r.2⟩ : TaskD) = td := (Prod.mk.inj h).2
  rw [ht] at h2
  have h3 := congrArg TaskD.body h2
  simp only [Tree.node.injEq] at h3
  exact ⟨h3.1.symm, h3.2.1.symm, h3.2.2.1.symm⟩
theorem task_next {σ σ5 : St} {n : Nat} {td : TaskD} (h : taskQ E n (require E σ kwTask) = some (σ5, td)) (hn : σ5.err ≠ 0 ∨ (require E σ kwTask).next ≤ σ5.next) : σ5.err ≠ 0 ∨ σ.next < σ5.next := by
  cases hs : sees E σ kwTask with
  | false =>
    have hr : require E σ kwTask = reject E σ := by unfold require; rw [hs]; rfl
    have := taskQ_err E (by rw [hr]; exact reject_err E σ) h
    rw [hr] at this
    exact .inl (by rw [show σ5 = reject E σ from this]; exact reject_err E σ)
  | true =>
    have hr : require E σ kwTask = adv σ := by unfold require; rw [hs]; rfl
    rw [hr] at hn
    exact hn.imp id (fun h => Nat.lt_of_succ_le h)
end PP
end Go.Proofs.YtglaecalbamnkaaGreatDoor
