/- Plain facts for the reference's Program: what lists and tasks do from an error on, and where a list is full. -/
import Derived.Test.YtglaecalbamnkaaGreatDoorPlainParts
namespace Go.Proofs.YtglaecalbamnkaaGreatDoor
namespace PP
variable (E : Env)
theorem sees_bad {σ : St} (he : σ.err ≠ 0) (t : List UInt8) : sees E σ t = false := by
  unfold sees more; simp [he]
theorem listP_stop {α : Type} (kw : List UInt8) (lim : Nat) (one : Nat → St → Option (St × α)) {σ : St} (he : σ.err ≠ 0) (n : Nat) (acc : List α) : listP E kw lim one (n + 1) σ acc = some (σ, acc) := by
  rw [listP, sees_bad E he]; rfl
theorem listP_none {α : Type} (kw : List UInt8) (lim : Nat) (one : Nat → St → Option (St × α)) {σ : St} (hs : sees E σ kw = false) (n : Nat) (acc : List α) : listP E kw lim one (n + 1) σ acc = some (σ, acc) := by
  rw [listP, hs]; rfl
theorem arrayP_err {σ : St} (he : σ.err ≠ 0) : (arrayP E σ).1.err ≠ 0 ∧ (arrayP E σ).1.off = σ.off ∧ (arrayP E σ).1.err = σ.err := by
  have h0 : (adv σ).err ≠ 0 := he
  have h1 : (nameP E (adv σ)).1 = adv σ := (le_nameP E (adv σ)).2 h0
  have h2 : require E (adv σ) [91] = adv σ := (le_require E _ _).2 h0
  have h3 : (numP E (adv σ) 1 32).1 = adv σ := (le_numP E (adv σ) 1 32).2 h0
  have h4 : require E (adv σ) [93] = adv σ := (le_require E _ _).2 h0
  have h5 : require E (adv σ) [59] = adv σ := (le_require E _ _).2 h0
  have h6 : (arrayP E σ).1 = adv σ := by
    unfold arrayP; simp only []; rw [h1, h2, h3, h4, h5]
  rw [h6]
  exact ⟨h0, rfl, rfl⟩
theorem taskP_err {σ : St} (he : σ.err ≠ 0) (n : Nat) : ∃ td, taskP E (n + 1) σ = some (adv σ, td) := by
  have h0 : (adv σ).err ≠ 0 := he
  have h1 : (nameP E (adv σ)).1 = adv σ := (le_nameP E (adv σ)).2 h0
  have h2 : require E (adv σ) kwPeriod = adv σ := (le_require E _ _).2 h0
  have h3 : (numP E (adv σ) 1 1000).1 = adv σ := (le_numP E (adv σ) 1 1000).2 h0
  have h4 : require E (adv σ) [123] = adv σ := (le_require E _ _).2 h0
  have h5 : require E (adv σ) [125] = adv σ := (le_require E _ _).2 h0
  have hd : decls E (n + 1) (adv σ) [] [] = some (adv σ, [], []) := by
    rw [decls, sees_bad E h0, sees_bad E h0]; rfl
  have hs : stmts E (n + 1) false (adv σ) [] = some (adv σ, []) := by
    rw [stmts, show goes E false (adv σ) = false by unfold goes more; simp [h0]]; rfl
  refine ⟨⟨(nameP E (adv σ)).2, (numP E (adv σ) 1 1000).2, [], [], .node 47 0 [] []⟩, ?_⟩
  unfold taskP
  simp only []
  rw [h1, h2, h3, h4, hd]
  simp only [Option.bind_some]
  rw [hs]
  simp only [Option.map_some]
  rw [h5, show limitP (.node 47 0 [] []) (here E (adv σ)) (adv σ) = adv σ by unfold limitP; rw [if_neg h0]]
/-- A fifth shared array. -/
theorem shared_full {σ : St} {acc : List ArrD} (hs : sees E σ kwShared = true) (hl : acc.length = 4) : ∃ σ3 ar, (∀ n, listP E kwShared 4 (fun _ σ => some (arrayP E σ)) (n + 2) σ acc = some (σ3, ar)) ∧ σ3.err = 5 ∧ σ3.off = here E σ := by
  obtain ⟨h0, _⟩ := sees_err E hs
  have hf : fail σ (here E σ) 5 = ⟨σ.next, here E σ, 5⟩ := by unfold fail; rw [if_pos h0]
  obtain ⟨k1, k2, k3⟩ := arrayP_err E (σ := fail σ (here E σ) 5) (by rw [hf]; simp)
  refine ⟨(arrayP E (fail σ (here E σ) 5)).1, acc ++ [(arrayP E (fail σ (here E σ) 5)).2], fun n => ?_, k3.trans (by rw [hf]), k2.trans (by rw [hf])⟩
  rw [listP, hs]
  simp only [if_true]
  rw [if_pos (by omega)]
  simp only [Option.bind_some]
  exact listP_stop E _ _ _ k1 n _
/-- A ninth task. -/
theorem tasks_full {σ : St} {acc : List TaskD} (hs : sees E σ kwTask = true) (hl : acc.length = 8) : ∃ σ3, σ3.err = 5 ∧ σ3.off = here E σ ∧ ∀ n, ∃ ts, listP E kwTask 8 (taskP E) (n + 2) σ acc = some (σ3, ts) := by
  obtain ⟨h0, _⟩ := sees_err E hs
  have hf : fail σ (here E σ) 5 = ⟨σ.next, here E σ, 5⟩ := by unfold fail; rw [if_pos h0]
  have hb : (fail σ (here E σ) 5).err ≠ 0 := by rw [hf]; simp
  refine ⟨adv (fail σ (here E σ) 5), by rw [hf]; rfl, by rw [hf]; rfl, fun n => ?_⟩
  obtain ⟨td, htd⟩ := taskP_err E hb n
  refine ⟨acc ++ [td], ?_⟩
  rw [listP, hs]
  simp only [if_true]
  rw [if_pos (by omega), htd]
  simp only [Option.bind_some]
  exact listP_stop E _ _ _ (σ := adv (fail σ (here E σ) 5)) hb n _
theorem programP_mk {na nt : Nat} {σ σ3 σ6 : St} {ar : List ArrD} {ts : List TaskD} (h1 : listP E kwShared 4 (fun _ σ => some (arrayP E σ)) na σ [] = some (σ3, ar)) (h2 : listP E kwTask 8 (taskP E) nt σ3 [] = some (σ6, ts)) :
    programP E (max na nt) σ = some (if more E σ6 then reject E σ6 else σ6, ⟨ar, ts⟩) := by
  unfold programP
  have e1 := listP_le E (one := fun _ σ => some (arrayP E σ)) (fun _ _ _ h => h) (Nat.le_max_left na nt) h1
  have e2 := listP_le E (one := taskP E) (fun n σ r hh => taskP_le E (Nat.le_succ n) hh) (Nat.le_max_right na nt) h2
  rw [e1, Option.bind_some]
  simp only []
  rw [e2]; rfl
end PP
end Go.Proofs.YtglaecalbamnkaaGreatDoor
