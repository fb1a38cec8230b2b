/- The parser's plain functions: where there is no error, the program is valid. -/
import Derived.Test.YtkeehpgnljieeaaDoorKA
namespace Go.Proofs.YtkeehpgnljieeaaDoor.PP
open PL
structure Form where
  name : Bool
  low : Int
  high : Int
  kids : List UInt8
def formOf (k : Nat) : Form :=
  if k = 1 then ⟨false, 0, 2147483647, []⟩
  else if k = 2 then ⟨true, 0, 0, []⟩
  else if k = 3 then ⟨true, 0, 0, [101]⟩
  else if k = 4 ∨ k = 5 then ⟨false, 0, 0, [101]⟩
  else if k = 40 then ⟨false, 0, 0, [112, 101]⟩
  else if k = 41 then ⟨false, 0, 0, [101, 98, 98]⟩
  else if k = 42 then ⟨true, 1, 1000, [98]⟩
  else if k = 43 then ⟨false, 1, 1000, [101, 98]⟩
  else if k = 44 then ⟨false, 0, 7, [112]⟩
  else if k = 45 then ⟨false, 0, 7, [101]⟩
  else if k = 46 then ⟨true, 0, 0, [98]⟩
  else ⟨false, 0, 0, [101, 101]⟩
def belongs (k c : Nat) : Bool :=
  if c = 101 then decide (1 ≤ k) && decide (k ≤ 23)
  else if c = 112 then k == 2 || k == 3
  else if c = 115 then decide (40 ≤ k) && decide (k < 47)
  else k == 47
mutual
def okT : Tree → Nat → Bool
  | .node k num nm kids, c => belongs k c && (if k = 47 then num == 0 && nm == [] && okS kids
      else !(decide (num < (formOf k).low) || decide ((formOf k).high < num) || !(kids.length == (formOf k).kids.length)) && (if (formOf k).name then isName nm else nm == []) && okZ kids (formOf k).kids)
def okS : List Tree → Bool
  | [] => true
  | t :: ts => okT t 115 && okS ts
def okZ : List Tree → List UInt8 → Bool
  | t :: ts, c :: cs => okT t c.toNat && okZ ts cs
  | _, _ => true
end
def okArr (a : ArrD) : Bool := isName a.name && !decide (a.len < 1) && !decide (32 < a.len)
def okTask (t : TaskD) : Bool :=
  isName t.name && !decide (t.period < 1) && !decide (1000 < t.period) && decide (t.vars.length ≤ 12) && decide (t.arrays.length ≤ 4) && t.arrays.all okArr && t.vars.all isName && !large t.body && okT t.body 98
def okProg (p : ProgD) : Bool := decide (p.shared.length ≤ 4) && decide (p.tasks.length ≤ 8) && p.shared.all okArr && p.tasks.all okTask
theorem okT_place {t : Tree} (h : okT t 112 = true) : okT t 101 = true := by
  cases t with
  | node k num nm kids =>
    simp only [okT, Bool.and_eq_true] at h ⊢
    refine ⟨?_, h.2⟩
    have := h.1
    unfold belongs at this ⊢
    simp at this ⊢
    omega
theorem okS_app (l m : List Tree) : okS (l ++ m) = (okS l && okS m) := by
  induction l with
  | nil => simp [okS]
  | cons a l ih => simp only [List.cons_append, okS, ih, Bool.and_assoc]
section
variable (E : Env)
theorem opOf_range {T : List UInt8} {op : Nat} (h : opOf T = some op) : 6 ≤ op ∧ op < 24 := by
  unfold opOf at h
  obtain ⟨i, hi, h2⟩ := List.exists_of_findSome?_eq_some h
  simp only [List.mem_range] at hi
  split at h2
  · injection h2 with h2; omega
  · cases h2
theorem numP_range {σ : St} {lo hi : Int} (h : (numP E σ lo hi).1.err = 0) : lo ≤ (numP E σ lo hi).2 ∧ (numP E σ lo hi).2 ≤ hi := by
  unfold numP at h ⊢
  split
  · rename_i c
    rw [if_pos c] at h
    dsimp only at h ⊢
    split
    · rename_i d; rw [if_pos d] at h; exact absurd h (fail_err (by decide))
    · rename_i d; dsimp only; omega
  · rename_i c
    rw [if_neg c] at h
    exact absurd h (reject_err E σ)
theorem nameP_name {σ : St} (h : (nameP E σ).1.err = 0) : isName (nameP E σ).2 = true := by
  unfold nameP at h ⊢
  split
  · rename_i c; rw [Bool.and_eq_true] at c; exact c.2
  · rename_i c
    rw [if_neg c] at h
    exact absurd h (reject_err E σ)
theorem expr_valid : ∀ (n : Nat), (∀ σ r, unary E n σ = some r → r.1.err = 0 → okT r.2 101 = true) ∧ (∀ σ r, primary E n σ = some r → r.1.err = 0 → okT r.2 101 = true) ∧ (∀ σ r, place E n σ = some r → r.1.err = 0 → okT r.2 112 = true) ∧
    (∀ l σ r, binary E n l σ = some r → r.1.err = 0 → okT r.2 101 = true) ∧ (∀ l σ t r, binLoop E n l σ t = some r → r.1.err = 0 → okT t 101 = true → okT r.2 101 = true)
  | 0 => ⟨fun _ _ h => by simp [unary] at h, fun _ _ h => by simp [primary] at h, fun _ _ h => by simp [place] at h, fun _ _ _ h => by simp [binary] at h, fun _ _ _ _ h => by simp [binLoop] at h⟩
  | n + 1 => by
    obtain ⟨hu, hp, hpl, hb, hl⟩ := expr_valid n
    refine ⟨fun σ r h he => ?_, fun σ r h he => ?_, fun σ r h he => ?_, fun l σ r h he => ?_, fun l σ t r h he ht => ?_⟩
    · rw [unary] at h
      split at h
      · obtain ⟨x, hx, rfl⟩ := Option.map_eq_some_iff.1 h
        have := hu _ _ hx he
        simp [okT, okZ, belongs, formOf, this]
      · split at h
        · obtain ⟨x, hx, rfl⟩ := Option.map_eq_some_iff.1 h
          have := hu _ _ hx he
          simp [okT, okZ, belongs, formOf, this]
        · exact hp _ _ h he
    · rw [primary] at h
      split at h
      · obtain ⟨x, hx, rfl⟩ := Option.map_eq_some_iff.1 h
        exact hb _ _ x hx (ok_back (le_require E x.1 [41]) he)
      · split at h
        · injection h with h; subst h
          have := numP_range E he
          simp [okT, okZ, belongs, formOf]; omega
        · exact okT_place (hpl _ _ h he)
    · rw [place] at h
      split at h
      · rename_i c
        obtain ⟨x, hx, rfl⟩ := Option.map_eq_some_iff.1 h
        have h1 := hb _ _ _ hx (ok_back (le_require E x.1 [93]) he)
        have h2 := nameP_name E (sees_err E c).1
        simp [okT, okZ, belongs, formOf, h1, h2]
      · injection h with h; subst h
        have := nameP_name E he
        simp [okT, okZ, belongs, formOf, this]
    · rw [binary] at h
      obtain ⟨x, hx, hr⟩ := Option.bind_eq_some_iff.1 h
      exact hl _ _ _ _ hr he (hu _ _ hx (ok_back ((expr_le E n).2.2.2.2 _ _ _ _ hr) he))
    · rw [binLoop] at h
      split at h
      · split at h
        · rename_i op ho
          split at h
          · injection h with h; subst h; exact ht
          · obtain ⟨x, hx, hr⟩ := Option.bind_eq_some_iff.1 h
            have h2 := hb _ _ _ hx (ok_back ((expr_le E n).2.2.2.2 _ _ _ _ hr) he)
            obtain ⟨o1, o2⟩ := opOf_range ho
            refine hl _ _ _ _ hr he ?_
            have hf : formOf op = ⟨false, 0, 0, [101, 101]⟩ := by
              unfold formOf
              rw [if_neg (by omega), if_neg (by omega), if_neg (by omega), if_neg (by omega), if_neg (by omega), if_neg (by omega), if_neg (by omega), if_neg (by omega), if_neg (by omega), if_neg (by omega), if_neg (by omega)]
            have hn : ¬ op = 47 := by omega
            simp [okT, okZ, belongs, hf, hn, ht, h2]; omega
        · injection h with h; subst h; exact ht
      · injection h with h; subst h; exact ht
theorem transfer_ok {kind : Nat} {t : Tree} {σ : St} (h : (transfer E kind t σ).1.err = 0) : ∃ v : Int, 0 ≤ v ∧ v ≤ 7 ∧ (transfer E kind t σ).2 = .node kind v [] [t] := by
  unfold transfer at h ⊢
  have := numP_range E (ok_back (le_require E _ [59]) h)
  exact ⟨_, this.1, this.2, rfl⟩
theorem stmt_valid : ∀ (n : Nat), (∀ top σ acc r, stmts E n top σ acc = some r → r.1.err = 0 → okS acc = true → okS r.2 = true) ∧ (∀ σ r, block E n σ = some r → r.1.err = 0 → okT r.2 98 = true) ∧
    (∀ σ r, choice E n σ = some r → r.1.err = 0 → okT r.2 115 = true) ∧ (∀ σ r, statement E n σ = some r → r.1.err = 0 → okT r.2 115 = true)
  | 0 => ⟨fun _ _ _ _ h => by simp [stmts] at h, fun _ _ h => by simp [block] at h, fun _ _ h => by simp [choice] at h, fun _ _ h => by simp [statement] at h⟩
  | n + 1 => by
    obtain ⟨hs, hb, hc, ht⟩ := stmt_valid n
    have hbs : ∀ l σ r, binary E n l σ = some r → r.1.err = 0 → okT r.2 101 = true := (expr_valid E n).2.2.2.1
    have hps : ∀ σ r, place E n σ = some r → r.1.err = 0 → okT r.2 112 = true := (expr_valid E n).2.2.1
    have kb : ∀ σ r, block E n σ = some r → Le σ r.1 := (stmt_le E n).2.1
    have ke : ∀ l σ r, binary E n l σ = some r → Le σ r.1 := (expr_le E n).2.2.2.1
    refine ⟨fun top σ acc r h he ha => ?_, fun σ r h he => ?_, fun σ r h he => ?_, fun σ r h he => ?_⟩
    · rw [stmts] at h
      split at h
      · obtain ⟨x, hx, hr⟩ := Option.bind_eq_some_iff.1 h
        have h2 := ht _ _ hx (ok_back ((stmt_le E n).1 _ _ _ _ hr) he)
        exact hs _ _ _ _ hr he (by rw [okS_app, ha]; simp [okS, h2])
      · injection h with h; subst h; exact ha
    · rw [block] at h
      obtain ⟨x, hx, rfl⟩ := Option.map_eq_some_iff.1 h
      have h1 := hs _ _ _ _ hx (ok_back (le_require E x.1 [125]) he) rfl
      simp [okT, belongs, h1]
    · rw [choice] at h
      obtain ⟨x, hx, h⟩ := Option.bind_eq_some_iff.1 h
      obtain ⟨y, hy, h⟩ := Option.bind_eq_some_iff.1 h
      obtain ⟨z, hz, rfl⟩ := Option.map_eq_some_iff.1 h
      have e1 := ok_back (kb _ z hz) he
      have e2 := ok_back (le_require E y.1 _) e1
      have e3 := ok_back (kb _ y hy) e2
      have h1 := hbs _ _ x hx e3
      have h2 := hb _ y hy e2
      have h3 := hb _ z hz he
      simp [okT, okZ, belongs, formOf, h1, h2, h3]
    · rw [statement] at h
      by_cases c1 : sees E σ [105, 102] = true
      · rw [if_pos c1] at h
        exact hc _ _ h he
      rw [if_neg c1] at h
      by_cases c2 : sees E σ [102, 111, 114] = true
      · rw [if_pos c2] at h
        obtain ⟨z, hz, rfl⟩ := Option.map_eq_some_iff.1 h
        have e1 := ok_back (kb _ z hz) he
        have h1 := hb _ z hz he
        have h2 := numP_range E e1
        have h3 := nameP_name E (ok_back (le_require E _ [60]) (ok_back (le_numP E _ 1 1000) e1))
        simp [okT, okZ, belongs, formOf, h1, h3]; omega
      rw [if_neg c2] at h
      by_cases c3 : sees E σ [119, 104, 105, 108, 101] = true
      · rw [if_pos c3] at h
        obtain ⟨x, hx, h⟩ := Option.bind_eq_some_iff.1 h
        obtain ⟨z, hz, rfl⟩ := Option.map_eq_some_iff.1 h
        have e1 := ok_back (kb _ z hz) he
        have e2 := ok_back (le_numP E _ _ _) e1
        have e3 := ok_back (le_require E _ _) e2
        have h1 := hbs _ _ x hx e3
        have h2 := hb _ z hz he
        have h3 := numP_range E e1
        simp [okT, okZ, belongs, formOf, h1, h2]; omega
      rw [if_neg c3] at h
      by_cases c4 : sees E σ [105, 110] = true
      · rw [if_pos c4] at h
        obtain ⟨z, hz, rfl⟩ := Option.map_eq_some_iff.1 h
        have e1 := ok_back (le_transfer E 44 z.2 z.1) he
        have h1 := hps _ z hz e1
        obtain ⟨v, v1, v2, hv⟩ := transfer_ok E he
        rw [hv]
        simp [okT, okZ, belongs, formOf, h1]; omega
      rw [if_neg c4] at h
      by_cases c5 : sees E σ [111, 117, 116] = true
      · rw [if_pos c5] at h
        obtain ⟨z, hz, rfl⟩ := Option.map_eq_some_iff.1 h
        have e1 := ok_back (le_transfer E 45 z.2 z.1) he
        have h1 := hbs _ _ z hz e1
        obtain ⟨v, v1, v2, hv⟩ := transfer_ok E he
        rw [hv]
        simp [okT, okZ, belongs, formOf, h1]; omega
      rw [if_neg c5] at h
      by_cases c6 : sees E σ [108, 111, 99, 107] = true
      · rw [if_pos c6] at h
        obtain ⟨z, hz, rfl⟩ := Option.map_eq_some_iff.1 h
        have h1 := hb _ z hz he
        have h2 := nameP_name E (ok_back (kb _ z hz) he)
        simp [okT, okZ, belongs, formOf, h1, h2]
      rw [if_neg c6] at h
      obtain ⟨x, hx, h⟩ := Option.bind_eq_some_iff.1 h
      obtain ⟨z, hz, rfl⟩ := Option.map_eq_some_iff.1 h
      have e1 := ok_back (le_require E z.1 [59]) he
      have e2 := ok_back (ke _ _ z hz) e1
      have e3 := ok_back (le_require E x.1 [61]) e2
      have h1 := hps _ x hx e3
      have h2 := hbs _ _ z hz e1
      simp [okT, okZ, belongs, formOf, h1, h2]
theorem array_valid {σ : St} (h : (arrayP E σ).1.err = 0) : σ.err = 0 ∧ okArr (arrayP E σ).2 = true := by
  unfold arrayP at h ⊢
  dsimp only at h ⊢
  have e1 := ok_back (le_require E _ [93]) (ok_back (le_require E _ [59]) h)
  have e2 := ok_back (le_require E _ [91]) (ok_back (le_numP E _ 1 32) e1)
  have e3 := ok_back (le_nameP E (adv σ)) e2
  have h1 := numP_range E e1
  have h2 := nameP_name E e2
  refine ⟨e3, ?_⟩
  simp [okArr, h2]; omega
theorem variable_valid {σ : St} (h : (variableP E σ).1.err = 0) : σ.err = 0 ∧ isName (variableP E σ).2 = true := by
  unfold variableP at h ⊢
  dsimp only at h ⊢
  have e2 := ok_back (le_require E _ [59]) h
  have e3 := ok_back (le_nameP E (adv σ)) e2
  exact ⟨e3, nameP_name E e2⟩
def okDecls (vs : List (List UInt8)) (ar : List ArrD) : Prop := vs.length ≤ 12 ∧ ar.length ≤ 4 ∧ vs.all isName = true ∧ ar.all okArr = true
theorem decls_valid : ∀ (n : Nat) σ vs ar r, decls E n σ vs ar = some r → r.1.err = 0 → σ.err = 0 ∧ (okDecls vs ar → okDecls r.2.1 r.2.2)
  | 0, _, _, _, _, h, _ => by simp [decls] at h
  | n + 1, σ, vs, ar, r, h, he => by
    rw [decls] at h
    split at h
    · split at h
      · rename_i c
        obtain ⟨h1, h2⟩ := decls_valid n _ _ _ _ h he
        obtain ⟨h3, h4⟩ := array_valid E h1
        rw [Bool.and_eq_true, decide_eq_true_iff] at c
        refine ⟨h3, fun hd => h2 ⟨hd.1, by simp; omega, hd.2.2.1, by rw [List.all_append, hd.2.2.2]; simp [h4]⟩⟩
      · split at h
        · rename_i c
          obtain ⟨h1, h2⟩ := decls_valid n _ _ _ _ h he
          obtain ⟨h3, h4⟩ := variable_valid E h1
          rw [Bool.and_eq_true, decide_eq_true_iff] at c
          refine ⟨h3, fun hd => h2 ⟨by simp; omega, hd.2.1, by rw [List.all_append, hd.2.2.1]; simp [h4], hd.2.2.2⟩⟩
        · obtain ⟨h1, _⟩ := decls_valid n _ _ _ _ h he
          exact absurd h1 (fail_err (by decide))
    · injection h with h; subst h; exact ⟨he, fun hd => hd⟩
theorem task_valid {n : Nat} {σ : St} {r : St × TaskD} (h : taskP E n σ = some r) (he : r.1.err = 0) : σ.err = 0 ∧ okTask r.2 = true := by
  unfold taskP at h
  dsimp only at h
  obtain ⟨d, hd, h⟩ := Option.bind_eq_some_iff.1 h
  obtain ⟨x, hx, rfl⟩ := Option.map_eq_some_iff.1 h
  obtain ⟨e1, hL, _⟩ := limitP_ok he
  have e2 := ok_back (le_require E _ [125]) e1
  have hb := (stmt_valid E n).1 _ _ _ _ hx e2 rfl
  have e3 := ok_back ((stmt_le E n).1 _ _ _ _ hx) e2
  obtain ⟨e4, hD⟩ := decls_valid E n _ _ _ _ hd e3
  obtain ⟨d1, d2, d3, d4⟩ := hD ⟨by simp, by simp, rfl, rfl⟩
  have e5 := ok_back (le_require E _ [123]) e4
  have e6 := ok_back (le_require E _ kwPeriod) (ok_back (le_numP E _ 1 1000) e5)
  have e7 := ok_back (le_nameP E (adv σ)) e6
  have h1 := numP_range E e5
  have h2 := nameP_name E e6
  refine ⟨e7, ?_⟩
  have hbt : okT (.node 47 0 [] x.2) 98 = true := by simp [okT, belongs, hb]
  simp [okTask, h2, d1, d2, d3, d4, hL, hbt]; omega
theorem list_valid {α : Type} {kw : List UInt8} {lim : Nat} {one : Nat → St → Option (St × α)} {ok : α → Bool} (ho : ∀ n σ r, one n σ = some r → r.1.err = 0 → σ.err = 0 ∧ ok r.2 = true) :
    ∀ (n : Nat) σ acc r, listP E kw lim one n σ acc = some r → r.1.err = 0 → σ.err = 0 ∧ (acc.length ≤ lim ∧ acc.all ok = true → r.2.length ≤ lim ∧ r.2.all ok = true)
  | 0, _, _, _, h, _ => by simp [listP] at h
  | n + 1, σ, acc, r, h, he => by
    rw [listP] at h
    split at h
    · obtain ⟨x, hx, hr⟩ := Option.bind_eq_some_iff.1 h
      obtain ⟨h1, h2⟩ := list_valid ho n _ _ _ hr he
      obtain ⟨h3, h4⟩ := ho _ _ _ hx h1
      split at h3
      · exact absurd h3 (fail_err (by decide))
      · refine ⟨h3, fun ha => h2 ⟨by simp; omega, by rw [List.all_append, ha.2]; simp [h4]⟩⟩
    · injection h with h; subst h; exact ⟨he, fun ha => ha⟩
theorem program_valid {n : Nat} {σ : St} {r : St × ProgD} (h : programP E n σ = some r) (he : r.1.err = 0) : okProg r.2 = true := by
  unfold programP at h
  obtain ⟨a, ha, h⟩ := Option.bind_eq_some_iff.1 h
  obtain ⟨t, ht, rfl⟩ := Option.map_eq_some_iff.1 h
  have e1 : t.1.err = 0 := by
    dsimp only at he
    split at he
    · exact absurd he (reject_err E _)
    · exact he
  obtain ⟨e2, hT⟩ := list_valid E (ok := okTask) (fun n σ r h he => task_valid E h he) n _ _ _ ht e1
  obtain ⟨e3, hA⟩ := list_valid E (ok := okArr) (one := fun _ σ => some (arrayP E σ)) (fun n σ r h he => by injection h with h; subst h; exact array_valid E he) n _ _ _ ha e2
  obtain ⟨t1, t2⟩ := hT ⟨by simp, rfl⟩
  obtain ⟨a1, a2⟩ := hA ⟨by simp, rfl⟩
  simp only [okProg, Bool.and_eq_true, decide_eq_true_iff]
  exact ⟨⟨⟨a1, t1⟩, a2⟩, t2⟩
/-- Every body of a valid program is small. -/
theorem body_small {p : ProgD} (h : okProg p = true) {t : TaskD} (ht : t ∈ p.tasks) : t.body.size ≤ 400 := by
  simp only [okProg, Bool.and_eq_true] at h
  have := List.all_eq_true.1 h.2 t ht
  simp only [okTask, Bool.and_eq_true, Bool.not_eq_true'] at this
  have hl := this.1.2
  unfold large at hl
  simp only [Bool.or_eq_false_iff, decide_eq_false_iff_not] at hl
  omega
end
end Go.Proofs.YtkeehpgnljieeaaDoor.PP
