/- Parentheses around an expression do not change it, and unbalanced ones are errors: the parser's plain functions. -/
import Derived.Test.YtaaaicpjlaeiiaaDoorPlainCtx
namespace Go.Proofs.YtaaaicpjlaeiiaaDoor.PP
open PL

def marks (c : UInt8) (p m : Nat) : List Tok := (List.range m).map fun i => ⟨3, [c], p + i⟩
theorem marks_len (c : UInt8) (p m : Nat) : (marks c p m).length = m := by simp [marks]
theorem marks_succ (c : UInt8) (p m : Nat) : marks c p (m + 1) = ⟨3, [c], p⟩ :: marks c (p + 1) m := by
  simp only [marks, List.range_succ_eq_map, List.map_cons, List.map_map, Nat.add_zero]
  congr 1
  apply List.map_congr_left
  intro i _
  simp; omega
theorem marks_at (c : UInt8) (p m i : Nat) (h : i < m) : (marks c p m)[i]? = some ⟨3, [c], p + i⟩ := by simp [marks, h]
theorem marks_solid (c : UInt8) (p m : Nat) : (marks c p m).filter solidT = marks c p m := by
  rw [List.filter_eq_self]
  intro t ht
  simp only [marks, List.mem_map] at ht
  obtain ⟨i, _, rfl⟩ := ht
  rfl
theorem marks_shift (c : UInt8) (p m d : Nat) : (marks c p m).map (shift d) = marks c (p + d) m := by
  simp only [marks, List.map_map]
  apply List.map_congr_left
  intro i _
  simp [shift]; omega
theorem run_opens (c : UInt8) (hc : ∀ l, first (c :: l) = (3, 1)) : ∀ (m pos : Nat) (l : List UInt8), Run pos (List.replicate m c ++ l) (marks c pos m) (pos + m) l
  | 0, pos, l => by simp [marks]; exact .stop _ _
  | m + 1, pos, l => by
    rw [List.replicate_succ, List.cons_append, marks_succ]
    have h1 := run_opens c hc m (pos + 1) l
    have h2 : (first (c :: (List.replicate m c ++ l))).2 ≠ 0 := by rw [hc]; decide
    have h3 : Run (pos + (first (c :: (List.replicate m c ++ l))).2) ((c :: (List.replicate m c ++ l)).drop (first (c :: (List.replicate m c ++ l))).2) (marks c (pos + 1) m) (pos + (m + 1)) l := by
      rw [hc]; rw [show pos + (m + 1) = pos + 1 + m from by omega]; exact h1
    have h4 := Run.step h2 h3
    rw [hc] at h4
    exact h4
def parText (m m' : Nat) (s : List UInt8) : List UInt8 := List.replicate m 40 ++ s ++ 10 :: List.replicate m' 41
theorem parens_lex {s : List UInt8} {ts : List Tok} {x : Nat} (h : lex s = (ts, x, 0)) (m m' : Nat) (hl : m + s.length + 1 + m' ≤ 65536) :
    envL (parText m m' s) = ⟨marks 40 0 m ++ (ts.filter solidT).map (shift m) ++ marks 41 (m + s.length + 1) m', m + s.length + 1 + m'⟩ ∧ sigT (parText m m' s) = ⟨0, 0, 0⟩ := by
  obtain ⟨_, h1, _⟩ := lex_ok h rfl
  obtain ⟨p, hp⟩ := run_of_ok h1
  have ha : lex (List.replicate m 40 ++ s) = (marks 40 0 m ++ ts.map (shift m), 0, 0) := by
    apply lex_of_ok
    · simp; omega
    have r1 := run_opens 40 (fun _ => rfl) m 0 s
    have r2 := hp.shift m
    rw [Nat.zero_add] at r1 r2
    exact (r1.trans r2).ok
  have hb : lex (List.replicate m' 41) = (marks 41 0 m', 0, 0) := by
    apply lex_of_ok
    · simp; omega
    have r1 := run_opens 41 (fun _ => rfl) m' 0 []
    rw [List.append_nil] at r1
    exact r1.ok
  obtain ⟨vs, hv1, hv2⟩ := lines_ok ha hb (by simp; omega)
  have hv1' : lex (parText m m' s) = (vs, 0, 0) := hv1
  refine ⟨?_, by unfold sigT; rw [hv1']⟩
  unfold envL
  rw [hv1']
  simp only
  rw [hv2, List.filter_append, marks_solid, filter_shift, marks_solid, marks_shift]
  congr 1
  · simp only [List.length_append, List.length_replicate, Nat.zero_add]
  · unfold parText; simp only [List.length_append, List.length_cons, List.length_replicate]; omega

section
variable {E1 E2 : Env} {T : List Tok} {m m' p L : Nat}
theorem par_at1 (h2 : E2.ts = marks 40 0 m ++ T.map (shift m) ++ marks 41 p m') {i : Nat} (hi : i < m) : E2.ts[i]? = some ⟨3, [40], i⟩ := by
  rw [h2, List.getElem?_append_left (by simp only [List.length_append, marks_len]; omega), List.getElem?_append_left (by rw [marks_len]; exact hi), marks_at _ _ _ _ hi, Nat.zero_add]
theorem par_at2 (h2 : E2.ts = marks 40 0 m ++ T.map (shift m) ++ marks 41 p m') {i : Nat} (hi : i < m') : E2.ts[m + T.length + i]? = some ⟨3, [41], p + i⟩ := by
  rw [h2, List.getElem?_append_right (by simp only [List.length_append, List.length_map, marks_len]; omega)]
  rw [show m + T.length + i - (marks 40 0 m ++ T.map (shift m)).length = i from by simp only [List.length_append, List.length_map, marks_len]; omega]
  exact marks_at _ _ _ _ hi
theorem par_len (h2 : E2.ts = marks 40 0 m ++ T.map (shift m) ++ marks 41 p m') : E2.ts.length = m + T.length + m' := by rw [h2]; simp only [List.length_append, List.length_map, marks_len]
theorem par_sim (h1 : E1.ts = T) (h2 : E2.ts = marks 40 0 m ++ T.map (shift m) ++ marks 41 p m') : Sim E1 E2 m := by
  constructor
  · intro i t hi
    rw [h1] at hi
    have hlt : i < T.length := (List.getElem?_eq_some_iff.1 hi).1
    refine ⟨t.pos + m, ?_⟩
    rw [h2, List.getElem?_append_left (by simp only [List.length_append, List.length_map, marks_len]; omega), List.getElem?_append_right (by rw [marks_len]; omega), marks_len, show i + m - m = i from by omega, List.getElem?_map, hi]
    rfl
  · rw [h1]
    by_cases hm : 0 < m'
    · right
      have := par_at2 h2 hm
      exact ⟨p + 0, by rw [← this]; congr 1; omega⟩
    · left
      rw [List.getElem?_eq_none_iff, par_len h2]; omega
theorem sees_at {E : Env} {σ : St} {t : Tok} (he : σ.err = 0) (h : E.ts[σ.next]? = some t) (x : List UInt8) : sees E σ x = (t.text == x) := by
  unfold sees
  rw [cur_of h, (more_iff E σ).2 ⟨he, (List.getElem?_eq_some_iff.1 h).1⟩]; rfl
/-- Behind an expression: a closing parenthesis or the end. -/
theorem stops {E : Env} {σ : St} {n : Nat} {t : Tree} (h : E.ts[σ.next]? = none ∨ σ.err ≠ 0 ∨ ∃ q, E.ts[σ.next]? = some ⟨3, [41], q⟩) : binLoop E (n + 1) 0 σ t = some (σ, t) := by
  rw [binLoop]
  rcases h with h | h | ⟨q, h⟩
  · have : more E σ = false := by
      have := List.getElem?_eq_none_iff.1 h
      rcases more_cases E σ with ⟨_, _, h3⟩ | ⟨h3, _⟩ | ⟨h3, _, _⟩
      · omega
      · exact h3
      · exact h3
    rw [this]; rfl
  · have : more E σ = false := by
      rcases more_cases E σ with ⟨_, h3, _⟩ | ⟨h3, _⟩ | ⟨h3, _, _⟩
      · exact absurd h3 h
      · exact h3
      · exact h3
    rw [this]; rfl
  · rw [cur_of h]
    split
    · rw [show opOf [41] = none from rfl]
    · rfl
theorem open_step {n : Nat} {i : Nat} {r : St × Tree} (hi : E2.ts[i]? = some ⟨3, [40], i⟩) (hb : binary E2 n 0 ⟨i + 1, 0, 0⟩ = some r) : unary E2 (n + 2) ⟨i, 0, 0⟩ = some (require E2 r.1 [41], r.2) := by
  have s1 := fun x => sees_at (E := E2) (σ := ⟨i, 0, 0⟩) rfl hi x
  rw [unary, s1, s1]
  simp only [show (([40] : List UInt8) == [45]) = false from rfl, show (([40] : List UInt8) == [33]) = false from rfl, Bool.false_eq_true, if_false]
  rw [primary, s1]
  simp only [show (([40] : List UInt8) == [40]) = true from rfl, if_true]
  rw [show adv ⟨i, 0, 0⟩ = ⟨i + 1, 0, 0⟩ from rfl, hb]; rfl
theorem nest_parse {n : Nat} {t : Tree} (h1 : E1.ts = T) (h2 : E2.ts = marks 40 0 m ++ T.map (shift m) ++ marks 41 p m') (hb : binary E1 n 0 ⟨0, 0, 0⟩ = some (⟨T.length, 0, 0⟩, t)) :
    ∀ j, j ≤ m → j ≤ m' → binary E2 (n + 3 * j) 0 ⟨m - j, 0, 0⟩ = some (⟨m + T.length + j, 0, 0⟩, t)
  | 0, _, _ => by
    have := ((sim_expr (par_sim h1 h2) n).2.2.2.1 0 ⟨0, 0, 0⟩ _ hb rfl (by simp)).1
    simp only [sh, Nat.zero_add] at this
    rw [show m - 0 = m from rfl, show m + T.length + 0 = T.length + m from by omega]; exact this
  | j + 1, hj, hj' => by
    have ih := nest_parse h1 h2 hb j (by omega) (by omega)
    have hi : E2.ts[m - (j + 1)]? = some ⟨3, [40], m - (j + 1)⟩ := par_at1 h2 (by omega)
    have hu := open_step (n := n + 3 * j) hi (by rw [show m - (j + 1) + 1 = m - j from by omega]; exact ih)
    have hc := par_at2 h2 (i := j) (by omega)
    have hreq : require E2 ⟨m + T.length + j, 0, 0⟩ [41] = ⟨m + T.length + (j + 1), 0, 0⟩ := by
      unfold require
      rw [sees_at (σ := ⟨m + T.length + j, 0, 0⟩) rfl hc]
      simp only [BEq.rfl, if_true]; rfl
    rw [show n + 3 * (j + 1) = (n + 3 * j + 2) + 1 from by omega, binary, hu, Option.bind_some]
    simp only [hreq]
    apply stops
    by_cases hlt : j + 1 < m'
    · right; right
      exact ⟨_, par_at2 h2 hlt⟩
    · left
      rw [List.getElem?_eq_none_iff, par_len h2]; simp only; omega
end
theorem limitP_ok {t : Tree} {o : Nat} {σ : St} (h : (limitP t o σ).err = 0) : σ.err = 0 ∧ large t = false ∧ limitP t o σ = σ := by
  unfold limitP at h ⊢
  by_cases he : σ.err = 0
  · rw [if_pos he] at h ⊢
    cases hl : large t with
    | false => exact ⟨he, rfl, by simp⟩
    | true => rw [hl] at h; exact absurd h (fail_err (by decide))
  · rw [if_neg he] at h; exact absurd h he
section
variable (E : Env)
theorem off_require {σ : St} {t : List UInt8} (h : (require E σ t).err = 0) : (require E σ t).off = σ.off := by
  unfold require at h ⊢
  split
  · rfl
  · rename_i c; rw [if_neg c] at h; exact absurd h (reject_err E σ)
theorem off_name {σ : St} (h : (nameP E σ).1.err = 0) : (nameP E σ).1.off = σ.off := by
  unfold nameP at h ⊢
  split
  · rfl
  · rename_i c; rw [if_neg c] at h; exact absurd h (reject_err E σ)
theorem off_num {σ : St} {lo hi : Int} (h : (numP E σ lo hi).1.err = 0) : (numP E σ lo hi).1.off = σ.off := by
  unfold numP at h ⊢
  split
  · rename_i c
    rw [if_pos c] at h
    dsimp only at h ⊢
    split
    · rename_i d; rw [if_pos d] at h; exact absurd h (fail_err (by decide))
    · rfl
  · rename_i c
    rw [if_neg c] at h
    exact absurd h (reject_err E σ)
theorem expr_off : ∀ (n : Nat), (∀ σ r, unary E n σ = some r → r.1.err = 0 → r.1.off = σ.off) ∧ (∀ σ r, primary E n σ = some r → r.1.err = 0 → r.1.off = σ.off) ∧ (∀ σ r, place E n σ = some r → r.1.err = 0 → r.1.off = σ.off) ∧
    (∀ l σ r, binary E n l σ = some r → r.1.err = 0 → r.1.off = σ.off) ∧ (∀ l σ t r, binLoop E n l σ t = some r → r.1.err = 0 → r.1.off = σ.off)
  | 0 => ⟨fun _ _ h => by simp [unary] at h, fun _ _ h => by simp [primary] at h, fun _ _ h => by simp [place] at h, fun _ _ _ h => by simp [binary] at h, fun _ _ _ _ h => by simp [binLoop] at h⟩
  | n + 1 => by
    obtain ⟨hu, hp, hpl, hb, hl⟩ := expr_off n
    refine ⟨fun σ r h he => ?_, fun σ r h he => ?_, fun σ r h he => ?_, fun l σ r h he => ?_, fun l σ t r h he => ?_⟩
    · rw [unary] at h
      split at h
      · obtain ⟨x, hx, rfl⟩ := Option.map_eq_some_iff.1 h
        have h1 := hu _ x hx he; exact h1
      · split at h
        · obtain ⟨x, hx, rfl⟩ := Option.map_eq_some_iff.1 h
          have h1 := hu _ x hx he; exact h1
        · exact hp _ _ h he
    · rw [primary] at h
      split at h
      · obtain ⟨x, hx, rfl⟩ := Option.map_eq_some_iff.1 h
        have h1 := hb _ _ x hx (ok_back (le_require E x.1 [41]) he); exact (off_require E he).trans h1
      · split at h
        · injection h with h; subst h; exact off_num E he
        · exact hpl _ _ h he
    · rw [place] at h
      split at h
      · rename_i c
        obtain ⟨x, hx, rfl⟩ := Option.map_eq_some_iff.1 h
        have h1 := hb _ _ x hx (ok_back (le_require E x.1 [93]) he)
        exact (off_require E he).trans (Eq.trans h1 (off_name E (sees_err E c).1))
      · injection h with h; subst h; exact off_name E he
    · rw [binary] at h
      obtain ⟨x, hx, hr⟩ := Option.bind_eq_some_iff.1 h
      exact (hl _ _ _ _ hr he).trans (hu _ x hx (ok_back ((expr_le E n).2.2.2.2 _ _ _ _ hr) he))
    · rw [binLoop] at h
      split at h
      · split at h
        · split at h
          · injection h with h; subst h; rfl
          · obtain ⟨x, hx, hr⟩ := Option.bind_eq_some_iff.1 h
            have h1 := hb _ _ x hx (ok_back ((expr_le E n).2.2.2.2 _ _ _ _ hr) he); exact (hl _ _ _ _ hr he).trans h1
        · injection h with h; subst h; rfl
      · injection h with h; subst h; rfl
end
/-- What a correct expression has. -/
theorem expr_ok {l : List UInt8} {n : Nat} {q : St × Tree} (h : exprP (envL l) n (sigT l) = some q) (he : q.1.err = 0) : ∃ ts, lex l = (ts, 0, 0) ∧ binary (envL l) n 0 ⟨0, 0, 0⟩ = some (⟨(ts.filter solidT).length, 0, 0⟩, q.2) ∧ large q.2 = false := by
  unfold exprP at h
  obtain ⟨r, hr, rfl⟩ := Option.map_eq_some_iff.1 h
  obtain ⟨e1, hlg, _⟩ := limitP_ok he
  have hm : more (envL l) r.1 = false := by
    cases hm : more (envL l) r.1 with
    | false => rfl
    | true => rw [hm] at e1; exact absurd e1 (reject_err _ _)
  rw [hm] at e1
  simp only [Bool.false_eq_true, if_false] at e1
  have e0 := ok_back ((expr_le _ n).2.2.2.1 _ _ _ hr) e1
  generalize hX : lex l = X at *
  obtain ⟨ts, x, e⟩ := X
  have he0 : e = 0 := by unfold sigT at e0; rw [hX] at e0; exact e0
  subst he0
  obtain ⟨_, _, rfl⟩ := lex_ok hX rfl
  have hsig : sigT l = ⟨0, 0, 0⟩ := by unfold sigT; rw [hX]
  have hts : (envL l).ts = ts.filter solidT := by unfold envL; rw [hX]
  have hself : Sim (envL l) (envL l) 0 := ⟨fun i t h => ⟨t.pos, by rw [Nat.add_zero]; exact h⟩, .inl (by rw [Nat.add_zero, List.getElem?_eq_none_iff]; exact Nat.le_refl _)⟩
  have hbd := ((sim_expr hself n).2.2.2.1 0 _ _ hr e1 (by rw [hsig]; simp)).2
  have hle := (expr_le _ n).2.2.2.1 _ _ _ hr
  have hoff : r.1.off = 0 := ((expr_off _ n).2.2.2.1 _ _ _ hr e1).trans (by rw [hsig])
  refine ⟨ts, rfl, ?_, ?_⟩
  · rw [hsig] at hr
    rw [hr]
    have hnx : r.1.next = (ts.filter solidT).length := by
      rw [← hts]
      rcases Nat.lt_or_ge r.1.next (envL l).ts.length with h1 | h1
      · rw [(more_iff _ _).2 ⟨e1, h1⟩] at hm; cases hm
      · omega
    obtain ⟨⟨a, b, c⟩, t⟩ := r
    simp only at hnx hoff e1
    subst hnx hoff e1
    rfl
  · exact hlg
theorem parText_succ (k : Nat) (l : List UInt8) : parText (k + 1) (k + 1) l = 40 :: parText k k l ++ [41] := by
  unfold parText
  rw [List.replicate_succ, List.replicate_succ']
  simp
theorem parText_open (k k' : Nat) (l : List UInt8) : parText (k + 1) k' l = 40 :: parText k k' l := by
  unfold parText
  rw [List.replicate_succ]
  simp
theorem parText_shut (k k' : Nat) (l : List UInt8) : parText k (k' + 1) l = parText k k' l ++ [41] := by
  unfold parText
  rw [List.replicate_succ' (n := k')]
  simp
theorem parText_len (k k' : Nat) (l : List UInt8) : (parText k k' l).length = k + l.length + 1 + k' := by
  unfold parText
  simp only [List.length_append, List.length_cons, List.length_replicate]
  omega
theorem parens_law {l : List UInt8} {n : Nat} {q : St × Tree} (h : exprP (envL l) n (sigT l) = some q) (he : q.1.err = 0) (k : Nat) (hl : l.length + 2 * k + 3 ≤ 65536) :
    (∃ n' σ', exprP (envL (parText k k l)) n' (sigT (parText k k l)) = some (σ', q.2) ∧ σ'.err = 0) ∧
    (∃ n' r, exprP (envL (parText (k + 1) k l)) n' (sigT (parText (k + 1) k l)) = some r ∧ r.1.err = 4 ∧ r.1.off = 2 * k + l.length + 2) ∧
    (∃ n' r, exprP (envL (parText k (k + 1) l)) n' (sigT (parText k (k + 1) l)) = some r ∧ r.1.err = 3 ∧ r.1.off = 2 * k + l.length + 1) := by
  obtain ⟨ts, hlx, hb, hlg⟩ := expr_ok h he
  have hts : (envL l).ts = ts.filter solidT := by unfold envL; rw [hlx]
  refine ⟨?_, ?_, ?_⟩
  · obtain ⟨e1, e2⟩ := parens_lex hlx k k (by omega)
    rw [e1, e2]
    generalize hE : (⟨marks 40 0 k ++ (ts.filter solidT).map (shift k) ++ marks 41 (k + l.length + 1) k, k + l.length + 1 + k⟩ : Env) = E2
    have h2 : E2.ts = marks 40 0 k ++ (ts.filter solidT).map (shift k) ++ marks 41 (k + l.length + 1) k := by rw [← hE]
    have hp := nest_parse hts h2 hb k (Nat.le_refl _) (Nat.le_refl _)
    rw [Nat.sub_self] at hp
    have hm : more E2 ⟨k + (ts.filter solidT).length + k, 0, 0⟩ = false := by
      unfold more; rw [par_len h2]; simp
    refine ⟨n + 3 * k, ⟨k + (ts.filter solidT).length + k, 0, 0⟩, ?_, rfl⟩
    unfold exprP
    rw [hp]
    simp only [Option.map_some, hm, Bool.false_eq_true, if_false]
    unfold limitP
    rw [hlg]; rfl
  · obtain ⟨e1, e2⟩ := parens_lex hlx (k + 1) k (by omega)
    rw [e1, e2]
    generalize hE : (⟨marks 40 0 (k + 1) ++ (ts.filter solidT).map (shift (k + 1)) ++ marks 41 (k + 1 + l.length + 1) k, k + 1 + l.length + 1 + k⟩ : Env) = E2
    have h2 : E2.ts = marks 40 0 (k + 1) ++ (ts.filter solidT).map (shift (k + 1)) ++ marks 41 (k + 1 + l.length + 1) k := by rw [← hE]
    have hL : E2.L = k + 1 + l.length + 1 + k := by rw [← hE]
    have hp := nest_parse hts h2 hb k (by omega) (Nat.le_refl _)
    rw [show k + 1 - k = 0 + 1 from by omega] at hp
    have hu := open_step (par_at1 h2 (by omega)) hp
    have hreq : require E2 ⟨k + 1 + (ts.filter solidT).length + k, 0, 0⟩ [41] = ⟨k + 1 + (ts.filter solidT).length + k, E2.L, 4⟩ := by
      have hm : more E2 ⟨k + 1 + (ts.filter solidT).length + k, 0, 0⟩ = false := by unfold more; rw [par_len h2]; simp
      unfold require sees
      rw [hm]
      simp only [Bool.false_and, Bool.false_eq_true, if_false]
      unfold reject here
      rw [par_len h2]
      simp [fail]
    have hb2 : binary E2 (n + 3 * k + 3) 0 ⟨0, 0, 0⟩ = some (⟨k + 1 + (ts.filter solidT).length + k, E2.L, 4⟩, q.2) := by
      rw [binary, hu, Option.bind_some]
      simp only [hreq]
      exact stops (.inr (.inl (by simp)))
    have hm : more E2 ⟨k + 1 + (ts.filter solidT).length + k, E2.L, 4⟩ = false := by unfold more; rfl
    refine ⟨n + 3 * k + 3, (⟨k + 1 + (ts.filter solidT).length + k, E2.L, 4⟩, q.2), ?_, rfl, by simp only [hL]; omega⟩
    unfold exprP
    rw [hb2]
    simp only [Option.map_some, hm, Bool.false_eq_true, if_false]
    rfl
  · obtain ⟨e1, e2⟩ := parens_lex hlx k (k + 1) (by omega)
    rw [e1, e2]
    generalize hE : (⟨marks 40 0 k ++ (ts.filter solidT).map (shift k) ++ marks 41 (k + l.length + 1) (k + 1), k + l.length + 1 + (k + 1)⟩ : Env) = E2
    have h2 : E2.ts = marks 40 0 k ++ (ts.filter solidT).map (shift k) ++ marks 41 (k + l.length + 1) (k + 1) := by rw [← hE]
    have hp := nest_parse hts h2 hb k (Nat.le_refl _) (by omega)
    rw [Nat.sub_self] at hp
    have hat := par_at2 h2 (i := k) (by omega)
    have hm : more E2 ⟨k + (ts.filter solidT).length + k, 0, 0⟩ = true := by
      unfold more; rw [par_len h2]; simp
    have hrej : reject E2 ⟨k + (ts.filter solidT).length + k, 0, 0⟩ = ⟨k + (ts.filter solidT).length + k, k + l.length + 1 + k, 3⟩ := by
      unfold reject here
      rw [par_len h2, cur_of (σ := ⟨k + (ts.filter solidT).length + k, 0, 0⟩) hat]
      simp [fail]
    refine ⟨n + 3 * k, (⟨k + (ts.filter solidT).length + k, k + l.length + 1 + k, 3⟩, q.2), ?_, rfl, by simp only; omega⟩
    unfold exprP
    rw [hp]
    simp only [Option.map_some, hm, if_true, hrej]
    rfl
end Go.Proofs.YtaaaicpjlaeiiaaDoor.PP
