/- The tokens of a text with other spaces, line feeds and comments between them. -/
import Derived.Test.YtaaaicpjlaeiiaaDoorPlainLay
import Derived.Test.YtaaaicpjlaeiiaaDoorKA
namespace Go.Proofs.YtaaaicpjlaeiiaaDoor.PL
def Sep (c : UInt8) : Prop := isInner c = false ∧ isDigit c = false ∧ ∀ g ∈ signs, ∀ d ∈ g, d ≠ c
instance (c : UInt8) : Decidable (Sep c) := by unfold Sep; infer_instance
theorem isPrefixOf_sep {c : UInt8} (hc : Sep c) {g l y : List UInt8} (hg : g ∈ signs) : g.isPrefixOf (l ++ c :: y) = g.isPrefixOf l := by
  rw [Bool.eq_iff_iff, List.isPrefixOf_iff_prefix, List.isPrefixOf_iff_prefix]
  refine ⟨fun h => ?_, fun h => h.trans (List.prefix_append _ _)⟩
  rcases Nat.lt_or_ge l.length g.length with hlt | hge
  · exfalso
    obtain ⟨z, hz⟩ := h
    have h10 := hc.2.2 g hg c
    have : (l ++ c :: y)[l.length]? = some c := by simp
    rw [← hz, List.getElem?_append_left hlt] at this
    exact h10 (List.mem_of_getElem? this) rfl
  · exact List.prefix_of_prefix_length_le h (List.prefix_append l _) hge
theorem find_sep {c : UInt8} (hc : Sep c) (l y : List UInt8) : signs.find? (fun h => h.isPrefixOf (l ++ c :: y)) = signs.find? (fun h => h.isPrefixOf l) := by
  have : ∀ S : List (List UInt8), (∀ g ∈ S, g ∈ signs) → S.find? (fun h => h.isPrefixOf (l ++ c :: y)) = S.find? (fun h => h.isPrefixOf l) := by
    intro S
    induction S with
    | nil => intro _; rfl
    | cons a S ih =>
      intro hS
      have ha := isPrefixOf_sep hc (l := l) (y := y) (hS a (by simp))
      simp only [List.find?_cons, ha]
      rw [ih (fun g hg => hS g (by simp [hg]))]
  exact this signs (fun _ h => h)
theorem first_sep {c : UInt8} (hc : Sep c) (l y : List UInt8) (hl : l ≠ []) (h4 : (first l).1 ≠ 4) (h5 : (first l).1 ≠ 5) : first (l ++ c :: y) = first l := by
  match l, hl with
  | b :: t, _ =>
    by_cases h1 : isLetter b = true
    · have e : first (b :: t) = (1, count isInner (b :: t)) := by simp [first, h1]
      have hc := count_ext isInner b t (c :: y) (.inr ⟨c, y, rfl, hc.1⟩)
      rw [e]
      rw [List.cons_append] at hc ⊢
      simp [first, h1, hc]
    · by_cases h2 : isDigit b = true
      · have e : first (b :: t) = (2, count isDigit (b :: t)) := by simp [first, h1, h2]
        have hc := count_ext isDigit b t (c :: y) (.inr ⟨c, y, rfl, hc.2.1⟩)
        rw [e]
        rw [List.cons_append] at hc ⊢
        simp [first, h1, h2, hc]
      · by_cases h3 : isSpace b = true
        · have e : first (b :: t) = (4, count isSpace (b :: t)) := by simp [first, h1, h2, h3]
          rw [e] at h4
          exact absurd rfl h4
        · by_cases h6 : (b == 35) = true
          · have e : first (b :: t) = (5, count isText (b :: t)) := by simp only [first, h1, h2, h3, h6]; simp
            rw [e] at h5
            exact absurd rfl h5
          · have hf := find_sep hc (b :: t) y
            rw [List.cons_append] at hf ⊢
            simp only [first, h1, h2, h3, h6, hf]; simp
theorem space_plain {c : UInt8} (h : isSpace c = true) : isLetter c = false ∧ isDigit c = false := by
  unfold isSpace at h
  simp only [Bool.or_eq_true, beq_iff_eq] at h
  rcases h with ((h | h) | h) | h <;> subst h <;> decide
def Start (y : List UInt8) : Prop := y = [] ∨ ∃ c r, y = c :: r ∧ isSpace c = false
theorem Start.none {y : List UInt8} (h : Start y) : y.takeWhile isSpace = [] := by
  rcases h with rfl | ⟨c, r, rfl, h⟩
  · rfl
  · rw [List.takeWhile_cons, h]; rfl
theorem space_run (sp y : List UInt8) (hn : sp ≠ []) (hs : ∀ c ∈ sp, isSpace c = true) (hy : Start y) (pos : Nat) : Run pos (sp ++ y) [⟨4, sp, pos⟩] (pos + sp.length) y := by
  have hf : first (sp ++ y) = (4, sp.length) := by
    match sp, hn with
    | b :: t, _ =>
      have hb := hs b (by simp)
      obtain ⟨h1, h2⟩ := space_plain hb
      have hc : count isSpace (b :: (t ++ y)) = t.length + 1 := by
        unfold count
        rw [List.tail_cons, takeWhile_all isSpace t y (fun c hc => hs c (by simp [hc])), hy.none]
        simp; omega
      rw [List.cons_append]
      simp [first, h1, h2, hb, hc]
  have h0 : (first (sp ++ y)).2 ≠ 0 := by rw [hf]; simpa using hn
  have := Run.step (pos := pos) h0 (Run.stop (pos + (first (sp ++ y)).2) ((sp ++ y).drop (first (sp ++ y)).2))
  rw [hf] at this
  simpa using this
def fills : List (List UInt8) := [[32], [10], [9, 32], [35, 32, 125, 32, 116, 97, 115, 107, 10], [32, 13, 10]]
def fill (k : Nat) : List UInt8 := fills.getD k []
theorem note_run (y : List UInt8) (hy : Start y) (pos : Nat) : Run pos ([35, 32, 125, 32, 116, 97, 115, 107, 10] ++ y) [⟨5, [35, 32, 125, 32, 116, 97, 115, 107], pos⟩, ⟨4, [10], pos + 8⟩] (pos + 9) y := by
  have hf : first ([35, 32, 125, 32, 116, 97, 115, 107, 10] ++ y) = (5, 8) := by
    have hc : count isText ([35, 32, 125, 32, 116, 97, 115, 107, 10] ++ y) = 8 := by
      unfold count
      rw [show ([35, 32, 125, 32, 116, 97, 115, 107, 10] ++ y : List UInt8).tail = [32, 125, 32, 116, 97, 115, 107] ++ 10 :: y from rfl, takeWhile_all isText _ _ (by decide)]
      rw [List.takeWhile_cons, show isText 10 = false from by decide]
      rfl
    have e1 : isLetter 35 = false := by decide
    have e2 : isDigit 35 = false := by decide
    have e3 : isSpace 35 = false := by decide
    rw [List.cons_append] at hc ⊢
    simp [first, e1, e2, e3] 
    simpa using hc
  have h0 : (first ([35, 32, 125, 32, 116, 97, 115, 107, 10] ++ y)).2 ≠ 0 := by rw [hf]; decide
  have h1 := space_run [10] y (by decide) (by decide) hy (pos + 8)
  have := Run.step (pos := pos) h0 (by rw [hf]; exact h1)
  rw [hf] at this
  simpa using this
theorem fill_run {k : Nat} (hk : k < 5) (y : List UInt8) (hy : Start y) (pos : Nat) : ∃ fs, Run pos (fill k ++ y) fs (pos + (fill k).length) y ∧ fs.filter solidT = [] ∧ fill k ≠ [] := by
  match k, hk with
  | 0, _ => exact ⟨_, space_run [32] y (by decide) (by decide) hy pos, rfl, by decide⟩
  | 1, _ => exact ⟨_, space_run [10] y (by decide) (by decide) hy pos, rfl, by decide⟩
  | 2, _ => exact ⟨_, space_run [9, 32] y (by decide) (by decide) hy pos, rfl, by decide⟩
  | 3, _ => exact ⟨_, note_run y hy pos, rfl, by decide⟩
  | 4, _ => exact ⟨_, space_run [32, 13, 10] y (by decide) (by decide) hy pos, rfl, by decide⟩
theorem fill_sep {k : Nat} (hk : k < 5) : ∃ c r, fill k = c :: r ∧ Sep c := by
  match k, hk with
  | 0, _ => exact ⟨32, [], rfl, by decide⟩
  | 1, _ => exact ⟨10, [], rfl, by decide⟩
  | 2, _ => exact ⟨9, [32], rfl, by decide⟩
  | 3, _ => exact ⟨35, _, rfl, by decide⟩
  | 4, _ => exact ⟨32, _, rfl, by decide⟩
/-- A solid token, alone. -/
def Good (t : Tok) : Prop := t.text ≠ [] ∧ first t.text = (t.kind, t.text.length) ∧ solidT t = true
theorem Good.kind {t : Tok} (h : Good t) : (first t.text).1 ≠ 4 ∧ (first t.text).1 ≠ 5 := by
  rw [h.2.1]
  have := h.2.2
  unfold solidT at this
  simpa using this
theorem Good.start {t : Tok} (h : Good t) (y : List UInt8) : Start (t.text ++ y) := by
  obtain ⟨h4, _⟩ := h.kind
  right
  match he : t.text, h.1 with
  | b :: r, _ =>
    refine ⟨b, r ++ y, rfl, ?_⟩
    cases hb : isSpace b with
    | false => rfl
    | true =>
      exfalso
      obtain ⟨h1, h2⟩ := space_plain hb
      rw [he] at h4
      exact h4 (by simp [first, h1, h2, hb])
def layText (f : Nat → Nat) : Nat → List Tok → List UInt8
  | _, [] => []
  | i, t :: T => t.text ++ (fill (f i) ++ layText f (i + 1) T)
theorem lay_start (f : Nat → Nat) (i : Nat) (T : List Tok) (h : ∀ t ∈ T, Good t) : Start (layText f i T) := by
  cases T with
  | nil => exact .inl rfl
  | cons t T => exact (h t (by simp)).start _
theorem lay_run (f : Nat → Nat) (hf : ∀ i, f i < 5) : ∀ (T : List Tok) (i pos : Nat), (∀ t ∈ T, Good t) → ∃ us p, Run pos (layText f i T) us p [] ∧ (us.filter solidT).map (fun t => (t.kind, t.text)) = T.map (fun t => (t.kind, t.text))
  | [], i, pos, _ => ⟨[], pos, .stop _ _, rfl⟩
  | t :: T, i, pos, h => by
    have ht := h t (by simp)
    have hT := fun u hu => h u (List.mem_cons_of_mem _ hu)
    obtain ⟨c, r, hc1, hc2⟩ := fill_sep (hf i)
    have e1 : first (layText f i (t :: T)) = (t.kind, t.text.length) := by
      rw [layText, hc1, List.cons_append, first_sep hc2 _ _ ht.1 ht.kind.1 ht.kind.2, ht.2.1]
    obtain ⟨us, p, hr, hm⟩ := lay_run f hf T (i + 1) (pos + t.text.length + (fill (f i)).length) hT
    obtain ⟨fs, hfr, hff, _⟩ := fill_run (hf i) (layText f (i + 1) T) (lay_start f _ T hT) (pos + t.text.length)
    have h0 : (first (layText f i (t :: T))).2 ≠ 0 := by rw [e1]; simpa using ht.1
    have hd : (layText f i (t :: T)).drop t.text.length = fill (f i) ++ layText f (i + 1) T := by rw [layText]; simp
    have htk : (layText f i (t :: T)).take t.text.length = t.text := by rw [layText]; simp
    have hstep := Run.step (pos := pos) h0 (by rw [e1, hd]; exact hfr.trans hr)
    rw [e1, htk] at hstep
    refine ⟨_, _, hstep, ?_⟩
    have hsol : solidT ⟨t.kind, t.text, pos⟩ = true := ht.2.2
    rw [List.filter_cons_of_pos hsol, List.filter_append, hff, List.nil_append, List.map_cons, List.map_cons, hm]
theorem good_of_lex {l : List UInt8} {ts : List Tok} (h : lex l = (ts, 0, 0)) : ∀ t ∈ ts.filter solidT, Good t := by
  intro t ht
  obtain ⟨h1, h2⟩ := List.mem_filter.1 ht
  obtain ⟨_, h3, _⟩ := lex_ok h rfl
  obtain ⟨p, hr⟩ := run_of_ok h3
  obtain ⟨l0, e1, e2, e3⟩ := hr.token t h1
  refine ⟨e3, ?_, h2⟩
  have hne : (first l0).2 ≠ 0 := by rw [e1]; simpa using e3
  have := first_take l0 hne
  rw [e1] at this
  rw [show l0.take (t.kind, t.text.length).2 = t.text from e2.symm] at this
  exact this
end Go.Proofs.YtaaaicpjlaeiiaaDoor.PL
namespace Go.Proofs.YtaaaicpjlaeiiaaDoor.PP
open PL
theorem layout_law {l : List UInt8} {ts : List Tok} (hL : lex l = (ts, 0, 0)) {f : Nat → Nat} (hf : ∀ i, f i < 5) (hlen : (layText f 0 (ts.filter solidT)).length ≤ 65536) {n : Nat} {q : St × ProgD} (hq : programP (envL l) n (sigT l) = some q) :
    ∃ r, programP (envL (layText f 0 (ts.filter solidT))) n (sigT (layText f 0 (ts.filter solidT))) = some r ∧ Er q.1 r.1 ∧ q.2 = r.2 := by
  obtain ⟨us, p, hr, hm⟩ := lay_run f hf (ts.filter solidT) 0 0 (good_of_lex hL)
  have h2 := lex_of_ok hlen hr.ok
  have e1 : (envL l).ts = ts.filter solidT := by unfold envL; rw [hL]
  have e2 : (envL (layText f 0 (ts.filter solidT))).ts = us.filter solidT := by unfold envL; rw [h2]
  have s1 : sigT l = ⟨0, 0, 0⟩ := by unfold sigT; rw [hL]
  have s2 : sigT (layText f 0 (ts.filter solidT)) = ⟨0, 0, 0⟩ := by unfold sigT; rw [h2]
  have C : Like (envL l) (envL (layText f 0 (ts.filter solidT))) := by
    have hl : (ts.filter solidT).length = (us.filter solidT).length := by have := congrArg List.length hm; simpa using this.symm
    refine ⟨by rw [e1, e2]; exact hl, fun i hi => ?_⟩
    rw [e1] at hi
    rw [e1, e2]
    have hi2 : i < (us.filter solidT).length := by omega
    have := congrArg (·[i]?) hm
    simp only [List.getElem?_map, List.getElem?_eq_getElem hi, List.getElem?_eq_getElem hi2, Option.map_some, Option.some.injEq, Prod.mk.injEq] at this
    rw [List.getD_eq_getElem?_getD, List.getD_eq_getElem?_getD, List.getElem?_eq_getElem hi, List.getElem?_eq_getElem hi2]
    exact ⟨this.1.symm, this.2.symm⟩
  rw [s1] at hq
  rw [s2]
  exact lk_program C n (σ := ⟨0, 0, 0⟩) (τ := ⟨0, 0, 0⟩) ⟨rfl, rfl⟩ q hq
end Go.Proofs.YtaaaicpjlaeiiaaDoor.PP
