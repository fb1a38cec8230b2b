/- No text with fewer opening parentheses is read as the same expression; parentheses of a printed text are balanced. -/
import Derived.Test.YtfakdbnfpdalhaaDoorPlainBack
import Derived.Test.YtfakdbnfpdalhaaDoorEq
namespace Go.Proofs.YtfakdbnfpdalhaaDoor.PP
open PL
def b2n (b : Bool) : Nat := if b then 1 else 0
/-- The number of pairs of parentheses in the text of an expression. -/
def par : Tree → Nat
  | .node k _ _ [a] => if k = 3 then par a else par a + b2n (bin a.kind)
  | .node k _ _ [a, b] => par a + b2n (bin a.kind && decide (level a.kind < level k)) + (par b + b2n (bin b.kind && decide (level b.kind ≤ level k)))
  | _ => 0
def pc (l : List UInt8) : Nat := l.count 40
theorem pc_app (a b : List UInt8) : pc (a ++ b) = pc a + pc b := by simp [pc]
theorem pc_wrap (b : Bool) (s : List UInt8) : pc (wrapP b s) = pc s + b2n b := by
  unfold wrapP b2n
  cases b with
  | false => simp
  | true => simp [pc]
theorem pc_none {l : List UInt8} (h : ∀ c ∈ l, c ≠ 40) : pc l = 0 := by
  unfold pc
  exact List.count_eq_zero.2 (fun hm => h 40 hm rfl)
theorem inner_ne {c : UInt8} (h : isInner c = true) : c ≠ 40 ∧ c ≠ 41 := by
  unfold isInner at h
  rw [isLetter_eq, isDigit_eq] at h
  refine ⟨?_, ?_⟩ <;> rintro rfl <;> simp at h
theorem digit_ne {c : UInt8} (h : isDigit c = true) : c ≠ 40 ∧ c ≠ 41 := inner_ne (by unfold isInner; rw [h, Bool.or_true])
theorem name_inner {w : List UInt8} (h : isName w = true) : ∀ c ∈ w, isInner c = true := by
  have hw := name_wordB h
  cases w with
  | nil => simp
  | cons b t =>
    simp only [wordB, Bool.and_eq_true, List.all_eq_true] at hw
    intro c hc
    rcases List.mem_cons.1 hc with rfl | hc
    · unfold isInner; rw [hw.1, Bool.true_or]
    · exact hw.2 c hc
theorem name_none {w : List UInt8} (h : isName w = true) : ∀ c ∈ w, c ≠ 40 ∧ c ≠ 41 := fun c hc => inner_ne (name_inner h c hc)
theorem dec_none (n : Nat) : ∀ c ∈ dec n, c ≠ 40 ∧ c ≠ 41 := fun c hc => digit_ne (decF_digit 20 n c hc)
theorem symbol_none (k : Nat) : ∀ c ∈ symbol k, c ≠ 40 ∧ c ≠ 41 := by
  by_cases h : k < 24
  · have : ∀ i : Fin 24, ∀ c ∈ symbol i.1, c ≠ 40 ∧ c ≠ 41 := by decide
    exact this ⟨k, h⟩
  · unfold symbol
    rw [List.getD_eq_getElem?_getD, List.getElem?_eq_none (by simpa [opTable] using h)]
    simp
theorem pc_prE : ∀ (n : Nat) (t : Tree), t.size ≤ n → okT t 101 = true → pc (prE t) = par t
  | 0, t, hs, _ => by have := t.size_pos; omega
  | n + 1, .node k num nm kids, hs, h => by
    rcases okE_inv h with ⟨rfl, _, _, _, rfl⟩ | ⟨rfl, _, hn, rfl⟩ | ⟨rfl, _, hn, a, rfl, ha⟩ | ⟨hk, _, _, a, rfl, ha⟩ | ⟨h1, h2, _, _, a, b, rfl, ha, hb⟩
    · simp only [prE, if_true, par]; exact pc_none (fun c hc => (dec_none _ c hc).1)
    · simp only [prE, par]; exact pc_none (fun c hc => (name_none hn c hc).1)
    · simp only [Tree.size, sizeL] at hs
      have ih := pc_prE n a (by omega) ha
      simp only [prE, if_true, par, pc_app, ih, pc_none (fun c hc => (name_none hn c hc).1)]
      simp [pc]
    · simp only [Tree.size, sizeL] at hs
      have ih := pc_prE n a (by omega) ha
      simp only [prE, par]
      rw [if_neg (by omega), if_neg (by omega), pc_app, pc_wrap, ih, pc_none (fun c hc => (symbol_none k c hc).1)]
      omega
    · simp only [Tree.size, sizeL] at hs
      have iha := pc_prE n a (by omega) ha
      have ihb := pc_prE n b (by omega) hb
      simp only [prE, par, pc_app, pc_wrap, iha, ihb, pc_none (fun c hc => (symbol_none k c hc).1)]
      simp [pc]
section
variable {E : Env}
/-- The number of opening parentheses among the first tokens. -/
def pk (E : Env) (i : Nat) : Nat := (E.ts.take i).countP (fun t => t.text == [40])
theorem pk_mono {i j : Nat} (h : i ≤ j) : pk E i ≤ pk E j := by
  unfold pk
  exact List.Sublist.countP_le (List.take_sublist_take_left h)
theorem pk_open {σ : St} (h : sees E σ [40] = true) : pk E σ.next + 1 ≤ pk E (σ.next + 1) := by
  obtain ⟨_, hl⟩ := sees_err E h
  unfold pk
  rw [List.take_succ_eq_append_getElem hl, List.countP_append]
  have h2 := cur_at E hl
  rw [List.getElem?_eq_getElem hl] at h2
  injection h2 with h2
  unfold sees at h
  rw [Bool.and_eq_true] at h
  rw [h2]
  simp [h.2]
def wl (l : Nat) (t : Tree) : Nat := b2n (bin t.kind && decide (level t.kind < l))
theorem wl_le (l : Nat) (t : Tree) : wl l t ≤ b2n (bin t.kind) := by
  unfold wl b2n
  cases bin t.kind <;> simp
  split <;> omega
theorem wl_zero {l : Nat} {t : Tree} (h : ¬ level t.kind < l) : wl l t = 0 := by
  unfold wl b2n
  rw [decide_eq_false h, Bool.and_false]; rfl
theorem b2n_le (b : Bool) : b2n b ≤ 1 := by unfold b2n; split <;> omega
/-- Where the loop of operators of a level stops. -/
def Stops (E : Env) (l : Nat) (σ : St) : Prop := more E σ = true → ∀ op, opOf (cur E σ).text = some op → level op < l
theorem few_expr : ∀ (n : Nat), (∀ σ r, unary E n σ = some r → r.1.err = 0 → pk E σ.next + par r.2 + b2n (bin r.2.kind) ≤ pk E r.1.next) ∧ (∀ σ r, primary E n σ = some r → r.1.err = 0 → pk E σ.next + par r.2 + b2n (bin r.2.kind) ≤ pk E r.1.next) ∧
    (∀ σ r, place E n σ = some r → r.1.err = 0 → pk E σ.next + par r.2 ≤ pk E r.1.next ∧ bin r.2.kind = false) ∧
    (∀ l σ r, binary E n l σ = some r → r.1.err = 0 → pk E σ.next + par r.2 + wl l r.2 ≤ pk E r.1.next ∧ Stops E l r.1) ∧
    (∀ l σ t r, binLoop E n l σ t = some r → r.1.err = 0 → ∀ c, c + par t + wl l t ≤ pk E σ.next → (more E σ = true → ∀ op, opOf (cur E σ).text = some op → l ≤ level op → c + par t + wl (level op) t ≤ pk E σ.next) → c + par r.2 + wl l r.2 ≤ pk E r.1.next ∧ Stops E l r.1)
  | 0 => ⟨fun _ _ h => by simp [unary] at h, fun _ _ h => by simp [primary] at h, fun _ _ h => by simp [place] at h, fun _ _ _ h => by simp [binary] at h, fun _ _ _ _ h => by simp [binLoop] at h⟩
  | n + 1 => by
    obtain ⟨hu, hp, hpl, hb, hl⟩ := few_expr n
    have mono1 : ∀ i, pk E i ≤ pk E (i + 1) := fun i => pk_mono (Nat.le_succ i)
    refine ⟨fun σ r h he => ?_, fun σ r h he => ?_, fun σ r h he => ?_, fun l σ r h he => ?_, fun l σ t r h he c hc1 hc2 => ?_⟩
    · rw [unary] at h
      split at h
      · obtain ⟨x, hx, rfl⟩ := Option.map_eq_some_iff.1 h
        have := hu _ _ hx he
        have m1 := mono1 σ.next
        simp only [adv] at this
        have hpar : par (.node 4 0 [] [x.2]) = par x.2 + b2n (bin x.2.kind) := by simp [par]
        have hk : b2n (bin (Tree.node 4 0 [] [x.2]).kind) = 0 := rfl
        show pk E σ.next + par (.node 4 0 [] [x.2]) + b2n (bin (Tree.node 4 0 [] [x.2]).kind) ≤ pk E x.1.next
        rw [hpar, hk]
        omega
      · split at h
        · obtain ⟨x, hx, rfl⟩ := Option.map_eq_some_iff.1 h
          have := hu _ _ hx he
          have m1 := mono1 σ.next
          simp only [adv] at this
          have hpar : par (.node 5 0 [] [x.2]) = par x.2 + b2n (bin x.2.kind) := by simp [par]
          have hk : b2n (bin (Tree.node 5 0 [] [x.2]).kind) = 0 := rfl
          show pk E σ.next + par (.node 5 0 [] [x.2]) + b2n (bin (Tree.node 5 0 [] [x.2]).kind) ≤ pk E x.1.next
          rw [hpar, hk]
          omega
        · exact hp _ _ h he
    · rw [primary] at h
      split at h
      · rename_i hc
        obtain ⟨x, hx, rfl⟩ := Option.map_eq_some_iff.1 h
        have e1 := ok_back (le_require E x.1 [41]) he
        have h1 := (hb _ _ x hx e1).1
        have h2 := pk_open hc
        have h3 := pk_mono (E := E) (le_require E x.1 [41]).1
        have h4 := b2n_le (bin x.2.kind)
        simp only [adv] at h1
        show pk E σ.next + par x.2 + b2n (bin x.2.kind) ≤ pk E (require E x.1 [41]).next
        omega
      · split at h
        · injection h with h; subst h
          have h3 := pk_mono (E := E) (le_numP E σ 0 2147483647).1
          simp only [par, Tree.kind]
          rw [show b2n (bin 1) = 0 from rfl]
          omega
        · obtain ⟨h1, h2⟩ := hpl _ _ h he
          rw [h2]
          simpa [b2n] using h1
    · rw [place] at h
      split at h
      · rename_i hc
        obtain ⟨x, hx, rfl⟩ := Option.map_eq_some_iff.1 h
        have e1 := ok_back (le_require E x.1 [93]) he
        have h1 := (hb _ _ x hx e1).1
        have h3 := pk_mono (E := E) (le_require E x.1 [93]).1
        have h4 := pk_mono (E := E) (le_nameP E σ).1
        have h5 := mono1 (nameP E σ).1.next
        simp only [adv] at h1
        have hpar : par (.node 3 0 (nameP E σ).2 [x.2]) = par x.2 := by simp [par]
        refine ⟨?_, rfl⟩
        show pk E σ.next + par (.node 3 0 (nameP E σ).2 [x.2]) ≤ pk E (require E x.1 [93]).next
        rw [hpar]
        omega
      · injection h with h; subst h
        have h4 := pk_mono (E := E) (le_nameP E σ).1
        simp only [par, Tree.kind]
        exact ⟨by omega, rfl⟩
    · rw [binary] at h
      obtain ⟨x, hx, hr⟩ := Option.bind_eq_some_iff.1 h
      have e1 := ok_back ((expr_le E n).2.2.2.2 _ _ _ _ hr) he
      have h1 := hu _ _ hx e1
      have w1 := wl_le l x.2
      exact hl _ _ _ _ hr he (pk E σ.next) (by omega) (fun _ op _ _ => by have := wl_le (level op) x.2; omega)
    · rw [binLoop] at h
      split at h
      · rename_i hm
        split at h
        · rename_i op ho
          split at h
          · rename_i hlt
            injection h with h; subst h
            exact ⟨hc1, fun _ op' ho' => by rw [ho] at ho'; injection ho' with ho'; subst ho'; exact hlt⟩
          · rename_i hge
            obtain ⟨x, hx, hr⟩ := Option.bind_eq_some_iff.1 h
            have e1 := ok_back ((expr_le E n).2.2.2.2 _ _ _ _ hr) he
            obtain ⟨h1, h2⟩ := hb _ _ x hx e1
            have h3 := hc2 hm op ho (by omega)
            have m1 := mono1 σ.next
            have hpar : par (.node op 0 [] [t, x.2]) = par t + wl (level op) t + (par x.2 + wl (level op + 1) x.2) := by
              simp only [par, wl]
              congr 2
              congr 1
              cases bin x.2.kind <;> simp
              omega
            simp only [adv] at h1
            refine hl _ _ _ _ hr he c ?_ (fun hm2 op2 ho2 hl2 => ?_)
            · rw [hpar]
              have : wl l (.node op 0 [] [t, x.2]) = 0 := wl_zero (show ¬ level op < l from hge)
              omega
            · rw [hpar]
              have h5 := h2 hm2 op2 ho2
              have : wl (level op2) (.node op 0 [] [t, x.2]) = 0 := wl_zero (show ¬ level op < level op2 from by omega)
              omega
        · rename_i ho
          injection h with h; subst h
          exact ⟨hc1, fun _ op' ho' => by rw [ho] at ho'; cases ho'⟩
      · rename_i hm
        injection h with h; subst h
        exact ⟨hc1, fun hm' => absurd hm' hm⟩
end
theorem count_flat : ∀ (ts : List Tok), ts.countP (fun t => t.text == [40]) ≤ pc (ts.flatMap Tok.text)
  | [] => by simp
  | t :: ts => by
    have ih := count_flat ts
    rw [List.countP_cons, List.flatMap_cons, pc_app]
    split
    · rename_i h
      have : t.text = [40] := by simpa using h
      rw [this]
      have : pc [40] = 1 := by decide
      omega
    · omega
theorem pk_total (l : List UInt8) (i : Nat) : pk (envL l) i ≤ pc l := by
  have h1 : pk (envL l) i ≤ ((lex l).1.filter solidT).countP (fun t => t.text == [40]) := by
    unfold pk envL
    exact List.Sublist.countP_le (List.take_sublist _ _)
  have h2 : ((lex l).1.filter solidT).countP (fun t => t.text == [40]) ≤ (lex l).1.countP (fun t => t.text == [40]) := List.Sublist.countP_le List.filter_sublist
  have h3 : (lex l).1.countP (fun t => t.text == [40]) ≤ pc l := by
    by_cases he : (lex l).2.2 = 0
    · obtain ⟨_, hj, _⟩ := joins (l := l) (ts := (lex l).1) (at_ := (lex l).2.1) (by rw [← he])
      have := count_flat (lex l).1
      rw [hj] at this
      exact this
    · have : (lex l).1 = [] := by
        by_cases hl : l.length ≤ 65536
        · exact (lex_error (l := l) (ts := (lex l).1) (at_ := (lex l).2.1) (e := (lex l).2.2) rfl he hl).1
        · rw [lex_full (by omega)]
      rw [this]; simp
  omega
/-- A text with fewer opening parentheses is not read as the expression. -/
theorem fewest {t : Tree} (h : okT t 101 = true) {l : List UInt8} (hl : pc l < pc (prE t)) {n : Nat} {q : St × Tree} (hq : exprP (envL l) n (sigT l) = some q) (he : q.1.err = 0) : q.2 ≠ t := by
  intro ht
  unfold exprP at hq
  obtain ⟨x, hx, rfl⟩ := Option.map_eq_some_iff.1 hq
  have e1 : x.1.err = 0 := by
    have h1 := (limitP_ok he).1
    split at h1
    · exact absurd h1 (reject_err _ _)
    · exact h1
  have h1 := ((few_expr n).2.2.2.1 _ _ x hx e1).1
  have h2 := pk_total l x.1.next
  have h3 := pc_prE t.size t (Nat.le_refl _) h
  simp only at ht
  rw [ht] at h1
  omega
/-! ### Balance -/
def bl1 (c : UInt8) : Int := if c = 40 then 1 else if c = 41 then -1 else 0
def bal : List UInt8 → Int
  | [] => 0
  | c :: l => bl1 c + bal l
theorem bal_app : ∀ (a b : List UInt8), bal (a ++ b) = bal a + bal b
  | [], b => by simp [bal]
  | c :: a, b => by simp only [List.cons_append, bal, bal_app a b]; omega
def Bal (l : List UInt8) : Prop := bal l = 0 ∧ ∀ i, 0 ≤ bal (l.take i)
theorem Bal.app {a b : List UInt8} (ha : Bal a) (hb : Bal b) : Bal (a ++ b) := by
  refine ⟨by rw [bal_app, ha.1, hb.1]; rfl, fun i => ?_⟩
  rw [List.take_append, bal_app]
  have h1 := ha.2 i
  have h2 := hb.2 (i - a.length)
  omega
theorem Bal.none : ∀ {l : List UInt8}, (∀ c ∈ l, c ≠ 40 ∧ c ≠ 41) → Bal l := by
  intro l h
  have hz : ∀ m : List UInt8, (∀ c ∈ m, c ≠ 40 ∧ c ≠ 41) → bal m = 0 := by
    intro m
    induction m with
    | nil => intro _; rfl
    | cons c m ih =>
      intro hm
      have h1 := hm c (by simp)
      simp only [bal, bl1, h1.1, h1.2, if_false, ih (fun d hd => hm d (by simp [hd]))]
      rfl
  exact ⟨hz l h, fun i => by rw [hz _ (fun c hc => h c (List.mem_of_mem_take hc))]; omega⟩
theorem Bal.wrap {b : Bool} {l : List UInt8} (h : Bal l) : Bal (wrapP b l) := by
  unfold wrapP
  cases b with
  | false => exact h
  | true =>
    simp only [if_true]
    refine ⟨?_, fun i => ?_⟩
    · rw [bal_app, bal_app, h.1]; decide
    · rw [List.append_assoc, List.take_append, bal_app, List.take_append, bal_app]
      have h1 := h.2 (i - ([40] : List UInt8).length)
      have hA : bal (([40] : List UInt8).take i) = if i = 0 then 0 else 1 := by
        cases i with
        | zero => rfl
        | succ i => simp [bal, bl1]
      have hB : bal (([41] : List UInt8).take (i - ([40] : List UInt8).length - l.length)) = if i - 1 - l.length = 0 then 0 else -1 := by
        simp only [List.length_cons, List.length_nil]
        cases hi : i - (0 + 1) - l.length with
        | zero => rw [if_pos (by omega)]; rfl
        | succ j => rw [if_neg (by omega)]; simp [bal, bl1]
      rw [hA, hB]
      split <;> split <;> omega
theorem bal_prE : ∀ (n : Nat) (t : Tree), t.size ≤ n → okT t 101 = true → Bal (prE t)
  | 0, t, hs, _ => by have := t.size_pos; omega
  | n + 1, .node k num nm kids, hs, h => by
    rcases okE_inv h with ⟨rfl, _, _, _, rfl⟩ | ⟨rfl, _, hn, rfl⟩ | ⟨rfl, _, hn, a, rfl, ha⟩ | ⟨hk, _, _, a, rfl, ha⟩ | ⟨h1, h2, _, _, a, b, rfl, ha, hb⟩
    · simp only [prE, if_true]; exact Bal.none (dec_none _)
    · simp only [prE]; exact Bal.none (name_none hn)
    · simp only [Tree.size, sizeL] at hs
      simp only [prE, if_true]
      exact (((Bal.none (name_none hn)).app (Bal.none (by decide))).app (bal_prE n a (by omega) ha)).app (Bal.none (by decide))
    · simp only [Tree.size, sizeL] at hs
      simp only [prE]
      rw [if_neg (by omega)]
      exact (Bal.none (symbol_none k)).app (bal_prE n a (by omega) ha).wrap
    · simp only [Tree.size, sizeL] at hs
      simp only [prE]
      exact ((((bal_prE n a (by omega) ha).wrap.app (Bal.none (by decide))).app (Bal.none (symbol_none k))).app (Bal.none (by decide))).app (bal_prE n b (by omega) hb).wrap
mutual
theorem eqT_eq : ∀ t t' : Tree, eqT t t' = true → t = t'
  | .node k n s ks, .node k' n' s' ks', h => by
    simp only [eqT, Bool.and_eq_true, beq_iff_eq] at h
    obtain ⟨⟨⟨rfl, rfl⟩, rfl⟩, h⟩ := h
    rw [eqL_eq ks ks' h]
theorem eqL_eq : ∀ l m : List Tree, eqL l m = true → l = m
  | [], [], _ => rfl
  | [], _ :: _, h => by simp [eqL] at h
  | _ :: _, [], h => by simp [eqL] at h
  | a :: l, b :: m, h => by
    simp only [eqL, Bool.and_eq_true] at h
    rw [eqT_eq a b h.1, eqL_eq l m h.2]
end
end Go.Proofs.YtfakdbnfpdalhaaDoor.PP
