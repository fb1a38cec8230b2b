/- The parser's plain functions read the tokens of a printed block or program as that block or program. -/
import Derived.Test.YtfakdbnfpdalhaaGreatDoorPlainSt
namespace Go.Proofs.YtfakdbnfpdalhaaGreatDoor.PP
open PL
section
variable {E : Env}
theorem name_not {x w : List UInt8} (h : isName x = true) (hw : isName w = false) : (x == w) = false := by
  cases hx : (x == w) with
  | false => rfl
  | true =>
    have e : x = w := by simpa using hx
    rw [e, hw] at h; cases h
theorem read_place {t : Tree} (h : okT t 112 = true) {i : Nat} (hA : At E i (tokE t)) (hN : NextOk E (i + (tokE t).length) 12) : ∃ m, place E m (at0 i) = some (at0 (i + (tokE t).length), t) := by
  have h101 := okT_place h
  cases t with
  | node k num nm kids =>
    have hb : bin k = false := by
      rcases okP_inv h with ⟨rfl, _⟩ | ⟨rfl, _⟩ <;> rfl
    obtain ⟨m, hm⟩ := (read_all (E := E) _ _ (Nat.le_refl _) h101).2 hb i hA hN
    have hhead : ∃ nm' ks, isName nm' = true ∧ At E i ((1, nm') :: ks) := by
      rcases okP_inv h with ⟨rfl, _, hn, rfl⟩ | ⟨rfl, _, hn, a, rfl, _⟩
      · exact ⟨nm, [], hn, by simpa [tokE] using hA⟩
      · exact ⟨nm, _, hn, by simpa [tokE] using hA⟩
    obtain ⟨nm', ks, hn, hH⟩ := hhead
    obtain ⟨e1, e2, e3⟩ := word_ne (name_wordB hn)
    match m, hm with
    | 0, hm => simp [unary] at hm
    | 1, hm =>
      rw [unary, hH.sees, hH.sees, e1, e2, if_neg (by decide), if_neg (by decide)] at hm
      simp [primary] at hm
    | m + 2, hm =>
      rw [unary, hH.sees, hH.sees, e1, e2, if_neg (by decide), if_neg (by decide), primary, hH.sees, e3, if_neg (by decide), hH.more, hH.kind, if_neg (by simp)] at hm
      exact ⟨m, hm⟩
theorem At.tl {i : Nat} {x : Nat × List UInt8} {ks : List (Nat × List UInt8)} (h : At E i ([x] ++ ks)) : At E (i + 1) ks := At.right (a := [x]) h
def ReadS (E : Env) (t : Tree) : Prop := ∀ i, At E i (tokS t) → ∃ m, statement E m (at0 i) = some (at0 (i + (tokS t).length), t)
def ReadBk (E : Env) (t : Tree) : Prop := ∀ i, At E i ([(3, [123])] ++ tokB t ++ [(3, [125])]) → ∃ m, block E m (at0 i) = some (at0 (i + ((tokB t).length + 2)), t)
theorem at_eq {i j : Nat} (h : i = j) : at0 i = at0 j := by rw [h]
theorem read_assign {a b : Tree} (ha : okT a 112 = true) (hb : okT b 101 = true) : ReadS E (.node 40 0 [] [a, b]) := by
  intro i hA
  rw [show tokS (.node 40 0 [] [a, b]) = tokE a ++ ([(3, [61])] ++ (tokE b ++ [(3, [59])])) from by simp [tokS]] at hA ⊢
  have a1 := hA.left
  have a2 := hA.right
  have a3 := a2.tl.left
  have a4 : At E (i + (tokE a).length + 1 + (tokE b).length) [(3, [59])] := a2.tl.right
  obtain ⟨m1, h1⟩ := read_place ha a1 (a2.next (by simp) (no_op (by decide)))
  obtain ⟨m2, h2⟩ := read_expr hb a3 (a4.next (by simp) (no_op (by decide)))
  obtain ⟨nm, ks, hn, hH⟩ : ∃ nm ks, isName nm = true ∧ At E i ((1, nm) :: ks) := by
    cases a with
    | node k num nm kids =>
      rcases okP_inv ha with ⟨rfl, _, hn, rfl⟩ | ⟨rfl, _, hn, a', rfl, _⟩
      · exact ⟨nm, [], hn, by simpa [tokE] using a1⟩
      · exact ⟨nm, _, hn, by simpa [tokE] using a1⟩
  refine ⟨max m1 m2 + 1, ?_⟩
  rw [statement, hH.sees, hH.sees, hH.sees, hH.sees, hH.sees, hH.sees]
  simp only
  rw [name_not hn (by decide), name_not hn (by decide), name_not hn (by decide), name_not hn (by decide), name_not hn (by decide), name_not hn (by decide)]
  simp only [Bool.false_eq_true, if_false]
  rw [place_le E (Nat.le_max_left m1 m2) h1]
  simp only [Option.bind_some]
  rw [a2.require, binary_le E (Nat.le_max_right m1 m2) h2]
  simp only [Option.map_some]
  rw [a4.require]
  simp only [List.length_append, List.length_cons, List.length_nil]
  rw [at_eq (show i + (tokE a).length + 1 + (tokE b).length + 1 = i + ((tokE a).length + (0 + 1 + ((tokE b).length + (0 + 1)))) from by omega)]
theorem read_if {a b c : Tree} (ha : okT a 101 = true) (hb : ReadBk E b) (hc : ReadBk E c) : ReadS E (.node 41 0 [] [a, b, c]) := by
  intro i hA
  rw [show tokS (.node 41 0 [] [a, b, c]) = [(1, wIf)] ++ (tokE a ++ (([(3, [123])] ++ tokB b ++ [(3, [125])]) ++ ([(1, wElse)] ++ ([(3, [123])] ++ tokB c ++ [(3, [125])])))) from by simp [tokS]] at hA ⊢
  have a1 := hA.tl
  have a2 := a1.left
  have a3 := a1.right
  have a4 := a3.left
  have a5 := a3.right
  have a6 := a5.tl
  obtain ⟨m1, h1⟩ := read_expr ha a2 (by
    have a4' : At E (i + 1 + (tokE a).length) ((3, [123]) :: (tokB b ++ [(3, [125])])) := by simpa using a4
    exact a4'.next (by simp) (no_op (by decide)))
  obtain ⟨m2, h2⟩ := hb _ a4
  obtain ⟨m3, h3⟩ := hc _ a6
  refine ⟨max m1 (max m2 m3) + 2, ?_⟩
  rw [statement, hA.sees, if_pos (by decide), choice, show (require E (at0 i) [105, 102]) = at0 (i + 1) from hA.require, binary_le E (Nat.le_max_left _ _) h1]
  simp only [Option.bind_some]
  rw [block_le E (Nat.le_trans (Nat.le_max_left m2 m3) (Nat.le_max_right m1 _)) h2]
  simp only [Option.bind_some]
  have hl : ([(3, [123])] ++ tokB b ++ [(3, [125])] : List (Nat × List UInt8)).length = (tokB b).length + 2 := by simp
  rw [hl] at a5 h3
  rw [show require E (at0 (i + 1 + (tokE a).length + ((tokB b).length + 2))) [101, 108, 115, 101] = at0 (i + 1 + (tokE a).length + ((tokB b).length + 2) + 1) from a5.require]
  rw [block_le E (Nat.le_trans (Nat.le_max_right m2 m3) (Nat.le_max_right m1 _)) h3]
  simp only [Option.map_some, List.length_append, List.length_cons, List.length_nil]
  rw [at_eq (show i + 1 + (tokE a).length + ((tokB b).length + 2) + 1 + ((tokB c).length + 2) = i + (0 + 1 + ((tokE a).length + (0 + 1 + (tokB b).length + (0 + 1) + (0 + 1 + (0 + 1 + (tokB c).length + (0 + 1)))))) from by omega)]
theorem read_for {a : Tree} {num : Int} {nm : List UInt8} (hn : isName nm = true) (h1 : 1 ≤ num) (h2 : num ≤ 1000) (ha : ReadBk E a) : ReadS E (.node 42 num nm [a]) := by
  intro i hA
  obtain ⟨n, rfl⟩ := Int.eq_ofNat_of_zero_le (by omega : 0 ≤ num)
  rw [show tokS (.node 42 (n : Int) nm [a]) = [(1, wFor)] ++ ([(1, nm)] ++ ([(3, [60])] ++ ([(2, dec n)] ++ ([(3, [123])] ++ tokB a ++ [(3, [125])])))) from by simp [tokS]] at hA ⊢
  have a1 := hA.tl
  have a2 := a1.tl
  have a3 := a2.tl
  have a4 := a3.tl
  obtain ⟨m, hm⟩ := ha _ a4
  refine ⟨m + 1, ?_⟩
  rw [statement, hA.sees, hA.sees, if_neg (by decide), if_pos (by decide)]
  simp only
  rw [show adv (at0 i) = at0 (i + 1) from rfl, a1.name hn]
  simp only
  rw [a2.require, a3.num (by omega) (by omega) (by omega)]
  simp only
  rw [hm]
  simp only [Option.map_some, List.length_append, List.length_cons, List.length_nil]
  rw [at_eq (show i + 1 + 1 + 1 + 1 + ((tokB a).length + 2) = i + (0 + 1 + (0 + 1 + (0 + 1 + (0 + 1 + (0 + 1 + (tokB a).length + (0 + 1)))))) from by omega)]
theorem read_while {a b : Tree} {num : Int} (ha : okT a 101 = true) (h1 : 1 ≤ num) (h2 : num ≤ 1000) (hb : ReadBk E b) : ReadS E (.node 43 num [] [a, b]) := by
  intro i hA
  obtain ⟨n, rfl⟩ := Int.eq_ofNat_of_zero_le (by omega : 0 ≤ num)
  rw [show tokS (.node 43 (n : Int) [] [a, b]) = [(1, wWhile)] ++ (tokE a ++ ([(1, wBound)] ++ ([(2, dec n)] ++ ([(3, [123])] ++ tokB b ++ [(3, [125])])))) from by simp [tokS]] at hA ⊢
  have a1 := hA.tl
  have a2 := a1.left
  have a3 := a1.right
  have a4 := a3.tl
  have a5 := a4.tl
  obtain ⟨m1, hm1⟩ := read_expr ha a2 (a3.next (by simp [wBound]) (no_op (by decide)))
  obtain ⟨m, hm⟩ := hb _ a5
  refine ⟨max m1 m + 1, ?_⟩
  rw [statement, hA.sees, hA.sees, hA.sees, if_neg (by decide), if_neg (by decide), if_pos (by decide)]
  rw [show adv (at0 i) = at0 (i + 1) from rfl, binary_le E (Nat.le_max_left _ _) hm1]
  simp only [Option.bind_some]
  rw [show require E (at0 (i + 1 + (tokE a).length)) [98, 111, 117, 110, 100] = _ from a3.require, a4.num (by omega) (by omega) (by omega)]
  simp only
  rw [block_le E (Nat.le_max_right _ _) hm]
  simp only [Option.map_some, List.length_append, List.length_cons, List.length_nil]
  rw [at_eq (show i + 1 + (tokE a).length + 1 + 1 + ((tokB b).length + 2) = i + (0 + 1 + ((tokE a).length + (0 + 1 + (0 + 1 + (0 + 1 + (tokB b).length + (0 + 1)))))) from by omega)]
theorem read_transfer {i n kind : Nat} {kid : Tree} (hn : (n : Int) ≤ 7) (h : At E i [(3, [44]), (2, dec n), (3, [59])]) : transfer E kind kid (at0 i) = (at0 (i + 3), .node kind n [] [kid]) := by
  unfold transfer
  rw [h.require, h.tail.num (by omega) hn (by omega)]
  simp only
  rw [h.tail.tail.require]
theorem read_in {a : Tree} {num : Int} (ha : okT a 112 = true) (h1 : 0 ≤ num) (h2 : num ≤ 7) : ReadS E (.node 44 num [] [a]) := by
  intro i hA
  obtain ⟨n, rfl⟩ := Int.eq_ofNat_of_zero_le h1
  rw [show tokS (.node 44 (n : Int) [] [a]) = [(1, wIn)] ++ (tokE a ++ [(3, [44]), (2, dec n), (3, [59])]) from by simp [tokS]] at hA ⊢
  have a1 := hA.tl
  have a2 := a1.left
  have a3 := a1.right
  obtain ⟨m1, hm1⟩ := read_place ha a2 (a3.next (by simp) (no_op (by decide)))
  refine ⟨m1 + 1, ?_⟩
  rw [statement, hA.sees, hA.sees, hA.sees, hA.sees, if_neg (by decide), if_neg (by decide), if_neg (by decide), if_pos (by decide)]
  rw [show adv (at0 i) = at0 (i + 1) from rfl, hm1]
  simp only [Option.map_some]
  rw [read_transfer h2 a3]
  simp only [List.length_append, List.length_cons, List.length_nil]
  rw [at_eq (show i + 1 + (tokE a).length + 3 = i + (0 + 1 + ((tokE a).length + (0 + 1 + 1 + 1))) from by omega)]
theorem read_out {a : Tree} {num : Int} (ha : okT a 101 = true) (h1 : 0 ≤ num) (h2 : num ≤ 7) : ReadS E (.node 45 num [] [a]) := by
  intro i hA
  obtain ⟨n, rfl⟩ := Int.eq_ofNat_of_zero_le h1
  rw [show tokS (.node 45 (n : Int) [] [a]) = [(1, wOut)] ++ (tokE a ++ [(3, [44]), (2, dec n), (3, [59])]) from by simp [tokS]] at hA ⊢
  have a1 := hA.tl
  have a2 := a1.left
  have a3 := a1.right
  obtain ⟨m1, hm1⟩ := read_expr ha a2 (a3.next (by simp) (no_op (by decide)))
  refine ⟨m1 + 1, ?_⟩
  rw [statement, hA.sees, hA.sees, hA.sees, hA.sees, hA.sees, if_neg (by decide), if_neg (by decide), if_neg (by decide), if_neg (by decide), if_pos (by decide)]
  rw [show adv (at0 i) = at0 (i + 1) from rfl, hm1]
  simp only [Option.map_some]
  rw [read_transfer h2 a3]
  simp only [List.length_append, List.length_cons, List.length_nil]
  rw [at_eq (show i + 1 + (tokE a).length + 3 = i + (0 + 1 + ((tokE a).length + (0 + 1 + 1 + 1))) from by omega)]
theorem read_lock {a : Tree} {nm : List UInt8} (hn : isName nm = true) (ha : ReadBk E a) : ReadS E (.node 46 0 nm [a]) := by
  intro i hA
  rw [show tokS (.node 46 0 nm [a]) = [(1, wLock)] ++ ([(1, nm)] ++ ([(3, [123])] ++ tokB a ++ [(3, [125])])) from by simp [tokS]] at hA ⊢
  have a1 := hA.tl
  have a2 := a1.tl
  obtain ⟨m, hm⟩ := ha _ a2
  refine ⟨m + 1, ?_⟩
  rw [statement, hA.sees, hA.sees, hA.sees, hA.sees, hA.sees, hA.sees, if_neg (by decide), if_neg (by decide), if_neg (by decide), if_neg (by decide), if_neg (by decide), if_pos (by decide)]
  simp only
  rw [show adv (at0 i) = at0 (i + 1) from rfl, a1.name hn]
  simp only
  rw [hm]
  simp only [Option.map_some, List.length_append, List.length_cons, List.length_nil]
  rw [at_eq (show i + 1 + 1 + ((tokB a).length + 2) = i + (0 + 1 + (0 + 1 + (0 + 1 + (tokB a).length + (0 + 1)))) from by omega)]
/-- The first token of a statement. -/
theorem tokS_head {t : Tree} (h : okT t 115 = true) : ∃ x ks, tokS t = (1, x) :: ks ∧ wordB x = true := by
  cases t with
  | node k num nm kids =>
    rcases okS_inv h with ⟨rfl, rfl, rfl, a, d, rfl, ha, hd⟩ | ⟨rfl, rfl, rfl, a, d, f, rfl, ha, hd, hf⟩ | ⟨rfl, h1, h2, hn, a, rfl, ha⟩ | ⟨rfl, h1, h2, rfl, a, d, rfl, ha, hd⟩ | ⟨rfl, h1, h2, rfl, a, rfl, ha⟩ | ⟨rfl, h1, h2, rfl, a, rfl, ha⟩ | ⟨rfl, rfl, hn, a, rfl, ha⟩
    · cases a with
      | node k num nm kids =>
        rcases okP_inv ha with ⟨rfl, _, hn, rfl⟩ | ⟨rfl, _, hn, a', rfl, _⟩
        · exact ⟨nm, _, by simp [tokS, tokE]; rfl, name_wordB hn⟩
        · exact ⟨nm, _, by simp [tokS, tokE]; rfl, name_wordB hn⟩
    · exact ⟨wIf, _, by simp [tokS]; rfl, rfl⟩
    · exact ⟨wFor, _, by simp [tokS]; rfl, rfl⟩
    · exact ⟨wWhile, _, by simp [tokS]; rfl, rfl⟩
    · exact ⟨wIn, _, by simp [tokS]; rfl, rfl⟩
    · exact ⟨wOut, _, by simp [tokS]; rfl, rfl⟩
    · exact ⟨wLock, _, by simp [tokS]; rfl, rfl⟩
theorem word_not {w : List UInt8} (h : wordB w = true) {c : UInt8} (hc : isLetter c = false) : (w == [c]) = false := by
  cases w with
  | nil => simp [wordB] at h
  | cons d t =>
    simp only [wordB, Bool.and_eq_true] at h
    simp
    intro e; subst e
    rw [hc] at h; cases h.1
theorem read_list {l : List Tree} (hok : okS l = true) (h : ∀ t ∈ l, ReadS E t) (top : Bool) : ∀ i acc, At E i (tokL l) → goes E top (at0 (i + (tokL l).length)) = false → ∃ m, stmts E m top (at0 i) acc = some (at0 (i + (tokL l).length), acc ++ l) := by
  induction l with
  | nil =>
    intro i acc _ hg
    simp only [tokL, List.length_nil, Nat.add_zero] at hg ⊢
    exact ⟨1, by rw [stmts, hg, if_neg (by decide), List.append_nil]⟩
  | cons t l ih =>
    intro i acc hA hg
    simp only [okS, Bool.and_eq_true] at hok
    simp only [tokL] at hA hg ⊢
    obtain ⟨x, ks, hx, hw⟩ := tokS_head hok.1
    have a1 := hA.left
    have a2 := hA.right
    obtain ⟨m1, h1⟩ := h t (by simp) i a1
    rw [List.length_append, ← Nat.add_assoc] at hg ⊢
    obtain ⟨m2, h2⟩ := ih hok.2 (fun y hy => h y (by simp [hy])) (i + (tokS t).length) (acc ++ [t]) a2 hg
    refine ⟨max m1 m2 + 1, ?_⟩
    rw [hx] at a1
    have hgo : goes E top (at0 i) = true := by
      unfold goes
      rw [a1.more, a1.sees]
      simp only
      rw [word_not hw (by decide)]
      simp
    rw [stmts, hgo, if_pos rfl, statement_le E (Nat.le_max_left m1 m2) h1]
    simp only [Option.bind_some]
    rw [stmts_le E (Nat.le_max_right m1 m2) h2]
    simp
theorem read_block {l : List Tree} (hok : okS l = true) (h : ∀ t ∈ l, ReadS E t) : ReadBk E (.node 47 0 [] l) := by
  intro i hA
  have a1 : At E (i + 1) (tokL l ++ [(3, [125])]) := by
    have := hA
    simp only [tokB, List.append_assoc] at this
    exact this.tl
  have a0 : At E i ((3, [123]) :: (tokL l ++ [(3, [125])])) := by simpa [tokB] using hA
  have a2 := a1.left
  have a3 := a1.right
  have hg : goes E false (at0 (i + 1 + (tokL l).length)) = false := by
    unfold goes
    rw [a3.more, a3.sees]
    simp
  obtain ⟨m, hm⟩ := read_list hok h false (i + 1) [] a2 hg
  refine ⟨m + 1, ?_⟩
  rw [block, a0.require, hm]
  simp only [Option.map_some, List.nil_append]
  rw [a3.require]
  simp only [tokB]
  rw [at_eq (show i + 1 + (tokL l).length + 1 = i + ((tokL l).length + 2) from by omega)]
theorem readS_upto : ∀ (n : Nat), (∀ t : Tree, t.size ≤ n → okT t 115 = true → ReadS E t) ∧ (∀ t : Tree, t.size ≤ n → okT t 98 = true → ReadBk E t)
  | 0 => ⟨fun t hs => by have := t.size_pos; omega, fun t hs => by have := t.size_pos; omega⟩
  | n + 1 => by
    obtain ⟨ihS, ihB⟩ := readS_upto n
    refine ⟨fun t hs h => ?_, fun t hs h => ?_⟩
    · cases t with
      | node k num nm kids =>
        rcases okS_inv h with ⟨rfl, rfl, rfl, a, d, rfl, ha, hd⟩ | ⟨rfl, rfl, rfl, a, d, f, rfl, ha, hd, hf⟩ | ⟨rfl, h1, h2, hn, a, rfl, ha⟩ | ⟨rfl, h1, h2, rfl, a, d, rfl, ha, hd⟩ | ⟨rfl, h1, h2, rfl, a, rfl, ha⟩ | ⟨rfl, h1, h2, rfl, a, rfl, ha⟩ | ⟨rfl, rfl, hn, a, rfl, ha⟩
        all_goals simp only [Tree.size, sizeL] at hs
        · exact read_assign ha hd
        · exact read_if ha (ihB _ (by omega) hd) (ihB _ (by omega) hf)
        · exact read_for hn h1 h2 (ihB _ (by omega) ha)
        · exact read_while ha h1 h2 (ihB _ (by omega) hd)
        · exact read_in ha h1 h2
        · exact read_out ha h1 h2
        · exact read_lock hn (ihB _ (by omega) ha)
    · cases t with
      | node k num nm kids =>
        obtain ⟨rfl, rfl, rfl, hk⟩ := okB_inv h
        simp only [Tree.size] at hs
        exact read_block hk (fun x hx => ihS x (by have := size_in hx; omega) (okS_in hk hx))
theorem readL {l : List Tree} (h : okS l = true) (top : Bool) (i : Nat) (acc : List Tree) (hA : At E i (tokL l)) (hg : goes E top (at0 (i + (tokL l).length)) = false) : ∃ m, stmts E m top (at0 i) acc = some (at0 (i + (tokL l).length), acc ++ l) :=
  read_list h (fun t ht => (readS_upto t.size).1 t (Nat.le_refl _) (okS_in h ht)) top i acc hA hg

/-! ### Declarations and programs -/
theorem read_arr {a : ArrD} {w : List UInt8} {i : Nat} (h : okArr a = true) (hA : At E i (tokArr w a)) : arrayP E (at0 i) = (at0 (i + 6), a) := by
  simp only [okArr, Bool.and_eq_true, Bool.not_eq_true', decide_eq_false_iff_not] at h
  obtain ⟨nm, len⟩ := a
  obtain ⟨⟨h1, h2⟩, h3⟩ := h
  simp only at h1 h2 h3
  obtain ⟨n, rfl⟩ := Int.eq_ofNat_of_zero_le (by omega : 0 ≤ len)
  have a0 : At E i [(1, w), (1, nm), (3, [91]), (2, dec n), (3, [93]), (3, [59])] := hA
  unfold arrayP
  rw [show adv (at0 i) = at0 (i + 1) from rfl, a0.tail.name h1]
  simp only
  rw [a0.tail.tail.require, a0.tail.tail.tail.num (by omega) (by omega) (by omega)]
  simp only
  rw [a0.tail.tail.tail.tail.require, a0.tail.tail.tail.tail.tail.require]
theorem read_var {v : List UInt8} {i : Nat} (h : isName v = true) (hA : At E i (tokVar v)) : variableP E (at0 i) = (at0 (i + 3), v) := by
  have a0 : At E i [(1, wVar), (1, v), (3, [59])] := hA
  unfold variableP
  rw [show adv (at0 i) = at0 (i + 1) from rfl, a0.tail.name h]
  simp only
  rw [a0.tail.tail.require]
/-- The token at an index is no keyword of a declaration. -/
def NotDecl (E : Env) (i : Nat) : Prop := sees E (at0 i) kwVar = false ∧ sees E (at0 i) kwArray = false
theorem read_decls {as : List ArrD} : ∀ {vs : List (List UInt8)}, (∀ v ∈ vs, isName v = true) → (∀ a ∈ as, okArr a = true) → ∀ i vs0 as0, vs0.length + vs.length ≤ 12 → as0.length + as.length ≤ 4 → At E i (vs.flatMap tokVar ++ as.flatMap (tokArr wArray)) → NotDecl E (i + (vs.flatMap tokVar ++ as.flatMap (tokArr wArray)).length) →
    ∃ m, decls E m (at0 i) vs0 as0 = some (at0 (i + (vs.flatMap tokVar ++ as.flatMap (tokArr wArray)).length), vs0 ++ vs, as0 ++ as) := by
  induction as with
  | nil =>
    intro vs
    induction vs with
    | nil =>
      intro _ _ i vs0 as0 _ _ _ hN
      simp only [List.flatMap_nil, List.append_nil, List.length_nil, Nat.add_zero] at hN ⊢
      exact ⟨1, by rw [decls, hN.1, hN.2]; simp⟩
    | cons v vs ih =>
      intro hv ha i vs0 as0 h1 h2 hA hN
      simp only [List.length_cons] at h1
      simp only [List.flatMap_cons, List.flatMap_nil, List.append_nil] at hA hN ih ⊢
      have a1 := hA.left
      have a2 := hA.right
      have hl : (tokVar v).length = 3 := rfl
      rw [List.length_append, hl, ← Nat.add_assoc] at hN ⊢
      rw [hl] at a2
      obtain ⟨m, hm⟩ := ih (fun x hx => hv x (by simp [hx])) ha (i + 3) (vs0 ++ [v]) as0 (by simp; omega) h2 a2 hN
      refine ⟨m + 1, ?_⟩
      have hh : At E i ((1, wVar) :: [(1, v), (3, [59])]) := a1
      rw [decls, hh.sees, hh.sees]
      simp only
      rw [show (wVar == kwVar) = true from rfl, show (wVar == kwArray) = false from rfl, read_var (hv v (by simp)) a1]
      simp only [Bool.true_or, if_true, Bool.false_and, Bool.false_eq_true, if_false, Bool.true_and]
      rw [if_pos (by simp; omega), hm]
      simp
  | cons a as iha =>
    intro vs
    induction vs with
    | nil =>
      intro hv ha i vs0 as0 h1 h2 hA hN
      simp only [List.length_cons] at h2
      simp only [List.flatMap_cons, List.flatMap_nil, List.nil_append] at hA hN ⊢
      have a1 := hA.left
      have a2 := hA.right
      have hl : (tokArr wArray a).length = 6 := rfl
      rw [List.length_append, hl, ← Nat.add_assoc] at hN ⊢
      rw [hl] at a2
      obtain ⟨m, hm⟩ := iha (vs := []) (by simp) (fun x hx => ha x (by simp [hx])) (i + 6) vs0 (as0 ++ [a]) (by simpa using h1) (by simp; omega) (by simpa using a2) (by simpa using hN)
      refine ⟨m + 1, ?_⟩
      have hh : At E i ((1, wArray) :: [(1, a.name), (3, [91]), (2, dec a.len.toNat), (3, [93]), (3, [59])]) := a1
      rw [decls, hh.sees, hh.sees]
      simp only
      rw [show (wArray == kwVar) = false from rfl, show (wArray == kwArray) = true from rfl, read_arr (ha a (by simp)) a1]
      simp only [Bool.or_true, if_true, Bool.true_and]
      rw [if_pos (by simp; omega), hm]
      simp
    | cons v vs ih =>
      intro hv ha i vs0 as0 h1 h2 hA hN
      simp only [List.length_cons] at h1
      rw [List.flatMap_cons, List.append_assoc] at hA hN ⊢
      have a1 := hA.left
      have a2 := hA.right
      have hl : (tokVar v).length = 3 := rfl
      rw [List.length_append, hl, ← Nat.add_assoc] at hN ⊢
      rw [hl] at a2
      obtain ⟨m, hm⟩ := ih (fun x hx => hv x (by simp [hx])) ha (i + 3) (vs0 ++ [v]) as0 (by simp; omega) h2 a2 hN
      refine ⟨m + 1, ?_⟩
      have hh : At E i ((1, wVar) :: [(1, v), (3, [59])]) := a1
      rw [decls, hh.sees, hh.sees]
      simp only
      rw [show (wVar == kwVar) = true from rfl, show (wVar == kwArray) = false from rfl, read_var (hv v (by simp)) a1]
      simp only [Bool.true_or, if_true, Bool.false_and, Bool.false_eq_true, if_false, Bool.true_and]
      rw [if_pos (by simp; omega), hm]
      simp
end
end Go.Proofs.YtfakdbnfpdalhaaGreatDoor.PP
