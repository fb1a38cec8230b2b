/- The printed text of statements, blocks and programs: its tokens. -/
import Derived.Test.YtfakdbnfpdalhaaGreatDoorPlainBack
namespace Go.Proofs.YtfakdbnfpdalhaaGreatDoor.PP
open PL

def strip (l : List UInt8) : List UInt8 := l.dropWhile isSpace
theorem strip_solid (l : List UInt8) : solidB (strip l) = true := by
  induction l with
  | nil => rfl
  | cons c l ih =>
    unfold strip at ih ⊢
    rw [List.dropWhile_cons]
    cases h : isSpace c with
    | true => simpa using ih
    | false => simp [solidB, h]
theorem LexTo.refl (r : List UInt8) : LexTo r [] r := fun pos => ⟨[], pos, .stop _ _, rfl⟩
theorem strip_lex (r : List UInt8) : LexTo r [] (strip r) := by
  have h : r = r.takeWhile isSpace ++ strip r := (List.takeWhile_append_dropWhile).symm
  by_cases he : r.takeWhile isSpace = []
  · rw [he] at h
    rw [← show r = strip r from h]
    exact .refl r
  · have := LexTo.space (r := strip r) (first_space he (fun c hc => takeWhile_mem _ _ _ hc) (strip_solid r)) he
    rwa [← h] at this
/-- As LexTo, from behind the spaces to behind the spaces. -/
def LexL (l : List UInt8) (ks : List (Nat × List UInt8)) (r : List UInt8) : Prop := LexTo (strip l) ks (strip r)
theorem LexL.trans {l m r : List UInt8} {ks ks' : List (Nat × List UInt8)} (h : LexL l ks m) (h' : LexL m ks' r) : LexL l (ks ++ ks') r := LexTo.trans h h'
theorem LexL.refl (r : List UInt8) : LexL r [] r := LexTo.refl _
theorem strip_head {l r : List UInt8} (h : headB l = true) : strip (l ++ r) = l ++ r := by
  cases l with
  | nil => simp [headB] at h
  | cons c l =>
    have h1 : isSpace c = false := by simp [headB] at h; exact h.1
    simp [strip, h1]
theorem LexL.of {g r : List UInt8} {ks : List (Nat × List UInt8)} (h : LexTo (g ++ r) ks r) (hg : strip (g ++ r) = g ++ r) : LexL (g ++ r) ks r := by
  unfold LexL
  rw [hg]
  have := h.trans (strip_lex r)
  rwa [List.append_nil] at this
theorem strip_ws {w r : List UInt8} (h : ∀ c ∈ w, isSpace c = true) : strip (w ++ r) = strip r := by
  induction w with
  | nil => rfl
  | cons c w ih =>
    have h1 := h c (by simp)
    unfold strip at ih ⊢
    simp only [List.cons_append, List.dropWhile_cons, h1]
    exact ih (fun x hx => h x (by simp [hx]))
theorem LexL.ws {w r : List UInt8} (h : ∀ c ∈ w, isSpace c = true) : LexL (w ++ r) [] r := by
  unfold LexL
  rw [strip_ws h]
  exact .refl _
theorem LexL.sp (r : List UInt8) : LexL (32 :: r) [] r := LexL.ws (w := [32]) (by simp [isSpace])
theorem LexL.nl (r : List UInt8) : LexL (10 :: r) [] r := LexL.ws (w := [10]) (by simp [isSpace])
theorem LexL.tabs (i : Nat) (r : List UInt8) : LexL (PP.tabs i ++ r) [] r := LexL.ws (fun c hc => by
  have := List.eq_of_mem_replicate hc
  subst this; rfl)
theorem LexL.word {w r : List UInt8} (h : wordB w = true) (hr : stopB r = true) : LexL (w ++ r) [(1, w)] r := .of (.word (first_word h hr) (wordB_ne h)) (strip_head (headB_word h))
theorem LexL.name {w r : List UInt8} (h : isName w = true) (hr : stopB r = true) : LexL (w ++ r) [(1, w)] r := .word (name_wordB h) hr
theorem LexL.dec (n : Nat) {r : List UInt8} (hr : stopB r = true) : LexL (PP.dec n ++ r) [(2, PP.dec n)] r := .of (.dec n hr) (strip_head (headB_dec n))
theorem LexL.expr {t : Tree} (h : okT t 101 = true) {r : List UInt8} (hr : stopB r = true) : LexL (prE t ++ r) (tokE t) r := .of (lexE h hr) (strip_head (headE h))
theorem LexL.lc (r : List UInt8) : LexL (123 :: r) [(3, [123])] r := .of (g := [123]) (.lc r) rfl
theorem LexL.rc (r : List UInt8) : LexL (125 :: r) [(3, [125])] r := .of (g := [125]) (.rc r) rfl
theorem LexL.lb (r : List UInt8) : LexL (91 :: r) [(3, [91])] r := .of (g := [91]) (.lb r) rfl
theorem LexL.rb (r : List UInt8) : LexL (93 :: r) [(3, [93])] r := .of (g := [93]) (.rb r) rfl
theorem LexL.semi (r : List UInt8) : LexL (59 :: r) [(3, [59])] r := .of (g := [59]) (.semi r) rfl
theorem LexL.comma (r : List UInt8) : LexL (44 :: r) [(3, [44])] r := .of (g := [44]) (.comma r) rfl
theorem LexL.lt (r : List UInt8) : LexL (60 :: 32 :: r) [(3, [60])] (32 :: r) := .of (g := [60]) (.lt r) rfl
theorem LexL.eq_ (r : List UInt8) : LexL (61 :: 32 :: r) [(3, [61])] (32 :: r) := .of (g := [61]) (.eq_ r) rfl
/-- The whole of a text. -/
theorem LexL.whole {l : List UInt8} {ks : List (Nat × List UInt8)} (h : LexL l ks []) : LexTo l ks [] := by
  have := (strip_lex l).trans h
  rwa [List.nil_append] at this

def wIf : List UInt8 := [105, 102]
def wElse : List UInt8 := [101, 108, 115, 101]
def wFor : List UInt8 := [102, 111, 114]
def wWhile : List UInt8 := [119, 104, 105, 108, 101]
def wBound : List UInt8 := [98, 111, 117, 110, 100]
def wIn : List UInt8 := [105, 110]
def wOut : List UInt8 := [111, 117, 116]
def wLock : List UInt8 := [108, 111, 99, 107]
mutual
def tokS : Tree → List (Nat × List UInt8)
  | .node k num nm [a] =>
    if k = 42 then [(1, wFor), (1, nm), (3, [60]), (2, dec num.toNat), (3, [123])] ++ tokB a ++ [(3, [125])]
    else if k = 44 then [(1, wIn)] ++ tokE a ++ [(3, [44]), (2, dec num.toNat), (3, [59])]
    else if k = 45 then [(1, wOut)] ++ tokE a ++ [(3, [44]), (2, dec num.toNat), (3, [59])]
    else [(1, wLock), (1, nm), (3, [123])] ++ tokB a ++ [(3, [125])]
  | .node k num _ [a, b] =>
    if k = 40 then tokE a ++ [(3, [61])] ++ tokE b ++ [(3, [59])]
    else [(1, wWhile)] ++ tokE a ++ [(1, wBound), (2, dec num.toNat), (3, [123])] ++ tokB b ++ [(3, [125])]
  | .node _ _ _ [a, b, c] => [(1, wIf)] ++ tokE a ++ [(3, [123])] ++ tokB b ++ [(3, [125]), (1, wElse), (3, [123])] ++ tokB c ++ [(3, [125])]
  | _ => []
def tokB : Tree → List (Nat × List UInt8)
  | .node _ _ _ l => tokL l
def tokL : List Tree → List (Nat × List UInt8)
  | [] => []
  | t :: ts => tokS t ++ tokL ts
end
def LexS (t : Tree) : Prop := ∀ i r, LexL (prS t i ++ r) (tokS t) r
def LexB (t : Tree) : Prop := ∀ i r, LexL (prB t i ++ r) (tokB t) r
theorem lexL_list {l : List Tree} (h : ∀ t ∈ l, LexS t) (i : Nat) (r : List UInt8) : LexL (prL l i ++ r) (tokL l) r := by
  induction l with
  | nil => exact .refl r
  | cons t l ih =>
    simp only [prL, tokL, List.append_assoc]
    exact (h t (by simp) i _).trans (ih (fun x hx => h x (by simp [hx])))
theorem LexL.kw {w : List UInt8} (h : wordB w = true) (r : List UInt8) : LexL (w ++ (32 :: r)) [(1, w)] r := by
  have := (LexL.word h (r := 32 :: r) rfl).trans (LexL.sp r)
  rwa [List.append_nil] at this
theorem lex_ob (r : List UInt8) : LexL (32 :: 123 :: 10 :: r) [(3, [123])] r := (LexL.sp _).trans ((LexL.lc _).trans (LexL.nl r))
theorem lex_end (i : Nat) (r : List UInt8) : LexL (PP.tabs i ++ (125 :: 10 :: r)) [(3, [125])] r := (LexL.tabs i _).trans ((LexL.rc _).trans (LexL.nl r))
theorem lex_semi (r : List UInt8) : LexL (59 :: 10 :: r) [(3, [59])] r := (LexL.semi _).trans (LexL.nl r)
theorem lex_assign {a b : Tree} (ha : okT a 101 = true) (hb : okT b 101 = true) : LexS (.node 40 0 [] [a, b]) := by
  intro i r
  have e : prS (.node 40 0 [] [a, b]) i ++ r = PP.tabs i ++ (prE a ++ (32 :: 61 :: 32 :: (prE b ++ (59 :: 10 :: r)))) := by simp [prS, lineP, sEq, sSemi]
  rw [e, show tokS (.node 40 0 [] [a, b]) = [] ++ (tokE a ++ ([] ++ ([(3, [61])] ++ ([] ++ (tokE b ++ [(3, [59])]))))) from by simp [tokS]]
  exact (LexL.tabs i _).trans ((LexL.expr ha rfl).trans ((LexL.sp _).trans ((LexL.eq_ _).trans ((LexL.sp _).trans ((LexL.expr hb rfl).trans (lex_semi r))))))
theorem lex_if {a b c : Tree} (ha : okT a 101 = true) (hb : LexB b) (hc : LexB c) : LexS (.node 41 0 [] [a, b, c]) := by
  intro i r
  have e : prS (.node 41 0 [] [a, b, c]) i ++ r = PP.tabs i ++ (wIf ++ (32 :: (prE a ++ (32 :: 123 :: 10 :: (prB b (i + 1) ++ (PP.tabs i ++ (125 :: 32 :: (wElse ++ (32 :: 123 :: 10 :: (prB c (i + 1) ++ (PP.tabs i ++ (125 :: 10 :: r)))))))))))) := by
    simp [prS, lineP, sIf, sOb, sElse, sCb, wIf, wElse]
  rw [e, show tokS (.node 41 0 [] [a, b, c]) = [] ++ ([(1, wIf)] ++ (tokE a ++ ([(3, [123])] ++ (tokB b ++ ([] ++ ([(3, [125])] ++ ([] ++ ([(1, wElse)] ++ ([(3, [123])] ++ (tokB c ++ [(3, [125])])))))))))) from by simp [tokS]]
  exact (LexL.tabs i _).trans ((LexL.kw rfl _).trans ((LexL.expr ha rfl).trans ((lex_ob _).trans ((hb _ _).trans ((LexL.tabs i _).trans ((LexL.rc _).trans ((LexL.sp _).trans ((LexL.word rfl rfl).trans ((lex_ob _).trans ((hc _ _).trans (lex_end i r)))))))))))
theorem lex_for {a : Tree} {num : Int} {nm : List UInt8} (hn : isName nm = true) (ha : LexB a) : LexS (.node 42 num nm [a]) := by
  intro i r
  have e : prS (.node 42 num nm [a]) i ++ r = PP.tabs i ++ (wFor ++ (32 :: (nm ++ (32 :: 60 :: 32 :: (PP.dec num.toNat ++ (32 :: 123 :: 10 :: (prB a (i + 1) ++ (PP.tabs i ++ (125 :: 10 :: r))))))))) := by simp [prS, lineP, sFor, sLt, sOb, sCb, wFor]
  rw [e, show tokS (.node 42 num nm [a]) = [] ++ ([(1, wFor)] ++ ([(1, nm)] ++ ([] ++ ([(3, [60])] ++ ([] ++ ([(2, PP.dec num.toNat)] ++ ([(3, [123])] ++ (tokB a ++ [(3, [125])])))))))) from by simp [tokS]]
  exact (LexL.tabs i _).trans ((LexL.kw rfl _).trans ((LexL.name hn rfl).trans ((LexL.sp _).trans ((LexL.lt _).trans ((LexL.sp _).trans ((LexL.dec _ rfl).trans ((lex_ob _).trans ((ha _ _).trans (lex_end i r)))))))))
theorem lex_while {a b : Tree} {num : Int} (ha : okT a 101 = true) (hb : LexB b) : LexS (.node 43 num [] [a, b]) := by
  intro i r
  have e : prS (.node 43 num [] [a, b]) i ++ r = PP.tabs i ++ (wWhile ++ (32 :: (prE a ++ (32 :: (wBound ++ (32 :: (PP.dec num.toNat ++ (32 :: 123 :: 10 :: (prB b (i + 1) ++ (PP.tabs i ++ (125 :: 10 :: r)))))))))) ) := by simp [prS, lineP, sWhile, sBound, sOb, sCb, wWhile, wBound]
  rw [e, show tokS (.node 43 num [] [a, b]) = [] ++ ([(1, wWhile)] ++ (tokE a ++ ([] ++ ([(1, wBound)] ++ ([(2, PP.dec num.toNat)] ++ ([(3, [123])] ++ (tokB b ++ [(3, [125])]))))))) from by simp [tokS]]
  exact (LexL.tabs i _).trans ((LexL.kw rfl _).trans ((LexL.expr ha rfl).trans ((LexL.sp _).trans ((LexL.kw rfl _).trans ((LexL.dec _ rfl).trans ((lex_ob _).trans ((hb _ _).trans (lex_end i r))))))))
theorem lex_in {a : Tree} {num : Int} (ha : okT a 101 = true) : LexS (.node 44 num [] [a]) := by
  intro i r
  have e : prS (.node 44 num [] [a]) i ++ r = PP.tabs i ++ (wIn ++ (32 :: (prE a ++ (44 :: 32 :: (PP.dec num.toNat ++ (59 :: 10 :: r)))))) := by simp [prS, lineP, sIn, sComma, sSemi, wIn]
  rw [e, show tokS (.node 44 num [] [a]) = [] ++ ([(1, wIn)] ++ (tokE a ++ ([(3, [44])] ++ ([] ++ ([(2, PP.dec num.toNat)] ++ [(3, [59])]))))) from by simp [tokS]]
  exact (LexL.tabs i _).trans ((LexL.kw rfl _).trans ((LexL.expr ha rfl).trans ((LexL.comma _).trans ((LexL.sp _).trans ((LexL.dec _ rfl).trans (lex_semi r))))))
theorem lex_out {a : Tree} {num : Int} (ha : okT a 101 = true) : LexS (.node 45 num [] [a]) := by
  intro i r
  have e : prS (.node 45 num [] [a]) i ++ r = PP.tabs i ++ (wOut ++ (32 :: (prE a ++ (44 :: 32 :: (PP.dec num.toNat ++ (59 :: 10 :: r)))))) := by simp [prS, lineP, sOut, sComma, sSemi, wOut]
  rw [e, show tokS (.node 45 num [] [a]) = [] ++ ([(1, wOut)] ++ (tokE a ++ ([(3, [44])] ++ ([] ++ ([(2, PP.dec num.toNat)] ++ [(3, [59])]))))) from by simp [tokS]]
  exact (LexL.tabs i _).trans ((LexL.kw rfl _).trans ((LexL.expr ha rfl).trans ((LexL.comma _).trans ((LexL.sp _).trans ((LexL.dec _ rfl).trans (lex_semi r))))))
theorem lex_lock {a : Tree} {nm : List UInt8} (hn : isName nm = true) (ha : LexB a) : LexS (.node 46 0 nm [a]) := by
  intro i r
  have e : prS (.node 46 0 nm [a]) i ++ r = PP.tabs i ++ (wLock ++ (32 :: (nm ++ (32 :: 123 :: 10 :: (prB a (i + 1) ++ (PP.tabs i ++ (125 :: 10 :: r))))))) := by simp [prS, lineP, sLock, sOb, sCb, wLock]
  rw [e, show tokS (.node 46 0 nm [a]) = [] ++ ([(1, wLock)] ++ ([(1, nm)] ++ ([(3, [123])] ++ (tokB a ++ [(3, [125])])))) from by simp [tokS]]
  exact (LexL.tabs i _).trans ((LexL.kw rfl _).trans ((LexL.name hn rfl).trans ((lex_ob _).trans ((ha _ _).trans (lex_end i r)))))
theorem okS_in : ∀ {l : List Tree} {t : Tree}, okS l = true → t ∈ l → okT t 115 = true
  | [], _, _, h => by simp at h
  | a :: l, t, hs, h => by
    simp only [okS, Bool.and_eq_true] at hs
    rcases List.mem_cons.1 h with rfl | h
    · exact hs.1
    · exact okS_in hs.2 h
theorem size_in : ∀ {l : List Tree} {t : Tree}, t ∈ l → t.size ≤ sizeL l
  | [], _, h => by simp at h
  | a :: l, t, h => by
    simp only [sizeL]
    rcases List.mem_cons.1 h with rfl | h
    · omega
    · have := size_in h; omega
theorem lexS_upto : ∀ (n : Nat), (∀ t : Tree, t.size ≤ n → okT t 115 = true → LexS t) ∧ (∀ t : Tree, t.size ≤ n → okT t 98 = true → LexB t)
  | 0 => ⟨fun t hs => by have := t.size_pos; omega, fun t hs => by have := t.size_pos; omega⟩
  | n + 1 => by
    obtain ⟨ihS, ihB⟩ := lexS_upto n
    refine ⟨fun t hs h => ?_, fun t hs h => ?_⟩
    · cases t with
      | node k num nm kids =>
        rcases okS_inv h with ⟨rfl, rfl, rfl, a, d, rfl, ha, hd⟩ | ⟨rfl, rfl, rfl, a, d, f, rfl, ha, hd, hf⟩ | ⟨rfl, h1, h2, hn, a, rfl, ha⟩ | ⟨rfl, h1, h2, rfl, a, d, rfl, ha, hd⟩ | ⟨rfl, h1, h2, rfl, a, rfl, ha⟩ | ⟨rfl, h1, h2, rfl, a, rfl, ha⟩ | ⟨rfl, rfl, hn, a, rfl, ha⟩
        all_goals simp only [Tree.size, sizeL] at hs
        · exact lex_assign (okT_place ha) hd
        · exact lex_if ha (ihB _ (by omega) hd) (ihB _ (by omega) hf)
        · exact lex_for hn (ihB _ (by omega) ha)
        · exact lex_while ha (ihB _ (by omega) hd)
        · exact lex_in (okT_place ha)
        · exact lex_out ha
        · exact lex_lock hn (ihB _ (by omega) ha)
    · cases t with
      | node k num nm kids =>
        obtain ⟨rfl, rfl, rfl, hk⟩ := okB_inv h
        simp only [Tree.size] at hs
        intro i r
        exact lexL_list (fun x hx => ihS x (by have := size_in hx; omega) (okS_in hk hx)) i r
theorem lexS {t : Tree} (h : okT t 115 = true) : LexS t := (lexS_upto t.size).1 t (Nat.le_refl _) h
theorem lexB {t : Tree} (h : okT t 98 = true) : LexB t := (lexS_upto t.size).2 t (Nat.le_refl _) h

/-! ### Declarations and programs -/
def wVar : List UInt8 := [118, 97, 114]
def wArray : List UInt8 := [97, 114, 114, 97, 121]
def wPeriod : List UInt8 := [112, 101, 114, 105, 111, 100]
def wShared : List UInt8 := [115, 104, 97, 114, 101, 100]
def wTask : List UInt8 := [116, 97, 115, 107]
def tokVar (v : List UInt8) : List (Nat × List UInt8) := [(1, wVar), (1, v), (3, [59])]
def tokArr (kw : List UInt8) (a : ArrD) : List (Nat × List UInt8) := [(1, kw), (1, a.name), (3, [91]), (2, dec a.len.toNat), (3, [93]), (3, [59])]
def tokTask (t : TaskD) : List (Nat × List UInt8) := [(1, wTask), (1, t.name), (1, wPeriod), (2, dec t.period.toNat), (3, [123])] ++ t.vars.flatMap tokVar ++ t.arrays.flatMap (tokArr wArray) ++ tokB t.body ++ [(3, [125])]
def tokP (p : ProgD) : List (Nat × List UInt8) := p.shared.flatMap (tokArr wShared) ++ p.tasks.flatMap tokTask
theorem lex_flat {α : Type} {l : List α} {f : α → List UInt8} {g : α → List (Nat × List UInt8)} (h : ∀ x ∈ l, ∀ r, LexL (f x ++ r) (g x) r) (r : List UInt8) : LexL (l.flatMap f ++ r) (l.flatMap g) r := by
  induction l with
  | nil => exact .refl r
  | cons t l ih =>
    simp only [List.flatMap_cons, List.append_assoc]
    exact (h t (by simp) _).trans (ih (fun x hx => h x (by simp [hx])))
theorem lex_var {v : List UInt8} (h : isName v = true) (r : List UInt8) : LexL (prVar v ++ r) (tokVar v) r := by
  have e : prVar v ++ r = PP.tabs 1 ++ (wVar ++ (32 :: (v ++ (59 :: 10 :: r)))) := by simp [prVar, lineP, sVar, sSemi, wVar]
  rw [e, show tokVar v = [] ++ ([(1, wVar)] ++ ([(1, v)] ++ [(3, [59])])) from rfl]
  exact (LexL.tabs 1 _).trans ((LexL.kw rfl _).trans ((LexL.name h rfl).trans (lex_semi r)))
theorem lex_arr {a : ArrD} {w : List UInt8} (i : Nat) (hw : wordB w = true) (h : isName a.name = true) (r : List UInt8) : LexL (prArr i (w ++ [32]) a ++ r) (tokArr w a) r := by
  have e : prArr i (w ++ [32]) a ++ r = PP.tabs i ++ (w ++ (32 :: (a.name ++ (91 :: (PP.dec a.len.toNat ++ (93 :: 59 :: 10 :: r)))))) := by simp [prArr, lineP, sOpen, sClose]
  rw [e, show tokArr w a = [] ++ ([(1, w)] ++ ([(1, a.name)] ++ ([(3, [91])] ++ ([(2, PP.dec a.len.toNat)] ++ ([(3, [93])] ++ [(3, [59])]))))) from rfl]
  exact (LexL.tabs i _).trans ((LexL.kw hw _).trans ((LexL.name h rfl).trans ((LexL.lb _).trans ((LexL.dec _ rfl).trans ((LexL.rb _).trans (lex_semi r))))))
theorem okArr_name {a : ArrD} (h : okArr a = true) : isName a.name = true := by
  simp only [okArr, Bool.and_eq_true] at h
  exact h.1.1
theorem lex_task {t : TaskD} (h : okTask t = true) (r : List UInt8) : LexL (prTask t ++ r) (tokTask t) r := by
  simp only [okTask, Bool.and_eq_true, List.all_eq_true] at h
  obtain ⟨⟨⟨⟨⟨⟨⟨⟨h1, _⟩, _⟩, _⟩, _⟩, h6⟩, h7⟩, _⟩, h9⟩ := h
  have e : prTask t ++ r = PP.tabs 0 ++ (wTask ++ (32 :: (t.name ++ (32 :: (wPeriod ++ (32 :: (PP.dec t.period.toNat ++ (32 :: 123 :: 10 :: (t.vars.flatMap prVar ++ (t.arrays.flatMap (prArr 1 (wArray ++ [32])) ++ (prB t.body 1 ++ (PP.tabs 0 ++ (125 :: 10 :: r))))))))))))) := by
    simp [prTask, lineP, sTask, sPeriod, sOb, sCb, wTask, wPeriod, wArray, sArray]
  rw [e, show tokTask t = [] ++ ([(1, wTask)] ++ ([(1, t.name)] ++ ([] ++ ([(1, wPeriod)] ++ ([(2, PP.dec t.period.toNat)] ++ ([(3, [123])] ++ (t.vars.flatMap tokVar ++ (t.arrays.flatMap (tokArr wArray) ++ (tokB t.body ++ [(3, [125])]))))))))) from by simp [tokTask]]
  exact (LexL.tabs 0 _).trans ((LexL.kw rfl _).trans ((LexL.name h1 rfl).trans ((LexL.sp _).trans ((LexL.kw rfl _).trans ((LexL.dec _ rfl).trans ((lex_ob _).trans ((lex_flat (fun v hv r => lex_var (h7 v hv) r) _).trans ((lex_flat (fun a ha r => lex_arr 1 rfl (okArr_name (h6 a ha)) r) _).trans ((lexB h9 _ _).trans (lex_end 0 r))))))))))
theorem lexP {p : ProgD} (h : okProg p = true) : LexL (prP p) (tokP p) [] := by
  simp only [okProg, Bool.and_eq_true, List.all_eq_true] at h
  have e : prP p = p.shared.flatMap (prArr 0 (wShared ++ [32])) ++ (p.tasks.flatMap prTask ++ []) := by simp [prP, wShared, sShared]
  rw [e]
  exact (lex_flat (fun a ha r => lex_arr 0 rfl (okArr_name (h.1.2 a ha)) r) _).trans (lex_flat (fun t ht r => lex_task (h.2 t ht) r) _)
end Go.Proofs.YtfakdbnfpdalhaaGreatDoor.PP
