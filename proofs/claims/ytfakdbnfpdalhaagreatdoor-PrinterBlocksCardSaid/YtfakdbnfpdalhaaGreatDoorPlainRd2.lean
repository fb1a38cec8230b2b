/- The parser's plain functions read the text of a printed block or program as that block or program. -/
import Derived.Test.YtfakdbnfpdalhaaGreatDoorPlainRd
namespace Go.Proofs.YtfakdbnfpdalhaaGreatDoor.PP
open PL
section
variable {E : Env}
theorem tokS_head2 {t : Tree} (h : okT t 115 = true) : ∃ x ks, tokS t = (1, x) :: ks ∧ (x == kwVar) = false ∧ (x == kwArray) = false := by
  cases t with
  | node k num nm kids =>
    rcases okS_inv h with ⟨rfl, rfl, rfl, a, d, rfl, ha, hd⟩ | ⟨rfl, rfl, rfl, a, d, f, rfl, ha, hd, hf⟩ | ⟨rfl, h1, h2, hn, a, rfl, ha⟩ | ⟨rfl, h1, h2, rfl, a, d, rfl, ha, hd⟩ | ⟨rfl, h1, h2, rfl, a, rfl, ha⟩ | ⟨rfl, h1, h2, rfl, a, rfl, ha⟩ | ⟨rfl, rfl, hn, a, rfl, ha⟩
    · cases a with
      | node k num nm kids =>
        rcases okP_inv ha with ⟨rfl, _, hn, rfl⟩ | ⟨rfl, _, hn, a', rfl, _⟩
        · exact ⟨nm, _, by simp [tokS, tokE]; rfl, name_not hn (by decide), name_not hn (by decide)⟩
        · exact ⟨nm, _, by simp [tokS, tokE]; rfl, name_not hn (by decide), name_not hn (by decide)⟩
    · exact ⟨wIf, _, by simp [tokS]; rfl, rfl, rfl⟩
    · exact ⟨wFor, _, by simp [tokS]; rfl, rfl, rfl⟩
    · exact ⟨wWhile, _, by simp [tokS]; rfl, rfl, rfl⟩
    · exact ⟨wIn, _, by simp [tokS]; rfl, rfl, rfl⟩
    · exact ⟨wOut, _, by simp [tokS]; rfl, rfl, rfl⟩
    · exact ⟨wLock, _, by simp [tokS]; rfl, rfl, rfl⟩
theorem notDecl_body {l : List Tree} (h : okS l = true) {i : Nat} (hA : At E i (tokL l ++ [(3, [125])])) : NotDecl E i := by
  cases l with
  | nil =>
    have a : At E i ((3, [125]) :: []) := hA
    exact ⟨by rw [a.sees]; rfl, by rw [a.sees]; rfl⟩
  | cons t l =>
    simp only [okS, Bool.and_eq_true] at h
    obtain ⟨x, ks, hx, h1, h2⟩ := tokS_head2 h.1
    have a : At E i ((1, x) :: (ks ++ (tokL l ++ [(3, [125])]))) := by
      simpa [tokL, hx] using hA
    exact ⟨by rw [a.sees]; exact h1, by rw [a.sees]; exact h2⟩
theorem read_task {t : TaskD} (h : okTask t = true) {i : Nat} (hA : At E i (tokTask t)) : ∃ m, taskP E m (at0 i) = some (at0 (i + (tokTask t).length), t) := by
  obtain ⟨nm, per, vs, ars, body⟩ := t
  simp only [okTask, Bool.and_eq_true, Bool.not_eq_true', decide_eq_false_iff_not, decide_eq_true_iff, List.all_eq_true] at h
  obtain ⟨⟨⟨⟨⟨⟨⟨⟨h1, h2⟩, h3⟩, h4⟩, h5⟩, h6⟩, h7⟩, h8⟩, h9⟩ := h
  obtain ⟨n, rfl⟩ := Int.eq_ofNat_of_zero_le (by omega : 0 ≤ per)
  cases body with
  | node k num nm2 l =>
    obtain ⟨rfl, rfl, rfl, hl⟩ := okB_inv h9
    have e : tokTask ⟨nm, (n : Int), vs, ars, .node 47 0 [] l⟩ = [(1, wTask)] ++ ([(1, nm)] ++ ([(1, wPeriod)] ++ ([(2, dec n)] ++ ([(3, [123])] ++ ((vs.flatMap tokVar ++ ars.flatMap (tokArr wArray)) ++ (tokL l ++ [(3, [125])])))))) := by
      simp [tokTask, tokB]
    rw [e] at hA ⊢
    have a1 := hA.tl
    have a2 := a1.tl
    have a3 := a2.tl
    have a4 := a3.tl
    have a5 := a4.tl
    have a6 := a5.left
    have a7 := a5.right
    have a8 := a7.left
    have a9 := a7.right
    obtain ⟨m1, hm1⟩ := read_decls h7 h6 (i + 1 + 1 + 1 + 1 + 1) [] [] (by simpa using h4) (by simpa using h5) a6 (notDecl_body hl a7)
    have hg : goes E false (at0 (i + 1 + 1 + 1 + 1 + 1 + (vs.flatMap tokVar ++ ars.flatMap (tokArr wArray)).length + (tokL l).length)) = false := by
      unfold goes
      rw [a9.more, a9.sees]
      simp
    obtain ⟨m2, hm2⟩ := readL hl false _ [] a8 hg
    refine ⟨max m1 m2, ?_⟩
    unfold taskP
    rw [show adv (at0 i) = at0 (i + 1) from rfl, a1.name h1]
    simp only
    rw [show require E (at0 (i + 1 + 1)) kwPeriod = at0 (i + 1 + 1 + 1) from a2.require, a3.num (by omega) (by omega) (by omega)]
    simp only
    rw [show require E (at0 (i + 1 + 1 + 1 + 1)) [123] = at0 (i + 1 + 1 + 1 + 1 + 1) from a4.require, decls_le E (Nat.le_max_left m1 m2) hm1]
    simp only [Option.bind_some]
    rw [stmts_le E (Nat.le_max_right m1 m2) hm2]
    simp only [Option.map_some, List.nil_append]
    rw [a9.require]
    unfold limitP
    rw [h8]
    simp only [List.length_append, List.length_cons, List.length_nil, Bool.false_eq_true, if_false, if_true]
    rw [at_eq (show i + 1 + 1 + 1 + 1 + 1 + ((vs.flatMap tokVar).length + (ars.flatMap (tokArr wArray)).length) + (tokL l).length + 1 = i + (0 + 1 + (0 + 1 + (0 + 1 + (0 + 1 + (0 + 1 + ((vs.flatMap tokVar).length + (ars.flatMap (tokArr wArray)).length + ((tokL l).length + (0 + 1)))))))) from by omega)]
theorem read_listP {α : Type} {kw : List UInt8} {limit : Nat} {one : Nat → St → Option (St × α)} {g : α → List (Nat × List UInt8)} (ho : ∀ n σ r, one n σ = some r → one (n + 1) σ = some r) {l : List α} (hh : ∀ x ∈ l, ∃ ks, g x = (1, kw) :: ks)
    (h : ∀ x ∈ l, ∀ i, At E i (g x) → ∃ m, one m (at0 i) = some (at0 (i + (g x).length), x)) : ∀ i acc, acc.length + l.length ≤ limit → At E i (l.flatMap g) → sees E (at0 (i + (l.flatMap g).length)) kw = false → ∃ m, listP E kw limit one m (at0 i) acc = some (at0 (i + (l.flatMap g).length), acc ++ l) := by
  induction l with
  | nil =>
    intro i acc _ _ hs
    simp only [List.flatMap_nil, List.length_nil, Nat.add_zero] at hs ⊢
    exact ⟨1, by rw [listP, hs]; simp⟩
  | cons x l ih =>
    intro i acc hl hA hs
    rw [List.flatMap_cons] at hA hs ⊢
    simp only [List.length_cons] at hl
    have a1 := hA.left
    have a2 := hA.right
    obtain ⟨m1, h1⟩ := h x (by simp) i a1
    rw [List.length_append, ← Nat.add_assoc] at hs ⊢
    obtain ⟨m2, h2⟩ := ih (fun y hy => hh y (by simp [hy])) (fun y hy => h y (by simp [hy])) (i + (g x).length) (acc ++ [x]) (by simp; omega) a2 hs
    obtain ⟨ks, hk⟩ := hh x (by simp)
    refine ⟨max m1 m2 + 1, ?_⟩
    rw [hk] at a1
    rw [listP, a1.sees]
    simp only [beq_self_eq_true, if_true]
    rw [if_neg (by omega), mono_le (F := one) ho (Nat.le_max_left m1 m2) h1]
    simp only [Option.bind_some]
    rw [listP_le E ho (Nat.le_max_right m1 m2) h2]
    simp
theorem sees_none {i : Nat} (h : E.ts.length ≤ i) (x : List UInt8) : sees E (at0 i) x = false := by
  simp [PP.sees, PP.more]; omega
theorem read_prog {p : ProgD} (h : okProg p = true) (hA : At E 0 (tokP p)) (hn : E.ts.length = (tokP p).length) : ∃ m, programP E m (at0 0) = some (at0 (tokP p).length, p) := by
  obtain ⟨sh, ts⟩ := p
  simp only [okProg, Bool.and_eq_true, List.all_eq_true, decide_eq_true_iff] at h
  obtain ⟨⟨⟨h1, h2⟩, h3⟩, h4⟩ := h
  have e : tokP ⟨sh, ts⟩ = sh.flatMap (tokArr wShared) ++ ts.flatMap tokTask := rfl
  rw [e] at hA hn ⊢
  have a1 := hA.left
  have a2 := hA.right
  rw [Nat.zero_add] at a2
  have hs1 : sees E (at0 (0 + (sh.flatMap (tokArr wShared)).length)) kwShared = false := by
    rw [Nat.zero_add]
    cases ts with
    | nil => exact sees_none (by rw [hn]; simp) _
    | cons t ts =>
      have a3 : At E (sh.flatMap (tokArr wShared)).length ((1, wTask) :: ((tokTask t).tail ++ ts.flatMap tokTask)) := by
        have : tokTask t = (1, wTask) :: (tokTask t).tail := by simp [tokTask]
        rw [List.flatMap_cons, this] at a2
        simpa using a2
      rw [a3.sees]; rfl
  obtain ⟨m1, hm1⟩ := read_listP (E := E) (kw := kwShared) (limit := 4) (one := fun _ σ => some (arrayP E σ)) (g := tokArr wShared) (fun _ _ _ h => h) (l := sh) (fun x _ => ⟨_, rfl⟩) (fun x hx i hA => ⟨0, by show some (arrayP E (at0 i)) = _; rw [read_arr (h3 x hx) hA]; rfl⟩) 0 [] (by simpa using h1) a1 hs1
  obtain ⟨m2, hm2⟩ := read_listP (E := E) (kw := kwTask) (limit := 8) (one := taskP E) (g := tokTask) (fun n σ r h => taskP_le E (Nat.le_succ n) h) (l := ts) (fun x _ => ⟨_, by simp [tokTask]; exact ⟨rfl, rfl⟩⟩) (fun x hx i hA => read_task (h4 x hx) hA) (sh.flatMap (tokArr wShared)).length [] (by simpa using h2) a2 (sees_none (by rw [hn, List.length_append]; exact Nat.le_refl _) _)
  refine ⟨max m1 m2, ?_⟩
  unfold programP
  rw [listP_le E (one := fun _ σ => some (arrayP E σ)) (fun _ _ _ h => h) (Nat.le_max_left m1 m2) hm1]
  simp only [Option.bind_some, Nat.zero_add, List.nil_append]
  rw [listP_le E (fun n σ r h => taskP_le E (Nat.le_succ n) h) (Nat.le_max_right m1 m2) hm2]
  simp only [Option.map_some, List.nil_append]
  have hmore : more E (at0 ((sh.flatMap (tokArr wShared)).length + (ts.flatMap tokTask).length)) = false := by
    simp [PP.more, hn]
  rw [hmore, List.length_append]
  simp
end
theorem back_prog {p : ProgD} (h : okProg p = true) (hl : (prP p).length ≤ 65536) : ∃ m, programP (envL (prP p)) m (sigT (prP p)) = some (⟨(tokP p).length, 0, 0⟩, p) := by
  obtain ⟨ts, h1, h2⟩ := lexTo_whole (lexP h).whole hl
  have hE : envL (prP p) = ⟨ts.filter solidT, (prP p).length⟩ := by unfold envL; rw [h1]
  have hσ : sigT (prP p) = at0 0 := by unfold sigT; rw [h1]
  have hA := at_of_map (L := (prP p).length) h2
  have hn : (ts.filter solidT).length = (tokP p).length := by rw [← h2]; simp
  rw [hE, hσ]
  exact read_prog h hA hn
theorem back_block {t : Tree} (h : okT t 98 = true) (hl : (prB t 0).length ≤ 65536) (hla : large t = false) : ∃ m, blockP (envL (prB t 0)) m (sigT (prB t 0)) = some (⟨(tokB t).length, 0, 0⟩, t) := by
  have hlx : LexL (prB t 0) (tokB t) [] := by have := lexB h 0 []; rwa [List.append_nil] at this
  obtain ⟨ts, h1, h2⟩ := lexTo_whole hlx.whole hl
  have hE : envL (prB t 0) = ⟨ts.filter solidT, (prB t 0).length⟩ := by unfold envL; rw [h1]
  have hσ : sigT (prB t 0) = at0 0 := by unfold sigT; rw [h1]
  have hA := at_of_map (L := (prB t 0).length) h2
  have hn : (ts.filter solidT).length = (tokB t).length := by rw [← h2]; simp
  rw [hE, hσ]
  cases t with
  | node k num nm l =>
    obtain ⟨rfl, rfl, rfl, hok⟩ := okB_inv h
    obtain ⟨m, hm⟩ := readL hok true 0 [] (show At _ 0 (tokL l) from hA) (by
      have hn' : (ts.filter solidT).length = (tokL l).length := hn
      unfold goes
      simp [PP.more, hn'])
    refine ⟨m, ?_⟩
    unfold blockP
    rw [hm]
    simp only [Option.map_some, List.nil_append, Nat.zero_add]
    unfold limitP
    rw [hla]
    simp [tokB]
/-! ### A closer bound of lengths -/
theorem prS_len2 : ∀ (n : Nat), (∀ t i, t.size ≤ n → okT t 115 = true → i + t.depth ≤ 17 → (prS t i).length ≤ 100 * t.size) ∧ (∀ l i, sizeL l ≤ n → okS l = true → i + depthL l ≤ 17 → (prL l i).length ≤ 100 * sizeL l)
  | 0 => ⟨fun t i hs _ _ => by have := t.size_pos; omega, fun l i hs _ _ => by
      cases l with
      | nil => simp [prL, sizeL]
      | cons t l => have := t.size_pos; simp [sizeL] at hs; omega⟩
  | n + 1 => by
    obtain ⟨ihS, ihL⟩ := prS_len2 n
    have hS : ∀ t i, t.size ≤ n + 1 → okT t 115 = true → i + t.depth ≤ 17 → (prS t i).length ≤ 100 * t.size := by
      intro t i hs h hd
      cases t with
      | node k num nm kids =>
        have blk : ∀ (x : Tree) (j : Nat), x.size ≤ n → okT x 98 = true → j + x.depth ≤ 18 → (prB x j).length ≤ 100 * x.size := by
          intro x j hx hx2 hd
          cases x with
          | node k' num' nm' l =>
            obtain ⟨_, _, _, hl⟩ := okB_inv hx2
            simp only [Tree.size, Tree.depth, prB] at hx hd ⊢
            have := ihL l j (by omega) hl (by omega)
            omega
        rcases okS_inv h with ⟨rfl, _, _, a, b, rfl, ha, hb⟩ | ⟨rfl, _, _, a, b, c, rfl, ha, hb, hc⟩ | ⟨rfl, _, _, hn, a, rfl, ha⟩ | ⟨rfl, _, _, _, a, b, rfl, ha, hb⟩ | ⟨rfl, _, _, _, a, rfl, ha⟩ | ⟨rfl, _, _, _, a, rfl, ha⟩ | ⟨rfl, _, hn, a, rfl, ha⟩
        · have h1 := okPE ha
          have h2 := okEE hb
          simp only [Tree.size, sizeL, Tree.depth, depthL] at hs hd ⊢
          simp [prS, lineP_len, sEq, sSemi]; omega
        · have h1 := okEE ha
          simp only [Tree.size, sizeL, Tree.depth, depthL] at hs hd ⊢
          have h2 := blk b (i + 1) (by omega) hb (by omega)
          have h3 := blk c (i + 1) (by omega) hc (by omega)
          simp [prS, lineP_len, sIf, sOb, sElse, sCb]; omega
        · have h1 := isName_len hn
          have h3 := dec_len num.toNat
          simp only [Tree.size, sizeL, Tree.depth, depthL] at hs hd ⊢
          have h2 := blk a (i + 1) (by omega) ha (by omega)
          simp [prS, lineP_len, sFor, sLt, sOb, sCb]; omega
        · have h1 := okEE ha
          have h3 := dec_len num.toNat
          simp only [Tree.size, sizeL, Tree.depth, depthL] at hs hd ⊢
          have h2 := blk b (i + 1) (by omega) hb (by omega)
          simp [prS, lineP_len, sWhile, sBound, sOb, sCb]; omega
        · have h1 := okPE ha
          have h3 := dec_len num.toNat
          simp only [Tree.size, sizeL, Tree.depth, depthL] at hs hd ⊢
          simp [prS, lineP_len, sIn, sComma, sSemi]; omega
        · have h1 := okEE ha
          have h3 := dec_len num.toNat
          simp only [Tree.size, sizeL, Tree.depth, depthL] at hs hd ⊢
          simp [prS, lineP_len, sOut, sComma, sSemi]; omega
        · have h1 := isName_len hn
          simp only [Tree.size, sizeL, Tree.depth, depthL] at hs hd ⊢
          have h2 := blk a (i + 1) (by omega) ha (by omega)
          simp [prS, lineP_len, sLock, sOb, sCb]; omega
    refine ⟨hS, fun l => ?_⟩
    · induction l with
      | nil => intro i _ _ _; simp [prL]
      | cons t l ih =>
        intro i hs hl hd
        simp only [okS, Bool.and_eq_true] at hl
        simp only [sizeL, depthL, prL, List.length_append] at hs hd ⊢
        have ht := t.size_pos
        have h2 := ih i (by omega) hl.2 (by omega)
        have h1 := hS t i (by omega) hl.1 (by omega)
        omega
theorem prB_fits {t : Tree} (h : okT t 98 = true) (hla : large t = false) : (prB t 0).length ≤ 65536 := by
  cases t with
  | node k num nm l =>
    obtain ⟨rfl, rfl, rfl, hok⟩ := okB_inv h
    simp only [large, Bool.or_eq_false_iff, decide_eq_false_iff_not] at hla
    obtain ⟨⟨q1, q2⟩, _⟩ := hla
    rw [Tree.depth] at q1
    rw [Tree.size] at q2
    have := (prS_len2 (sizeL l)).2 l 0 (Nat.le_refl _) hok (by omega)
    simp only [prB]
    omega
end Go.Proofs.YtfakdbnfpdalhaaGreatDoor.PP
