/- The reference examines an event. -/
import Derived.Test.YtehdgdlndlamjaaAuT
import Derived.Deep.CutRange
import Derived.BigRegion
namespace Go.Proofs.Ytehdgdlndlamjaa
open Go.RowKit Go.Maps Go.Sort Go.Lib
open SL (Tk Cd)
open AU (Pr Rq Ev Mo)
def reV (e : Ev) : Array Value := #[.int .i64 e.slot, .int .i64 e.core, .int .i64 e.task, .int .i64 e.job, .int .u8 (e.kind : Int), .int .i64 e.value]
theorem rmsr_eq {B : World} {X : Aud} {gm gj : Nat} {m : Mo} {W : World} (h : RfInv B X gm gj m W) : msr gm W = 500010 - AU.mm m := by
  obtain ⟨_, _, _, h3, h4, _⟩ := h.cells
  unfold msr AU.mm
  rw [h3, h4]
  simp only
  omega
theorem RfInv.setLast {B : World} {X : Aud} {gm gj : Nat} {m : Mo} {W : World} (h : RfInv B X gm gj m W) (t : Int) :
    RfInv B X gm gj ⟨m.ps, m.slot, m.phase, m.req, t⟩ (W.setCell ⟨gm, 6, none⟩ (.int .i64 t)) := by
  obtain ⟨A, c, kd, h1, h2, h3, h4⟩ := h.bm
  obtain ⟨js, k1, k2⟩ := h.bj
  have hfs : FxT [57] W (W.setCell ⟨gm, 6, none⟩ (.int .i64 t)) := (FxT.refl _ W).set h1 (by simp) _ _
  exact ⟨h.be.setCell (p := ⟨gm, 6, none⟩) h.lom _, h.lom, h.loj, ⟨js, k1, k2.fx hfs (by decide)⟩, A, c, kd, h1.set_ 6 _, h2.fx hfs (by decide), h3, h4⟩
/-- The same with the jobs' list named. -/
theorem AU.kind_of4 {k : Nat} (h : 4 = AU.phaseOf k) : k = 3 ∨ k = 4 ∨ k = 7 := by
  unfold AU.phaseOf at h
  split at h
  · omega
  · split at h
    · omega
    · split at h
      · omega
      · split at h
        · assumption
        · split at h <;> omega
theorem AU.kind_of135 {p k : Nat} (h : p = AU.phaseOf k) : (p = 1 → k = 6) ∧ (p = 3 → k = 2) ∧ (p = 5 → k = 5) := by
  unfold AU.phaseOf at h
  split at h
  · omega
  · split at h
    · omega
    · split at h
      · omega
      · split at h
        · omega
        · split at h <;> omega
theorem AU.kind_of2 {k : Nat} (h : 2 = AU.phaseOf k) : k = 1 := by
  unfold AU.phaseOf at h
  split at h
  · omega
  · split at h
    · assumption
    · split at h
      · omega
      · split at h
        · omega
        · split at h <;> omega
structure RfJ (B : World) (X : Aud) (gm gj : Nat) (js : List Jr) (m : Mo) (W : World) : Prop where
  be : Below B.heap.size B W
  lom : B.heap.size ≤ gm
  loj : B.heap.size ≤ gj
  bj : Blk W gj 73 (jrC js)
  bm : ∃ A c kind, Blk W gm 57 #[X.tv, .int .i64 (X.n : Int), .slice (some ⟨gj, 0, none⟩) X.ts.length X.ts.length, .int .i64 (m.slot : Int), .int .i64 (m.phase : Int), .slice A m.req.length c, .int .i64 m.last] ∧ RowT W 54 A (reC m.slot kind m.req) ∧ m.req.length ≤ c ∧ (m.req ≠ [] → (m.phase = 1 ∧ kind = 6) ∨ (m.phase = 3 ∧ kind = 2) ∨ (m.phase = 5 ∧ kind = 5))
theorem RfInv.toJ {B : World} {X : Aud} {gm gj : Nat} {m : Mo} {W : World} (h : RfInv B X gm gj m W) {js : List Jr} (hj : Blk W gj 73 (jrC js)) : RfJ B X gm gj js m W :=
  ⟨h.be, h.lom, h.loj, hj, h.bm⟩
theorem RfJ.inv {B : World} {X : Aud} {gm gj : Nat} {js : List Jr} {m : Mo} {W : World} (h : RfJ B X gm gj js m W) {ps : List Pr} (ha : AlJ js ps) : RfInv B X gm gj ⟨ps, m.slot, m.phase, m.req, m.last⟩ W :=
  ⟨h.be, h.lom, h.loj, ⟨js, ha, h.bj⟩, h.bm⟩
theorem jr_set {W : World} {g : Nat} {js : List Jr} (h : Blk W g 73 (jrC js)) {k m : Nat} {x x' : Jr} {v : Value} (hk : js[k]? = some x) (hm : m < 6) (hp : jrL x' = (jrL x).set m v) : Blk (W.setCell ⟨g, k * 6 + m, none⟩ v) g 73 (jrC (js.set k x')) := by
  have h1 := h.set_ (k * 6 + m) v
  have h2 : (jrC js).setIfInBounds (k * 6 + m) v = jrC (js.set k x') := by
    unfold jrC
    rw [List.setIfInBounds_toArray, flat_set 6 jrL (fun _ => rfl) js k m x x' v hk hm hp]
  rw [h2] at h1
  exact h1
theorem RfJ.set {B : World} {X : Aud} {gm gj : Nat} {js : List Jr} {m : Mo} {W : World} (h : RfJ B X gm gj js m W) {k i : Nat} {x x' : Jr} {v : Value} (hk : js[k]? = some x) (hi : i < 6) (hp : jrL x' = (jrL x).set i v) : RfJ B X gm gj (js.set k x') m (W.setCell ⟨gj, k * 6 + i, none⟩ v) := by
  obtain ⟨A, c, kd, h1, h2, h3, h4⟩ := h.bm
  have hfs : FxT [73] W (W.setCell ⟨gj, k * 6 + i, none⟩ v) := (FxT.refl _ W).set h.bj (by simp) _ _
  exact ⟨h.be.setCell (p := ⟨gj, k * 6 + i, none⟩) h.loj v, h.lom, h.loj, jr_set h.bj hk hi hp, A, c, kd, h1.fx hfs (by decide), h2.fx hfs (by decide), h3, h4⟩
theorem jset_at {js : List Jr} {k : Nat} {x y : Jr} (h : js[k]? = some x) : (js.set k y)[k]? = some y := by
  rw [List.getElem?_set_self (List.getElem?_eq_some_iff.1 h).1]
theorem AlJ.set {js : List Jr} {ps : List Pr} (h : AlJ js ps) (k : Nat) {x' : Jr} (hs : 0 < x'.p.ran → x'.la = x'.p.last ∧ x'.co = x'.p.core) : AlJ (js.set k x') (ps.set k x'.p) := by
  refine ⟨by rw [List.map_set, h.map], fun y hy => ?_⟩
  rcases List.mem_or_eq_of_mem_set hy with hy | rfl
  · exact h.same y hy
  · exact hs
theorem RfJ.setReq {B : World} {X : Aud} {gm gj : Nat} {js : List Jr} {m : Mo} {W : World} (h : RfJ B X gm gj js m W) (l : List Rq) (A : Option Addr) (c kd : Nat) (h2 : RowT W 54 A (reC m.slot kd l)) (h3 : l.length ≤ c) (h4 : l ≠ [] → (m.phase = 1 ∧ kd = 6) ∨ (m.phase = 3 ∧ kd = 2) ∨ (m.phase = 5 ∧ kd = 5)) :
    RfJ B X gm gj js ⟨m.ps, m.slot, m.phase, l, m.last⟩ (W.setCell ⟨gm, 5, none⟩ (.slice A l.length c)) := by
  obtain ⟨_, _, _, h1, _, _⟩ := h.bm
  have hfs : FxT [57] W (W.setCell ⟨gm, 5, none⟩ (.slice A l.length c)) := (FxT.refl _ W).set h1 (by simp) _ _
  exact ⟨h.be.setCell (p := ⟨gm, 5, none⟩) h.lom _, h.lom, h.loj, h.bj.fx hfs (by decide), A, c, kd, h1.set_ 5 _, h2.fx hfs (by decide), h3, h4⟩
theorem re_tail {W : World} {b o slot kind : Nat} {r : Rq} {l : List Rq} (h : RowT W 54 (some ⟨b, o, none⟩) (reC slot kind (r :: l))) : RowT W 54 (some ⟨b, o + 6, none⟩) (reC slot kind l) := fun hn => by
  obtain ⟨b', o', cs, m, h1, h2, h3⟩ := h (by simp [reC, reL])
  injection h1 with h1
  injection h1 with e1 e2
  subst e1 e2
  refine ⟨_, _, cs, m, rfl, h2, fun i v hi => ?_⟩
  have := h3 (i + 6) v (by
    unfold reC at hi ⊢
    rw [List.flatMap_cons, List.getElem?_append_right (by simp [reL])]
    rw [← hi]
    congr 1)
  rwa [show o + 6 + i = o + (i + 6) from by omega]
theorem re_at {W : World} {A : Option Addr} {slot kind : Nat} {r : Rq} {l : List Rq} (h : RowT W 54 A (reC slot kind (r :: l))) :
    ∃ b o, A = some ⟨b, o, none⟩ ∧ b < W.heap.size ∧ W.cell? ⟨b, o, none⟩ = some (.int .i64 (slot : Int)) ∧ W.cell? ⟨b, o + 1, none⟩ = some (.int .i64 r.core) ∧ W.cell? ⟨b, o + 2, none⟩ = some (.int .i64 (r.task : Int)) ∧ W.cell? ⟨b, o + 3, none⟩ = some (.int .i64 r.job) ∧ W.cell? ⟨b, o + 4, none⟩ = some (.int .u8 (kind : Int)) ∧ W.cell? ⟨b, o + 5, none⟩ = some (.int .i64 r.value) := by
  obtain ⟨b, o, hA, hb, hc⟩ := h.row (by simp [reC, reL])
  exact ⟨b, o, hA, hb, hc 0 _ rfl, hc 1 _ rfl, hc 2 _ rfl, hc 3 _ rfl, hc 4 _ rfl, hc 5 _ rfl⟩
def RAdvRel (B : World) (X : Aud) (gm gj J slot phase : Nat) (R : Nat × Mo) (ge : Nat) (ev : Array Value) (W : World) : Prop :=
  ∃ (m : Mo) (k : Nat), RfInv B X gm gj m W ∧ AU.Inv X.ts X.n J m ∧ AU.adv X.ts X.n slot phase k m = R ∧ slot * 5 + 6 < AU.mm m + k ∧ m.slot ≤ slot ∧ (m.slot = slot → m.phase ≤ phase) ∧ Blk W ge 54 ev
section
set_option maxHeartbeats 400000000
set_option maxRecDepth 100000
theorem rphase_any (k : Nat) (w : World) : Calls Try.prog 25 #[.int .u8 (k : Int)] w fun e w' => e = .returned (.int .i64 (AU.phaseOf k : Int)) ∧ w' = w := by
  have hc : ∀ (j : Nat), ((k : Int) == (j : Int)) = decide (k = j) := fun j => by
    by_cases h : k = j
    · subst h; simp
    · rw [decide_eq_false h]
      exact beq_false_of_ne (by omega)
  have c6 : ((k : Int) == 6) = decide (k = 6) := hc 6
  have c1 : ((k : Int) == 1) = decide (k = 1) := hc 1
  have c2 : ((k : Int) == 2) = decide (k = 2) := hc 2
  have c3 : ((k : Int) == 3) = decide (k = 3) := hc 3
  have c4 : ((k : Int) == 4) = decide (k = 4) := hc 4
  have c7 : ((k : Int) == 7) = decide (k = 7) := hc 7
  have c5 : ((k : Int) == 5) = decide (k = 5) := hc 5
  have hP : AU.phaseOf k = if k = 6 then 1 else if k = 1 then 2 else if k = 2 then 3 else if k = 3 ∨ k = 4 ∨ k = 7 then 4 else if k = 5 then 5 else 0 := rfl
  generalize AU.phaseOf k = R at *
  clear hc
  go_enter Try.func25, Try.ntmps25
  by_cases h6 : k = 6
  · have hr : R = 1 := by rw [hP, if_pos h6]
    subst hr h6
    clear hP c1 c2 c3 c4 c5 c6 c7
    go_wp2_with fail
    go_ret
    exact ⟨rfl, rfl⟩
  rw [if_neg h6] at hP
  rw [decide_eq_false h6] at c6
  by_cases h1 : k = 1
  · have hr : R = 2 := by rw [hP, if_pos h1]
    subst hr h1
    clear hP c1 c2 c3 c4 c5 c6 c7 h6
    go_wp2_with fail
    go_ret
    exact ⟨rfl, rfl⟩
  rw [if_neg h1] at hP
  rw [decide_eq_false h1] at c1
  by_cases h2 : k = 2
  · have hr : R = 3 := by rw [hP, if_pos h2]
    subst hr h2
    clear hP c1 c2 c3 c4 c5 c6 c7 h6 h1
    go_wp2_with fail
    go_ret
    exact ⟨rfl, rfl⟩
  rw [if_neg h2] at hP
  rw [decide_eq_false h2] at c2
  by_cases h3 : k = 3
  · have hr : R = 4 := by rw [hP, if_pos (.inl h3)]
    subst hr h3
    clear hP c1 c2 c3 c4 c5 c6 c7 h6 h1 h2
    go_wp2_with fail
    go_ret
    exact ⟨rfl, rfl⟩
  by_cases h4 : k = 4
  · have hr : R = 4 := by rw [hP, if_pos (.inr (.inl h4))]
    subst hr h4
    clear hP c1 c2 c3 c4 c5 c6 c7 h6 h1 h2 h3
    go_wp2_with fail
    go_ret
    exact ⟨rfl, rfl⟩
  by_cases h7 : k = 7
  · have hr : R = 4 := by rw [hP, if_pos (.inr (.inr h7))]
    subst hr h7
    clear hP c1 c2 c3 c4 c5 c6 c7 h6 h1 h2 h3 h4
    go_wp2_with fail
    go_ret
    exact ⟨rfl, rfl⟩
  rw [if_neg (by omega)] at hP
  rw [decide_eq_false h3] at c3
  rw [decide_eq_false h4] at c4
  rw [decide_eq_false h7] at c7
  by_cases h5 : k = 5
  · have hr : R = 5 := by rw [hP, if_pos h5]
    subst hr h5
    clear hP c1 c2 c3 c4 c5 c6 c7 h6 h1 h2 h3 h4 h7
    go_wp2_with fail
    go_ret
    exact ⟨rfl, rfl⟩
  rw [if_neg h5] at hP
  rw [decide_eq_false h5] at c5
  subst hP
  clear h1 h2 h3 h4 h5 h6 h7
  go_wp2_with fail
  go_ret
  exact ⟨rfl, rfl⟩
end
end Go.Proofs.Ytehdgdlndlamjaa
