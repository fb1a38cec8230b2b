/- The auditor's model in memory; its phases. -/
import Derived.Test.YtpmbhdheeaejgaaGreatDoorSlD
import Derived.Test.YtpmbhdheeaejgaaGreatDoorPlainAu3
import Derived.BigQuiet
import Derived.StillTailTactics
namespace Go.Proofs.YtpmbhdheeaejgaaGreatDoor
open Go.RowKit Go.Maps
open SL (Tk Cd)
open AU (Pr Rq Ev Mo)
/-- Cells of a block of one element type. -/
def RowT (W : World) (t : TypeId) (A : Option Addr) (xs : List Value) : Prop := xs ≠ [] → ∃ (b o : Nat) (cs : Array Value) (m : Nat × Nat), A = some ⟨b, o, none⟩ ∧ W.heap[b]? = some (.cells cs t m) ∧ ∀ (i : Nat) (v : Value), xs[i]? = some v → cs[o + i]? = some v
theorem RowT.fx {T : List TypeId} {W W' : World} {t : TypeId} {A : Option Addr} {xs : List Value} (h : RowT W t A xs) (k : FxT T W W') (ht : t ∉ T) : RowT W' t A xs := fun hn => by
  obtain ⟨b, o, cs, m, h1, h2, h3⟩ := h hn
  exact ⟨b, o, cs, m, h1, k.2 _ _ _ _ h2 ht, h3⟩
theorem RowT.below {W W' : World} {t : TypeId} {A : Option Addr} {xs : List Value} (h : RowT W t A xs) (k : Below W.heap.size W W') : RowT W' t A xs := fun hn => by
  obtain ⟨b, o, cs, m, h1, h2, h3⟩ := h hn
  exact ⟨b, o, cs, m, h1, by rw [k.block b (Array.getElem?_eq_some_iff.1 h2).1, h2], h3⟩
theorem RowT.row {W : World} {t : TypeId} {A : Option Addr} {xs : List Value} (h : RowT W t A xs) : Row W A xs := fun hn => by
  obtain ⟨b, o, cs, m, h1, h2, h3⟩ := h hn
  refine ⟨b, o, h1, (Array.getElem?_eq_some_iff.1 h2).1, fun i v hi => ?_⟩
  rw [cell_of_row W b (o + i) cs _ m h2]
  exact h3 i v hi
theorem rowT_own {W : World} {base : Nat} {t : TypeId} {size : Nat} {A : Option Addr} {n c : Nat} {xs : List Value} (h : W.ownsRow base t size (.slice A n c) n xs) : RowT W t A xs := fun hn => by
  rcases h.2 with ⟨e0, h0⟩ | ⟨g, cap, cur, e0, hb, hg, hnc, hm, hs, ht⟩
  · have := h.1
    rw [h0] at this
    simp at this
    exact absurd this hn
  · injection e0 with e1 e2 e3
    refine ⟨g, 0, cur, _, e1, hg, fun i v hi => ?_⟩
    rw [← ht, List.getElem?_take] at hi
    split at hi
    · rw [Nat.zero_add]; simpa using hi
    · cases hi
def evV (e : Ev) : Array Value := #[.int .i64 e.slot, .int .i64 e.core, .int .i64 e.task, .int .i64 e.job, .int .u8 (e.kind : Int), .int .i64 e.value, .int .i64 e.cycle, .int .i64 e.port]
def evC (l : List Ev) : List Value := l.flatMap fun e => (evV e).toList
def prL (p : Pr) : List Value := [.int .i64 (p.jobs : Int), .bool p.live, .int .i64 p.rel, .int .i64 p.ran, .int .i64 p.last, .int .i64 p.core]
def prC (ps : List Pr) : Array Value := (ps.flatMap prL).toArray
def rqL (slot kind : Nat) (r : Rq) : List Value := [.int .i64 (slot : Int), .int .i64 r.core, .int .i64 (r.task : Int), .int .i64 r.job, .int .u8 (kind : Int), .int .i64 r.value, .int .i64 0, .int .i64 0]
def rqC (slot kind : Nat) (l : List Rq) : List Value := l.flatMap (rqL slot kind)
theorem pr_cells {W : World} {g : Nat} {ps : List Pr} (h : Blk W g 93 (prC ps)) {k : Nat} {p : Pr} (hk : ps[k]? = some p) :
    W.cell? ⟨g, k * 6, none⟩ = some (.int .i64 (p.jobs : Int)) ∧ W.cell? ⟨g, k * 6 + 1, none⟩ = some (.bool p.live) ∧ W.cell? ⟨g, k * 6 + 2, none⟩ = some (.int .i64 p.rel) ∧ W.cell? ⟨g, k * 6 + 3, none⟩ = some (.int .i64 p.ran) ∧ W.cell? ⟨g, k * 6 + 4, none⟩ = some (.int .i64 p.last) ∧ W.cell? ⟨g, k * 6 + 5, none⟩ = some (.int .i64 p.core) := by
  have hh : ∀ m, m < 6 → W.cell? ⟨g, k * 6 + m, none⟩ = (prL p)[m]? := fun m hm => by
    rw [h.cell (k * 6 + m)]
    unfold prC
    rw [List.getElem?_toArray]
    exact flat_at 6 prL (fun _ => rfl) ps k m p hk hm
  exact ⟨hh 0 (by omega), hh 1 (by omega), hh 2 (by omega), hh 3 (by omega), hh 4 (by omega), hh 5 (by omega)⟩
theorem pr_set {W : World} {g : Nat} {ps : List Pr} (h : Blk W g 93 (prC ps)) {k m : Nat} {p p' : Pr} {v : Value} (hk : ps[k]? = some p) (hm : m < 6) (hp : prL p' = (prL p).set m v) : Blk (W.setCell ⟨g, k * 6 + m, none⟩ v) g 93 (prC (ps.set k p')) := by
  have h1 := h.set_ (k * 6 + m) v
  have h2 : (prC ps).setIfInBounds (k * 6 + m) v = prC (ps.set k p') := by
    unfold prC
    rw [List.setIfInBounds_toArray, flat_set 6 prL (fun _ => rfl) ps k m p p' v hk hm hp]
  rw [h2] at h1
  exact h1
theorem rq_at {w : World} {A : Option Addr} {slot kind : Nat} {l : List Rq} (h : Row w A (rqC slot kind l)) {k : Nat} {r : Rq} (hk : l[k]? = some r) :
    ∃ b o, A = some ⟨b, o, none⟩ ∧ b < w.heap.size ∧ w.cell? ⟨b, o + k * 8, none⟩ = some (.int .i64 (slot : Int)) ∧ w.cell? ⟨b, o + k * 8 + 1, none⟩ = some (.int .i64 r.core) ∧ w.cell? ⟨b, o + k * 8 + 2, none⟩ = some (.int .i64 (r.task : Int)) ∧ w.cell? ⟨b, o + k * 8 + 3, none⟩ = some (.int .i64 r.job) ∧
      w.cell? ⟨b, o + k * 8 + 4, none⟩ = some (.int .u8 (kind : Int)) ∧ w.cell? ⟨b, o + k * 8 + 5, none⟩ = some (.int .i64 r.value) ∧ w.cell? ⟨b, o + k * 8 + 6, none⟩ = some (.int .i64 0) ∧ w.cell? ⟨b, o + k * 8 + 7, none⟩ = some (.int .i64 0) := by
  have ha : ∀ m, m < 8 → (rqC slot kind l)[k * 8 + m]? = (rqL slot kind r)[m]? := fun m hm => flat_at 8 (rqL slot kind) (fun _ => rfl) l k m r hk hm
  obtain ⟨b, o, hA, hb, hc⟩ := h (fun e => by have := ha 0 (by omega); rw [e] at this; simp [rqL] at this)
  exact ⟨b, o, hA, hb, hc _ _ (ha 0 (by omega)), hc (k * 8 + 1) _ (ha 1 (by omega)), hc (k * 8 + 2) _ (ha 2 (by omega)), hc (k * 8 + 3) _ (ha 3 (by omega)), hc (k * 8 + 4) _ (ha 4 (by omega)), hc (k * 8 + 5) _ (ha 5 (by omega)), hc (k * 8 + 6) _ (ha 6 (by omega)), hc (k * 8 + 7) _ (ha 7 (by omega))⟩
/-- The auditor's tasks. -/
structure Aud where
  ts : List Tk
  A : Option Addr
  c : Nat
  n : Nat
def Aud.tv (X : Aud) : Value := .slice X.A X.ts.length X.c
structure AudOk (B : World) (X : Aud) : Prop where
  ok : ∀ t ∈ X.ts, SL.okTk t = true
  len : X.ts.length ≤ 40
  n1 : 1 ≤ X.n
  n4 : X.n ≤ 4
  row : Row B X.A (tkRow X.ts)
/-- The model in memory. -/
structure AInv (B : World) (X : Aud) (gm gp : Nat) (m : Mo) (W : World) : Prop where
  be : Below B.heap.size B W
  lom : B.heap.size ≤ gm
  lop : B.heap.size ≤ gp
  bp : Blk W gp 93 (prC m.ps)
  bm : ∃ A c kind, Blk W gm 74 #[X.tv, .int .i64 (X.n : Int), .slice (some ⟨gp, 0, none⟩) X.ts.length X.ts.length, .int .i64 (m.slot : Int), .int .i64 (m.phase : Int), .slice A m.req.length c, .int .i64 m.last] ∧ RowT W 26 A (rqC m.slot kind m.req) ∧ m.req.length ≤ c
theorem AInv.below {B : World} {X : Aud} {gm gp : Nat} {m : Mo} {W W' : World} (h : AInv B X gm gp m W) (hb : Below W.heap.size W W') : AInv B X gm gp m W' := by
  obtain ⟨A, c, kind, h1, h2, h3⟩ := h.bm
  exact ⟨h.be.trans (hb.mono h.be.size), h.lom, h.lop, h.bp.below hb, A, c, kind, h1.below hb, h2.below hb, h3⟩
theorem AudOk.task {B : World} {X : Aud} (h : AudOk B X) {k : Nat} {t : Tk} (ht : X.ts[k]? = some t) : ∃ tb to_, X.A = some ⟨tb, to_, none⟩ ∧ tb < B.heap.size ∧ ∀ W, Below B.heap.size B W →
    W.cell? ⟨tb, to_ + k * 3, none⟩ = some (.string t.name) ∧ W.cell? ⟨tb, to_ + k * 3 + 1, none⟩ = some (.int .i64 t.cost) ∧ W.cell? ⟨tb, to_ + k * 3 + 2, none⟩ = some (.int .i64 t.per) := by
  obtain ⟨tb, to_, hA, hb, h0, h1, h2⟩ := h.row.tk ht
  refine ⟨tb, to_, hA, hb, fun W hB => ?_⟩
  exact ⟨(hB.cell (p := ⟨tb, to_ + k * 3, none⟩) hb).trans h0, (hB.cell (p := ⟨tb, to_ + k * 3 + 1, none⟩) hb).trans h1, (hB.cell (p := ⟨tb, to_ + k * 3 + 2, none⟩) hb).trans h2⟩
section
set_option maxHeartbeats 2000000
set_option maxRecDepth 100000
theorem phase_any (k : Nat) (w : World) : Calls Tryz.prog 32 #[.int .u8 (k : Int)] w fun e w' => e = .returned (.int .i64 (AU.phaseOf k : Int)) ∧ w' = w := by
  have hc : ∀ (j : Nat), ((k : Int) == (j : Int)) = decide (k = j) := fun j => by
    by_cases h : k = j
    · subst h; simp
    · rw [decide_eq_false h]
      exact beq_false_of_ne (by omega)
  have c6 : ((k : Int) == 6) = decide (k = 6) := hc 6
  have c1 : ((k : Int) == 1) = decide (k = 1) := hc 1
  have c2 : ((k : Int) == 2) = decide (k = 2) := hc 2
  have c3 : ((k : Int) == 3) = decide (k = 3) := hc 3
  have c4 : ((k : Int) == 4) = decide (k = 4) := hc 4
  have c7 : ((k : Int) == 7) = decide (k = 7) := hc 7
  have c5 : ((k : Int) == 5) = decide (k = 5) := hc 5
  have hP : AU.phaseOf k = if k = 6 then 1 else if k = 1 then 2 else if k = 2 then 3 else if k = 3 ∨ k = 4 ∨ k = 7 then 4 else if k = 5 then 5 else 0 := rfl
  generalize AU.phaseOf k = R at *
  clear hc
  go_enter Tryz.func32, Tryz.ntmps32
  by_cases h6 : k = 6
  · have hr : R = 1 := by rw [hP, if_pos h6]
    subst hr h6
    clear hP c1 c2 c3 c4 c5 c6 c7
    go_wp2_with fail
    go_ret
    exact ⟨rfl, rfl⟩
  rw [if_neg h6] at hP
  rw [decide_eq_false h6] at c6
  by_cases h1 : k = 1
  · have hr : R = 2 := by rw [hP, if_pos h1]
    subst hr h1
    clear hP c1 c2 c3 c4 c5 c6 c7 h6
    go_wp2_with fail
    go_ret
    exact ⟨rfl, rfl⟩
  rw [if_neg h1] at hP
  rw [decide_eq_false h1] at c1
  by_cases h2 : k = 2
  · have hr : R = 3 := by rw [hP, if_pos h2]
    subst hr h2
    clear hP c1 c2 c3 c4 c5 c6 c7 h6 h1
    go_wp2_with fail
    go_ret
    exact ⟨rfl, rfl⟩
  rw [if_neg h2] at hP
  rw [decide_eq_false h2] at c2
  by_cases h3 : k = 3
  · have hr : R = 4 := by rw [hP, if_pos (.inl h3)]
    subst hr h3
    clear hP c1 c2 c3 c4 c5 c6 c7 h6 h1 h2
    go_wp2_with fail
    go_ret
    exact ⟨rfl, rfl⟩
  by_cases h4 : k = 4
  · have hr : R = 4 := by rw [hP, if_pos (.inr (.inl h4))]
    subst hr h4
    clear hP c1 c2 c3 c4 c5 c6 c7 h6 h1 h2 h3
    go_wp2_with fail
    go_ret
    exact ⟨rfl, rfl⟩
  by_cases h7 : k = 7
  · have hr : R = 4 := by rw [hP, if_pos (.inr (.inr h7))]
    subst hr h7
    clear hP c1 c2 c3 c4 c5 c6 c7 h6 h1 h2 h3 h4
    go_wp2_with fail
    go_ret
    exact ⟨rfl, rfl⟩
  rw [if_neg (by omega)] at hP
  rw [decide_eq_false h3] at c3
  rw [decide_eq_false h4] at c4
  rw [decide_eq_false h7] at c7
  by_cases h5 : k = 5
  · have hr : R = 5 := by rw [hP, if_pos h5]
    subst hr h5
    clear hP c1 c2 c3 c4 c5 c6 c7 h6 h1 h2 h3 h4 h7
    go_wp2_with fail
    go_ret
    exact ⟨rfl, rfl⟩
  rw [if_neg h5] at hP
  rw [decide_eq_false h5] at c5
  subst hP
  clear h1 h2 h3 h4 h5 h6 h7
  go_wp2_with fail
  go_ret
  exact ⟨rfl, rfl⟩
end
end Go.Proofs.YtpmbhdheeaejgaaGreatDoor
