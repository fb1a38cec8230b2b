/- The auditor follows an event. -/
import Derived.Test.YtpmbhdheeaejgaaGreatDoorAuJ
import Derived.BigRegion
namespace Go.Proofs.YtpmbhdheeaejgaaGreatDoor
open Go.RowKit Go.Maps Go.Sort Go.Lib
open SL (Tk Cd)
open AU (Pr Rq Ev Mo)
theorem AU.modify_set {ps : List Pr} {k : Nat} {p : Pr} (f : Pr → Pr) (h : ps[k]? = some p) : ps.modify k f = ps.set k (f p) := by
  apply List.ext_getElem?
  intro i
  rw [List.getElem?_modify, List.getElem?_set]
  obtain ⟨h1, h2⟩ := List.getElem?_eq_some_iff.1 h
  by_cases hi : k = i
  · subst hi
    rw [h]
    simp [h1]
  · simp [hi]
theorem AU.set_len {ps : List Pr} {k : Nat} {p : Pr} : (ps.set k p).length = ps.length := List.length_set
theorem AU.set_at {ps : List Pr} {k : Nat} {p q : Pr} (h : ps[k]? = some p) : (ps.set k q)[k]? = some q := by
  rw [List.getElem?_set_self (List.getElem?_eq_some_iff.1 h).1]
theorem AInv.setP {B : World} {X : Aud} {gm gp : Nat} {m : Mo} {W : World} (h : AInv B X gm gp m W) {k j : Nat} {p p' : Pr} {v : Value} (hp : m.ps[k]? = some p) (hj : j < 6) (hpp : prL p' = (prL p).set j v) :
    AInv B X gm gp ⟨m.ps.set k p', m.slot, m.phase, m.req, m.last⟩ (W.setCell ⟨gp, k * 6 + j, none⟩ v) := by
  obtain ⟨A, c, kd, h1, h2, h3⟩ := h.bm
  have hfs : FxT [93] W (W.setCell ⟨gp, k * 6 + j, none⟩ v) := (FxT.refl _ W).set h.bp (by simp) _ _
  exact ⟨h.be.setCell (p := ⟨gp, k * 6 + j, none⟩) h.lop v, h.lom, h.lop, pr_set h.bp hp hj hpp, A, c, kd, h1.fx hfs (by decide), h2.fx hfs (by decide), h3⟩
theorem AInv.setLast {B : World} {X : Aud} {gm gp : Nat} {m : Mo} {W : World} (h : AInv B X gm gp m W) (t : Int) :
    AInv B X gm gp ⟨m.ps, m.slot, m.phase, m.req, t⟩ (W.setCell ⟨gm, 6, none⟩ (.int .i64 t)) := by
  obtain ⟨A, c, kd, h1, h2, h3⟩ := h.bm
  have hfs : FxT [74] W (W.setCell ⟨gm, 6, none⟩ (.int .i64 t)) := (FxT.refl _ W).set h1 (by simp) _ _
  exact ⟨h.be.setCell (p := ⟨gm, 6, none⟩) h.lom _, h.lom, h.lop, h.bp.fx hfs (by decide), A, c, kd, h1.set_ 6 _, h2.fx hfs (by decide), h3⟩
theorem AInv.setReq {B : World} {X : Aud} {gm gp : Nat} {m : Mo} {W : World} (h : AInv B X gm gp m W) (l : List Rq) (A : Option Addr) (c kd : Nat) (h2 : RowT W 26 A (rqC m.slot kd l)) (h3 : l.length ≤ c) :
    AInv B X gm gp ⟨m.ps, m.slot, m.phase, l, m.last⟩ (W.setCell ⟨gm, 5, none⟩ (.slice A l.length c)) := by
  obtain ⟨_, _, _, h1, _, _⟩ := h.bm
  have hfs : FxT [74] W (W.setCell ⟨gm, 5, none⟩ (.slice A l.length c)) := (FxT.refl _ W).set h1 (by simp) _ _
  exact ⟨h.be.setCell (p := ⟨gm, 5, none⟩) h.lom _, h.lom, h.lop, h.bp.fx hfs (by decide), A, c, kd, h1.set_ 5 _, h2.fx hfs (by decide), h3⟩
theorem rq_tail {W : World} {b o slot kind : Nat} {r : Rq} {l : List Rq} (h : RowT W 26 (some ⟨b, o, none⟩) (rqC slot kind (r :: l))) : RowT W 26 (some ⟨b, o + 8, none⟩) (rqC slot kind l) := fun hn => by
  obtain ⟨b', o', cs, m, h1, h2, h3⟩ := h (by simp [rqC, rqL])
  injection h1 with h1
  injection h1 with e1 e2
  subst e1 e2
  refine ⟨_, _, cs, m, rfl, h2, fun i v hi => ?_⟩
  have := h3 (i + 8) v (by
    unfold rqC at hi ⊢
    rw [List.flatMap_cons, List.getElem?_append_right (by simp [rqL])]
    rw [← hi]
    congr 1)
  rwa [show o + 8 + i = o + (i + 8) from by omega]
section
set_option maxHeartbeats 2000000
set_option maxRecDepth 100000
theorem follow_any {B : World} {X : Aud} {gm gp : Nat} {m : Mo} {w : World} (hI : AInv B X gm gp m w) (e : Ev) (k : Nat) (p : Pr) (he : e.task = (k : Int)) (hl : m.ps.length = X.ts.length) (hp : m.ps[k]? = some p) (hj : p.jobs ≤ 1000000000) (hr0 : 0 ≤ p.ran) (hr1 : p.ran ≤ 1000000) (hkd : AU.phaseOf e.kind ≠ 0) (hrq : e.kind = 2 ∨ e.kind = 5 ∨ e.kind = 6 → m.req ≠ []) :
    Calls Tryz.prog 34 #[.pointer (some ⟨gm, 0, none⟩), .agg (evV e)] w fun r w' => r = .returned (.tuple #[]) ∧ AInv B X gm gp (AU.follow m e) w' := by
  have hk : k < X.ts.length := by rw [← hl]; exact (List.getElem?_eq_some_iff.1 hp).1
  have q0 : (k : Int) < (X.ts.length : Int) := by omega
  rw [show evV e = #[.int .i64 e.slot, .int .i64 e.core, .int .i64 (k : Int), .int .i64 e.job, .int .u8 (e.kind : Int), .int .i64 e.value, .int .i64 e.cycle, .int .i64 e.port] from by unfold evV; rw [he]]
  have hg0 := (Gr.refl w).alloc (.cells #[.int .i64 e.slot, .int .i64 e.core, .int .i64 (k : Int), .int .i64 e.job, .int .u8 (e.kind : Int), .int .i64 e.value, .int .i64 e.cycle, .int .i64 e.port] 26)
  have hk0 : Blk (w.alloc (.cells #[.int .i64 e.slot, .int .i64 e.core, .int .i64 (k : Int), .int .i64 e.job, .int .u8 (e.kind : Int), .int .i64 e.value, .int .i64 e.cycle, .int .i64 e.port] 26)) w.heap.size 26 #[.int .i64 e.slot, .int .i64 e.core, .int .i64 (k : Int), .int .i64 e.job, .int .u8 (e.kind : Int), .int .i64 e.value, .int .i64 e.cycle, .int .i64 e.port] := Blk.new w _ _
  have hi1 := hI.below hg0.1
  have hkc : e.kind = 1 ∨ e.kind = 2 ∨ e.kind = 3 ∨ e.kind = 4 ∨ e.kind = 5 ∨ e.kind = 6 ∨ e.kind = 7 := by
    unfold AU.phaseOf at hkd
    split at hkd
    · omega
    · split at hkd
      · omega
      · split at hkd
        · omega
        · split at hkd
          · omega
          · split at hkd
            · omega
            · exact absurd rfl hkd
  have htn : e.task.toNat = k := by omega
  have hfo : AU.follow m e = if e.kind = 1 then (⟨m.ps.set k ⟨p.jobs + 1, true, m.slot, 0, p.last, p.core⟩, m.slot, m.phase, m.req, e.task⟩ : Mo)
      else if e.kind = 2 then ⟨m.ps.set k ⟨p.jobs, p.live, p.rel, p.ran + 1, m.slot, e.core⟩, m.slot, m.phase, m.req.tail, m.last⟩
      else if e.kind = 6 ∨ e.kind = 5 then ⟨m.ps.set k ⟨p.jobs, false, p.rel, p.ran, p.last, p.core⟩, m.slot, m.phase, m.req.tail, m.last⟩
      else if e.kind = 3 ∨ e.kind = 4 then ⟨m.ps.set k ⟨p.jobs, false, p.rel, p.ran, p.last, p.core⟩, m.slot, m.phase, m.req, m.last⟩
      else m := by
    unfold AU.follow
    rw [htn, AU.modify_set _ hp, AU.modify_set _ hp, AU.modify_set _ hp]
  rw [he] at hfo
  generalize AU.follow m e = M' at *
  have HM := Lib.hid hfo
  have HI1 := Lib.hid hi1
  have HK1 := Lib.hid hk0
  have HPP := Lib.hid hp
  have HRQ := Lib.hid hrq
  have z0 : IntKind.i64.wrap ((p.jobs : Int) + 1) = (p.jobs : Int) + 1 := IntWalk.i64_in _ (by omega)
  have z3 : IntKind.i64.wrap (p.ran + 1) = p.ran + 1 := IntWalk.i64_in _ (by omega)
  clear hI hg0 hi1 hp he hl hkd hk0 hfo htn hrq
  go_enter Tryz.func34, Tryz.ntmps34
  go_wp2_with fail
  generalize w.alloc (.cells #[.int .i64 e.slot, .int .i64 e.core, .int .i64 (k : Int), .int .i64 e.job, .int .u8 (e.kind : Int), .int .i64 e.value, .int .i64 e.cycle, .int .i64 e.port] 26) = w1 at *
  obtain ⟨_, a2, _, _, _⟩ := HI1.out.cells
  obtain ⟨_, _, x2, _, _, _, _, _⟩ := HK1.out.eight
  go_quiet (fail)
  have hi2 := HI1.out.below ((Gr.refl w1).drewN nq).1
  have hk2 : Blk (w1.drewN nq) w.heap.size 26 #[.int .i64 e.slot, .int .i64 e.core, .int .i64 (k : Int), .int .i64 e.job, .int .u8 (e.kind : Int), .int .i64 e.value, .int .i64 e.cycle, .int .i64 e.port] := HK1.out.drewN nq
  clear a2 x2 HI1 HK1
  generalize w1.drewN nq = w2 at *
  obtain ⟨A, c, kind, hbm, hrt, hcp⟩ := hi2.bm
  have a3 := hbm.cell 3
  have a5 := hbm.cell 5
  have a6 := hbm.cell 6
  have f5 := hbm.frozen 5
  have f6 := hbm.frozen 6
  simp only [List.getElem?_toArray, List.getElem?_cons_succ, List.getElem?_cons_zero] at a3 a5 a6
  obtain ⟨c0, c1, c2, c3, c4, c5⟩ := pr_cells hi2.bp HPP.out
  have g0 := hi2.bp.frozen (k * 6)
  have g1 := hi2.bp.frozen (k * 6 + 1)
  have g2 := hi2.bp.frozen (k * 6 + 2)
  have g3 := hi2.bp.frozen (k * 6 + 3)
  have g4 := hi2.bp.frozen (k * 6 + 4)
  have g5 := hi2.bp.frozen (k * 6 + 5)
  obtain ⟨x0, x1, x2, x3, x4, x5, x6, x7⟩ := hk2.eight
  have hne : gm ≠ gp := blk_ne hbm hi2.bp (by decide)
  have hnw : w.heap.size ≠ gp := blk_ne hk2 hi2.bp (by decide)
  have hlm := hbm.lt
  have hlp := hi2.bp.lt
  have HI := Lib.hid hi2
  have HBM := Lib.hid hbm
  have HRT := Lib.hid hrt
  clear hi2 hbm hrt hk2
  obtain ⟨kd, hkd⟩ : ∃ n, n = e.kind := ⟨_, rfl⟩
  rw [← hkd] at hkc x4
  have HKD := Lib.hid hkd
  clear hkd
  rcases hkc with rfl | rfl | rfl | rfl | rfl | rfl | rfl
  · go_wp2_with fail
    go_end0
    refine ⟨rfl, ?_⟩
    have hM : M' = ⟨m.ps.set k ⟨p.jobs + 1, true, m.slot, 0, p.last, p.core⟩, m.slot, m.phase, m.req, (k : Int)⟩ := by rw [HM.out, ← HKD.out]; rfl
    rw [hM]
    have h5 := ((((HI.out.setP (j := 0) (p' := ⟨p.jobs + 1, p.live, p.rel, p.ran, p.last, p.core⟩) (v := .int .i64 ((p.jobs : Int) + 1)) HPP.out (by omega) rfl).setP (j := 1) (p' := ⟨p.jobs + 1, true, p.rel, p.ran, p.last, p.core⟩) (v := .bool true) (AU.set_at HPP.out) (by omega) rfl).setP (j := 2) (p' := ⟨p.jobs + 1, true, m.slot, p.ran, p.last, p.core⟩) (v := .int .i64 (m.slot : Int)) (AU.set_at (AU.set_at HPP.out)) (by omega) rfl).setP (j := 3) (p' := ⟨p.jobs + 1, true, m.slot, 0, p.last, p.core⟩) (v := .int .i64 0) (AU.set_at (AU.set_at (AU.set_at HPP.out))) (by omega) rfl).setLast (k : Int)
    simp only [List.set_set] at h5
    exact h5
  · obtain ⟨r, l, hq⟩ : ∃ r l, m.req = r :: l := by
      cases hq : m.req with
      | nil => exact absurd hq (HRQ.out (by rw [← HKD.out]; omega))
      | cons r l => exact ⟨r, l, rfl⟩
    have hM : M' = ⟨m.ps.set k ⟨p.jobs, p.live, p.rel, p.ran + 1, m.slot, e.core⟩, m.slot, m.phase, l, m.last⟩ := by rw [HM.out, ← HKD.out, hq]; rfl
    have HM2 := Lib.hid hM
    rw [hq] at a5 hcp HRT
    simp only [List.length_cons] at a5 hcp
    have hrw : HRT.out = HRT.out := rfl
    obtain ⟨b, o, rfl, _⟩ := HRT.out.row (by simp [rqC, rqL])
    have HRL := Lib.hid (rq_tail HRT.out)
    clear hM hq hrw HM
    by_cases hone : c = 1
    · have hl0 : l = [] := List.length_eq_zero_iff.1 (by omega)
      subst hone hl0
      simp only [List.length_nil] at a5 hcp
      go_wp2_with fail
      go_end0
      refine ⟨rfl, ?_⟩
      rw [HM2.out]
      have h6 := (((HI.out.setP (j := 3) (p' := ⟨p.jobs, p.live, p.rel, p.ran + 1, p.last, p.core⟩) (v := .int .i64 (p.ran + 1)) HPP.out (by omega) rfl).setP (j := 4) (p' := ⟨p.jobs, p.live, p.rel, p.ran + 1, m.slot, p.core⟩) (v := .int .i64 (m.slot : Int)) (AU.set_at HPP.out) (by omega) rfl).setP (j := 5) (p' := ⟨p.jobs, p.live, p.rel, p.ran + 1, m.slot, e.core⟩) (v := .int .i64 e.core) (AU.set_at (AU.set_at HPP.out)) (by omega) rfl).setReq [] (some ⟨b, o, none⟩) 0 0 (fun h => absurd rfl h) (Nat.le_refl _)
      simp only [List.set_set] at h6
      exact h6
    · have hone2 : 1 < c := by omega
      go_wp2_with fail
      go_end0
      refine ⟨rfl, ?_⟩
      rw [HM2.out]
      have h5 := ((HI.out.setP (j := 3) (p' := ⟨p.jobs, p.live, p.rel, p.ran + 1, p.last, p.core⟩) (v := .int .i64 (p.ran + 1)) HPP.out (by omega) rfl).setP (j := 4) (p' := ⟨p.jobs, p.live, p.rel, p.ran + 1, m.slot, p.core⟩) (v := .int .i64 (m.slot : Int)) (AU.set_at HPP.out) (by omega) rfl).setP (j := 5) (p' := ⟨p.jobs, p.live, p.rel, p.ran + 1, m.slot, e.core⟩) (v := .int .i64 e.core) (AU.set_at (AU.set_at HPP.out)) (by omega) rfl
      have hfx : FxT [93] w2 (((w2.setCell ⟨gp, k * 6 + 3, none⟩ (.int .i64 (p.ran + 1))).setCell ⟨gp, k * 6 + 4, none⟩ (.int .i64 (m.slot : Int))).setCell ⟨gp, k * 6 + 5, none⟩ (.int .i64 e.core)) := (((FxT.refl _ w2).set HI.out.bp (by simp) _ _).set (HI.out.bp.set_ _ _) (by simp) _ _).set ((HI.out.bp.set_ _ _).set_ _ _) (by simp) _ _
      have h6 := h5.setReq l (some ⟨b, o + 8, none⟩) (c - 1) kind (HRL.out.fx hfx (by decide)) (by omega)
      simp only [List.set_set] at h6
      exact h6
  · go_wp2_with fail
    go_end0
    refine ⟨rfl, ?_⟩
    have hM : M' = ⟨m.ps.set k ⟨p.jobs, false, p.rel, p.ran, p.last, p.core⟩, m.slot, m.phase, m.req, m.last⟩ := by rw [HM.out, ← HKD.out]; rfl
    rw [hM]
    exact HI.out.setP (j := 1) HPP.out (by omega) rfl
  · go_wp2_with fail
    go_end0
    refine ⟨rfl, ?_⟩
    have hM : M' = ⟨m.ps.set k ⟨p.jobs, false, p.rel, p.ran, p.last, p.core⟩, m.slot, m.phase, m.req, m.last⟩ := by rw [HM.out, ← HKD.out]; rfl
    rw [hM]
    exact HI.out.setP (j := 1) HPP.out (by omega) rfl
  · obtain ⟨r, l, hq⟩ : ∃ r l, m.req = r :: l := by
      cases hq : m.req with
      | nil => exact absurd hq (HRQ.out (by rw [← HKD.out]; omega))
      | cons r l => exact ⟨r, l, rfl⟩
    have hM : M' = ⟨m.ps.set k ⟨p.jobs, false, p.rel, p.ran, p.last, p.core⟩, m.slot, m.phase, l, m.last⟩ := by rw [HM.out, ← HKD.out, hq]; rfl
    have HM2 := Lib.hid hM
    rw [hq] at a5 hcp HRT
    simp only [List.length_cons] at a5 hcp
    have hrw : HRT.out = HRT.out := rfl
    obtain ⟨b, o, rfl, _⟩ := HRT.out.row (by simp [rqC, rqL])
    have HRL := Lib.hid (rq_tail HRT.out)
    clear hM hq hrw HM
    by_cases hone : c = 1
    · have hl0 : l = [] := List.length_eq_zero_iff.1 (by omega)
      subst hone hl0
      simp only [List.length_nil] at a5 hcp
      go_wp2_with fail
      go_end0
      refine ⟨rfl, ?_⟩
      rw [HM2.out]
      have h6 := (HI.out.setP (j := 1) (p' := ⟨p.jobs, false, p.rel, p.ran, p.last, p.core⟩) (v := .bool false) HPP.out (by omega) rfl).setReq [] (some ⟨b, o, none⟩) 0 0 (fun h => absurd rfl h) (Nat.le_refl _)
      exact h6
    · have hone2 : 1 < c := by omega
      go_wp2_with fail
      go_end0
      refine ⟨rfl, ?_⟩
      rw [HM2.out]
      have h5 := HI.out.setP (j := 1) (p' := ⟨p.jobs, false, p.rel, p.ran, p.last, p.core⟩) (v := .bool false) HPP.out (by omega) rfl
      have hfx : FxT [93] w2 (w2.setCell ⟨gp, k * 6 + 1, none⟩ (.bool false)) := (FxT.refl _ w2).set HI.out.bp (by simp) _ _
      have h6 := h5.setReq l (some ⟨b, o + 8, none⟩) (c - 1) kind (HRL.out.fx hfx (by decide)) (by omega)
      exact h6
  · obtain ⟨r, l, hq⟩ : ∃ r l, m.req = r :: l := by
      cases hq : m.req with
      | nil => exact absurd hq (HRQ.out (by rw [← HKD.out]; omega))
      | cons r l => exact ⟨r, l, rfl⟩
    have hM : M' = ⟨m.ps.set k ⟨p.jobs, false, p.rel, p.ran, p.last, p.core⟩, m.slot, m.phase, l, m.last⟩ := by rw [HM.out, ← HKD.out, hq]; rfl
    have HM2 := Lib.hid hM
    rw [hq] at a5 hcp HRT
    simp only [List.length_cons] at a5 hcp
    have hrw : HRT.out = HRT.out := rfl
    obtain ⟨b, o, rfl, _⟩ := HRT.out.row (by simp [rqC, rqL])
    have HRL := Lib.hid (rq_tail HRT.out)
    clear hM hq hrw HM
    by_cases hone : c = 1
    · have hl0 : l = [] := List.length_eq_zero_iff.1 (by omega)
      subst hone hl0
      simp only [List.length_nil] at a5 hcp
      go_wp2_with fail
      go_end0
      refine ⟨rfl, ?_⟩
      rw [HM2.out]
      have h6 := (HI.out.setP (j := 1) (p' := ⟨p.jobs, false, p.rel, p.ran, p.last, p.core⟩) (v := .bool false) HPP.out (by omega) rfl).setReq [] (some ⟨b, o, none⟩) 0 0 (fun h => absurd rfl h) (Nat.le_refl _)
      exact h6
    · have hone2 : 1 < c := by omega
      go_wp2_with fail
      go_end0
      refine ⟨rfl, ?_⟩
      rw [HM2.out]
      have h5 := HI.out.setP (j := 1) (p' := ⟨p.jobs, false, p.rel, p.ran, p.last, p.core⟩) (v := .bool false) HPP.out (by omega) rfl
      have hfx : FxT [93] w2 (w2.setCell ⟨gp, k * 6 + 1, none⟩ (.bool false)) := (FxT.refl _ w2).set HI.out.bp (by simp) _ _
      have h6 := h5.setReq l (some ⟨b, o + 8, none⟩) (c - 1) kind (HRL.out.fx hfx (by decide)) (by omega)
      exact h6
  · go_wp2_with fail
    go_end0
    refine ⟨rfl, ?_⟩
    have hM : M' = m := by rw [HM.out, ← HKD.out]; rfl
    rw [hM]
    exact HI.out
end
end Go.Proofs.YtpmbhdheeaejgaaGreatDoor
