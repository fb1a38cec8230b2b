/- The auditor: the table of the rules; on to a phase. -/
import Derived.Test.YtpmbhdheeaejgaaGreatDoorAuI
import Derived.Laws.EntriesVeiled
namespace Go.Proofs.YtpmbhdheeaejgaaGreatDoor
open Go.RowKit Go.Maps Go.Sort Go.Lib
open SL (Tk Cd)
open AU (Pr Rq Ev Mo)
/-- A function as a value. -/
def fvV (f : FuncId) : Value := .func (.func f) #[] #[]
def ruC : Array Value := #[fvV 42, fvV 43, fvV 41, fvV 44, fvV 45, fvV 43, fvV 41, fvV 46, fvV 47, fvV 43]
theorem cf_r1 (v : Value) (W : World) : Sem.run Tryz.prog (callFunc 41 #[v]) W = .ok (Next.enter 41 #[v]) W := by kernel_rfl
theorem cf_late (v : Value) (W : World) : Sem.run Tryz.prog (callFunc 42 #[v]) W = .ok (Next.enter 42 #[v]) W := by kernel_rfl
theorem cf_disp (v : Value) (W : World) : Sem.run Tryz.prog (callFunc 45 #[v]) W = .ok (Next.enter 45 #[v]) W := by kernel_rfl
theorem cf_cut (v : Value) (W : World) : Sem.run Tryz.prog (callFunc 47 #[v]) W = .ok (Next.enter 47 #[v]) W := by kernel_rfl
theorem cf_next (v x : Value) (W : World) : Sem.run Tryz.prog (callFunc 43 #[v, x]) W = .ok (Next.enter 43 #[v, x]) W := by kernel_rfl
theorem cf_release (v x : Value) (W : World) : Sem.run Tryz.prog (callFunc 44 #[v, x]) W = .ok (Next.enter 44 #[v, x]) W := by kernel_rfl
theorem cf_run (v x : Value) (W : World) : Sem.run Tryz.prog (callFunc 46 #[v, x]) W = .ok (Next.enter 46 #[v, x]) W := by kernel_rfl
theorem rules_result {fn : Func} {p : Tmp} (h : fn.results = #[.cell p 80]) {tmps : Array Value} {w : World} {g : Nat} (hp : tmps.getD p undef = .pointer (some ⟨g, 0, none⟩)) (hb : Blk w g 80 ruC) :
    (results fn tmps).run Tryz.prog w = .ok (.agg ruC) w :=
  results_cell_row h tmps w g 80 _ (0, 0) _ hp hb Tryz.underlying80 rfl (by kernel_rfl)
theorem own_cap {w : World} {base : Nat} {e : TypeId} {size : Nat} {A : Option Addr} {n c : Nat} {xs : List Value} (h : w.ownsRow base e size (.slice A n c) n xs) : n ≤ c := by
  rcases h.2 with ⟨e0, h0⟩ | ⟨g, cap, cur, e0, _, _, h0, _⟩
  · injection e0 with _ e1 e2; omega
  · injection e0 with _ e1 e2; omega
/-- How far the auditor's model is from the last slot. -/
def msr (gm : Nat) (W : World) : Nat := match W.cell? ⟨gm, 3, none⟩, W.cell? ⟨gm, 4, none⟩ with
  | some (.int _ s), some (.int _ p) => 500010 - (5 * s + p).toNat
  | _, _ => 0
theorem msr_eq {B : World} {X : Aud} {gm gp : Nat} {m : Mo} {W : World} (h : AInv B X gm gp m W) : msr gm W = 500010 - AU.mm m := by
  obtain ⟨_, _, h3, h4, _⟩ := h.cells
  unfold msr AU.mm
  rw [h3, h4]
  simp only
  omega
theorem AInv.req0 {B : World} {X : Aud} {gm gp : Nat} {m : Mo} {W : World} (h : AInv B X gm gp m W) (hr : m.req = []) : ∃ A c, Blk W gm 74 #[X.tv, .int .i64 (X.n : Int), .slice (some ⟨gp, 0, none⟩) X.ts.length X.ts.length, .int .i64 (m.slot : Int), .int .i64 (m.phase : Int), .slice A 0 c, .int .i64 m.last] := by
  obtain ⟨A, c, kd, h1, _⟩ := h.bm
  rw [hr] at h1
  exact ⟨A, c, h1⟩
def AdvRel (w0 B : World) (X : Aud) (gm gp J slot phase : Nat) (R : Nat × Mo) (gt : Nat) (W : World) : Prop :=
  ∃ (m : Mo) (k : Nat), AInv B X gm gp m W ∧ AU.Inv X.ts X.n J m ∧ AU.adv X.ts X.n slot phase k m = R ∧ slot * 5 + 6 < AU.mm m + k ∧ m.slot ≤ slot ∧ Blk W gt 80 ruC ∧ FxT [74] w0 W
section
set_option maxHeartbeats 2000000
set_option maxRecDepth 100000
theorem none_any (v : Value) (w : World) : Calls Tryz.prog 41 #[v] w fun e w' => e = .returned (.slice none 0 0) ∧ w' = w := by
  go_enter Tryz.func41, Tryz.ntmps41
  go_wp2_with fail
  go_ret
  exact ⟨rfl, rfl⟩
theorem rules_any (w : World) : Calls Tryz.prog 33 #[] w fun e w' => e = .returned (.agg ruC) ∧ Gr w w' := by
  go_enter Tryz.func33, Tryz.ntmps33
  go_wp2_with fail
  refine bodyPost_ret (rules_result rfl rfl (Blk.new w 80 ruC)) rfl ?_
  exact ⟨rfl, (Gr.refl w).alloc _⟩
/-- What a phase requires at its beginning: the function of the table. -/
theorem req_any {B : World} {X : Aud} (hx : AudOk B X) {gm gp : Nat} (ps : List Pr) (slot phase : Nat) (last : Int) (hp1 : 1 ≤ phase) (hp5 : phase ≤ 5) (hl : ps.length = X.ts.length) (hok : AU.OkPs X.n slot 1000000000 X.ts ps) (ha : AU.Apart ps) (hs : slot ≤ 100000) :
    ∃ f, ruC[(phase - 1) * 2]? = some (fvV f) ∧ (∀ (v : Value) (W : World), Sem.run Tryz.prog (callFunc f #[v]) W = .ok (Next.enter f #[v]) W) ∧ ∀ w, AInv B X gm gp ⟨ps, slot, phase, [], last⟩ w →
      Calls Tryz.prog f #[.pointer (some ⟨gm, 0, none⟩)] w fun e w' => ∃ A c kind, e = .returned (.slice A (AU.need X.ts X.n ps slot phase).length c) ∧ RowT w' 26 A (rqC slot kind (AU.need X.ts X.n ps slot phase)) ∧ (AU.need X.ts X.n ps slot phase).length ≤ c ∧ Below w.heap.size w w' := by
  have hc : phase = 1 ∨ phase = 2 ∨ phase = 3 ∨ phase = 4 ∨ phase = 5 := by omega
  rcases hc with rfl | rfl | rfl | rfl | rfl
  · refine ⟨_, rfl, cf_late, fun w hI => (late_any hx hI hl hok hs).mono ?_⟩
    rintro e w' ⟨v, rfl, h1, h2⟩
    obtain ⟨A, c, rfl⟩ := own_form h1
    exact ⟨A, c, 6, rfl, rowT_own h1, own_cap h1, h2⟩
  · refine ⟨_, rfl, cf_r1, fun w hI => (none_any _ w).mono ?_⟩
    rintro e w' ⟨rfl, rfl⟩
    exact ⟨none, 0, 0, rfl, fun h => absurd rfl h, Nat.le_refl _, Below.refl _ _⟩
  · refine ⟨_, rfl, cf_disp, fun w hI => (dispatches_any hx hI hl hok ha hs).mono ?_⟩
    rintro e w' ⟨v, rfl, h1, h2⟩
    obtain ⟨A, c, rfl⟩ := own_form h1
    exact ⟨A, c, 2, rfl, rowT_own h1, own_cap h1, h2⟩
  · refine ⟨_, rfl, cf_r1, fun w hI => (none_any _ w).mono ?_⟩
    rintro e w' ⟨rfl, rfl⟩
    exact ⟨none, 0, 0, rfl, fun h => absurd rfl h, Nat.le_refl _, Below.refl _ _⟩
  · refine ⟨_, rfl, cf_cut, fun w hI => (cutoffs_any hx hI hl hok ha).mono ?_⟩
    rintro e w' ⟨v, rfl, h1, h2⟩
    obtain ⟨A, c, rfl⟩ := own_form h1
    exact ⟨A, c, 5, rfl, rowT_own h1, own_cap h1, h2⟩
theorem advance_any {B : World} {X : Aud} (hx : AudOk B X) {gm gp : Nat} {m : Mo} {w : World} (hI : AInv B X gm gp m w) (J slot phase : Nat) (hJ : J ≤ 1000000000) (hv : AU.Inv X.ts X.n J m) (hs : slot ≤ 100000) (_hph : phase ≤ 6) (hsl : m.slot ≤ slot) :
    Calls Tryz.prog 23 #[.pointer (some ⟨gm, 0, none⟩), .int .i64 (slot : Int), .int .i64 (phase : Int)] w fun e w' => e = .returned (.int .i64 ((AU.adv X.ts X.n slot phase AU.fuel m).1 : Int)) ∧ AInv B X gm gp (AU.adv X.ts X.n slot phase AU.fuel m).2 w' ∧ FxT [74] w w' := by
  have hfu : slot * 5 + 6 < AU.mm m + AU.fuel := by unfold AU.fuel; omega
  have HX := Lib.hid hx
  have HRU := Lib.hid (fun W => rules_any W)
  have HI := Lib.hid hI
  have HV := Lib.hid hv
  have HFU := Lib.hid hfu
  generalize hR : AU.adv X.ts X.n slot phase AU.fuel m = R at *
  have HR := Lib.hid hR
  have hlast : R.1 ≤ 1000000 := by
    have h := AU.adv_req (ts := X.ts) (n := X.n) (slot := slot) (phase := phase) AU.fuel m
    have h2 := (AU.inv_adv (phase := phase) hs AU.fuel m hv).ph.2
    rw [hR] at h h2
    omega
  clear hI hx hv hfu hR
  go_enter Tryz.func23, Tryz.ntmps23
  go_wp2_with fail
  refine (HRU.out _).mono ?_
  rintro e w1 ⟨rfl, hg⟩
  have hI1 := HI.out.below hg.1
  have HD0 := Lib.hid (show AdvRel w B X gm gp J slot phase R w1.heap.size (w1.alloc (.cells ruC 80)) from
    ⟨m, _, hI1.below ((Gr.refl w1).alloc _).1, HV.out, HR.out, HFU.out, hsl, Blk.new w1 _ _, ((FxT.refl _ w).below hg.1).alloc _⟩)
  clear hg hI1 HI HV HR HFU HRU hsl
  rw [show ruC = #[fvV 42, fvV 43, fvV 41, fvV 44, fvV 45, fvV 43, fvV 41, fvV 46, fvV 47, fvV 43] from rfl]
  unfold fvV
  go_wp2_with fail
  generalize w1.heap.size = gt at *
  go_loopw [] (fun wr => AdvRel w B X gm gp J slot phase R gt wr) (fun wr => msr gm wr)
  case atStart => exact HD0.out
  case round =>
    clear HD0
    obtain ⟨m, k, hI, hv, hr, hfu, hsl, hgt, hfw⟩ := hrel
    have HFW := Lib.hid hfw
    clear hfw
    by_cases hc1 : m.slot < slot
    · have hcond : m.slot < slot ∨ m.phase < phase := .inl hc1
      have d1 : (m.slot : Int) < (slot : Int) := by omega
      have hk1 : 1 ≤ k := by have := hv.ph.2; have := hfu; unfold AU.mm at this; omega
      obtain ⟨k, rfl⟩ : ∃ j, k = j + 1 := ⟨k - 1, by omega⟩
      rw [AU.adv, if_pos hcond] at hr
      obtain ⟨_, _, a3, a4, _⟩ := hI.cells
      cases hq : m.req with
      | cons r l =>
        rw [if_pos (by rw [hq]; simp)] at hr
        have a5 : ∃ A c, wr.cell? ⟨gm, 5, none⟩ = some (.slice A (l.length + 1) c) := by
          obtain ⟨A, c, kd, hbm, _⟩ := hI.bm
          rw [hq] at hbm
          exact ⟨A, c, hbm.cell 5⟩
        obtain ⟨A, c, a5⟩ := a5
        have q1 : (0 : Int) < (l.length : Int) + 1 := by omega
        have z2 : IntKind.i64.wrap ((m.phase : Int) + 2) = (m.phase : Int) + 2 := IntWalk.i64_in _ (by have := hv.ph.2; omega)
        have HI := Lib.hid hI
        clear hI hv hfu hgt hq hcond
        go_wp2_with fail
        go_ret
        rw [← hr]
        exact ⟨by simp, HI.out, HFW.out⟩
      | nil =>
        rw [if_neg (by rw [hq]; simp)] at hr
        obtain ⟨A, c, hbm⟩ := hI.req0 hq
        have a5 := hbm.cell 5
        have f3 := hbm.frozen 3
        have f4 := hbm.frozen 4
        have f6 := hbm.frozen 6
        have a6 := hbm.cell 6
        simp only [List.getElem?_toArray, List.getElem?_cons_zero, List.getElem?_cons_succ] at a5 a6
        have HBM := Lib.hid hbm
        have HI := Lib.hid hI
        have HV := Lib.hid hv
        have HFU := Lib.hid hfu
        have HGT := Lib.hid hgt
        have HOK := Lib.hid (show AU.OkPs X.n m.slot 1000000000 X.ts m.ps from fun i t p a b => (hv.ok i t p a b).up (Nat.le_refl _) hJ)
        have hph1 := hv.ph.1
        clear hbm hI hfu hgt hq
        by_cases hp5 : m.phase < 5
        · rw [if_pos (Or.inl hp5)] at hr
          have HR := Lib.hid hr
          have d5 : decide ((m.phase : Int) < 5) = true := decide_eq_true (by omega)
          have q5 : (m.phase : Int) < 5 := by omega
          have q6 : (m.phase : Int) ≤ 4 := by omega
          have z1 : IntKind.i64.wrap ((m.phase : Int) + 1) = (m.phase : Int) + 1 := IntWalk.i64_in _ (by omega)
          have z0 : IntKind.i64.wrap (m.phase : Int) = (m.phase : Int) := IntWalk.i64_in _ (by omega)
          have hfs : FxT [74] wr (wr.setCell ⟨gm, 4, none⟩ (.int .i64 ((m.phase : Int) + 1))) := (FxT.refl _ wr).set HBM.out (by simp) 4 _
          have HI2 := Lib.hid (show AInv B X gm gp ⟨m.ps, m.slot, m.phase + 1, [], m.last⟩ (wr.setCell ⟨gm, 4, none⟩ (.int .i64 ((m.phase : Int) + 1))) from
            ⟨HI.out.be.setCell (p := ⟨gm, 4, none⟩) HI.out.lom _, HI.out.lom, HI.out.lop, HI.out.bp.fx hfs (by decide), A, c, 0, HBM.out.set_ 4 _, fun h => absurd rfl h, Nat.zero_le _⟩)
          clear hr hv hcond HBM
          have hgt2 : Blk (wr.setCell ⟨gm, 4, none⟩ (.int .i64 ((m.phase : Int) + 1))) gt 80 ruC := HGT.out.fx hfs (by decide)
          obtain ⟨f, hf, hcf, hcall⟩ := req_any HX.out (gm := gm) (gp := gp) m.ps m.slot (m.phase + 1) m.last (by omega) (by omega) HV.out.len HOK.out HV.out.apart (by omega)
          have x0 := (hgt2.cell (m.phase * 2)).trans (show ruC[m.phase * 2]? = some (fvV f) from hf)
          unfold fvV at x0
          have HC := Lib.hid (hcall _ HI2.out)
          have hlt := HI.out.blt
          have HFS := Lib.hid (HFW.out.trans hfs)
          obtain ⟨_, _, y3, y4, _⟩ := HI2.out.cells
          have HG2 := Lib.hid hgt2
          clear hcall hgt2 hf hfs
          go_wp2_with fail
          refine HC.out.mono ?_
          rintro e w3 ⟨A3, c3, kind, rfl, hrt, hcp, hb⟩
          have HI3 := Lib.hid (HI2.out.below hb)
          obtain ⟨Aq, cq, hbq⟩ := HI3.out.req0 rfl
          simp only at hbq
          have HG3 := Lib.hid (HG2.out.below hb)
          have HFX := Lib.hid (HFS.out.below hb)
          have HRT := Lib.hid hrt
          have y5 := hbq.cell 5
          have f5 := hbq.frozen 5
          simp only [List.getElem?_toArray, List.getElem?_cons_zero, List.getElem?_cons_succ] at y5
          have HBQ := Lib.hid hbq
          clear hb hrt hbq HC x0 hcf HI2 HG2 HFS
          go_wp2_with fail
          generalize hnd : AU.need X.ts X.n m.ps m.slot (m.phase + 1) = nd at *
          have hfs2 : FxT [74] w3 (w3.setCell ⟨gm, 5, none⟩ (.slice A3 nd.length c3)) := (FxT.refl _ w3).set HBQ.out (by simp) 5 _
          have HN := Lib.hid (show AInv B X gm gp ⟨m.ps, m.slot, m.phase + 1, nd, m.last⟩ (w3.setCell ⟨gm, 5, none⟩ (.slice A3 nd.length c3)) from
            ⟨HI3.out.be.setCell (p := ⟨gm, 5, none⟩) HI3.out.lom _, HI3.out.lom, HI3.out.lop, HI3.out.bp.fx hfs2 (by decide), A3, c3, kind, HBQ.out.set_ 5 _, HRT.out.fx hfs2 (by decide), hcp⟩)
          have hnx : AU.nxt X.ts X.n m = ⟨m.ps, m.slot, m.phase + 1, nd, m.last⟩ := by unfold AU.nxt; rw [if_pos hp5, hnd]
          have hmm := AU.nxt_mm X.ts X.n m HV.out.ph.2
          have hm1 := msr_eq HI.out
          have hm2 := msr_eq HN.out
          rw [← hnx] at hm2
          refine ⟨⟨_, _, HN.out, by rw [← hnx]; exact AU.inv_nxt HV.out (by omega), by rw [← hnx]; exact HR.out, by rw [← hnx, hmm]; have := HFU.out; omega, by simpa using hsl, HG3.out.fx hfs2 (by decide), HFX.out.trans hfs2⟩, ?_⟩
          rw [hm1, hm2, hmm]
          have : AU.mm m ≤ 500005 := by unfold AU.mm; have := HV.out.slot; have := HV.out.ph.2; omega
          omega
        · have hphe : m.phase = 5 := by have := hv.ph.2; omega
          have d5 : decide ((m.phase : Int) < 5) = false := decide_eq_false (by omega)
          have q5 : ¬ (m.phase : Int) < 5 := by omega
          clear hphe
          by_cases hs2 : m.slot < slot
          · rw [if_pos (Or.inr hs2)] at hr
            have HR := Lib.hid hr
            have e5 : (m.slot : Int) < (slot : Int) := by omega
            have z1 : IntKind.i64.wrap ((m.slot : Int) + 1) = (m.slot : Int) + 1 := IntWalk.i64_in _ (by omega)
            have hfs : FxT [74] wr (((wr.setCell ⟨gm, 3, none⟩ (.int .i64 ((m.slot : Int) + 1))).setCell ⟨gm, 4, none⟩ (.int .i64 1)).setCell ⟨gm, 6, none⟩ (.int .i64 (-1))) := (((FxT.refl _ wr).set HBM.out (by simp) 3 _).set (HBM.out.set_ 3 _) (by simp) 4 _).set ((HBM.out.set_ 3 _).set_ 4 _) (by simp) 6 _
            have HI2 := Lib.hid (show AInv B X gm gp ⟨m.ps, m.slot + 1, 1, [], -1⟩ (((wr.setCell ⟨gm, 3, none⟩ (.int .i64 ((m.slot : Int) + 1))).setCell ⟨gm, 4, none⟩ (.int .i64 1)).setCell ⟨gm, 6, none⟩ (.int .i64 (-1))) from
              ⟨((HI.out.be.setCell (p := ⟨gm, 3, none⟩) HI.out.lom _).setCell (p := ⟨gm, 4, none⟩) HI.out.lom _).setCell (p := ⟨gm, 6, none⟩) HI.out.lom _, HI.out.lom, HI.out.lop, HI.out.bp.fx hfs (by decide), A, c, 0, ((HBM.out.set_ 3 _).set_ 4 _).set_ 6 _, fun h => absurd rfl h, Nat.zero_le _⟩)
            clear hr hv hcond HBM
            have HOK2 := Lib.hid (show AU.OkPs X.n (m.slot + 1) 1000000000 X.ts m.ps from fun i t p a b => (HOK.out i t p a b).up (by omega) (Nat.le_refl _))
            have hgt2 : Blk (((wr.setCell ⟨gm, 3, none⟩ (.int .i64 ((m.slot : Int) + 1))).setCell ⟨gm, 4, none⟩ (.int .i64 1)).setCell ⟨gm, 6, none⟩ (.int .i64 (-1))) gt 80 ruC := HGT.out.fx hfs (by decide)
            obtain ⟨f, hf, hcf, hcall⟩ := req_any HX.out (gm := gm) (gp := gp) m.ps (m.slot + 1) 1 (-1) (by omega) (by omega) HV.out.len HOK2.out HV.out.apart (by omega)
            have x0 := (hgt2.cell 0).trans hf
            unfold fvV at x0
            have HC := Lib.hid (hcall _ HI2.out)
            have hlt := HI.out.blt
            have HFS := Lib.hid (HFW.out.trans hfs)
            obtain ⟨_, _, y3, y4, _⟩ := HI2.out.cells
            have HG2 := Lib.hid hgt2
            clear hcall hgt2 hf hfs
            go_wp2_with fail
            refine HC.out.mono ?_
            rintro e w3 ⟨A3, c3, kind, rfl, hrt, hcp, hb⟩
            have HI3 := Lib.hid (HI2.out.below hb)
            obtain ⟨Aq, cq, hbq⟩ := HI3.out.req0 rfl
            simp only at hbq
            have HG3 := Lib.hid (HG2.out.below hb)
            have HFX := Lib.hid (HFS.out.below hb)
            have HRT := Lib.hid hrt
            have y5 := hbq.cell 5
            have f5 := hbq.frozen 5
            simp only [List.getElem?_toArray, List.getElem?_cons_zero, List.getElem?_cons_succ] at y5
            have HBQ := Lib.hid hbq
            clear hb hrt hbq HC x0 hcf HI2 HG2 HFS
            go_wp2_with fail
            generalize hnd : AU.need X.ts X.n m.ps (m.slot + 1) 1 = nd at *
            have hfs2 : FxT [74] w3 (w3.setCell ⟨gm, 5, none⟩ (.slice A3 nd.length c3)) := (FxT.refl _ w3).set HBQ.out (by simp) 5 _
            have HN := Lib.hid (show AInv B X gm gp ⟨m.ps, m.slot + 1, 1, nd, -1⟩ (w3.setCell ⟨gm, 5, none⟩ (.slice A3 nd.length c3)) from
              ⟨HI3.out.be.setCell (p := ⟨gm, 5, none⟩) HI3.out.lom _, HI3.out.lom, HI3.out.lop, HI3.out.bp.fx hfs2 (by decide), A3, c3, kind, HBQ.out.set_ 5 _, HRT.out.fx hfs2 (by decide), hcp⟩)
            have hnx : AU.nxt X.ts X.n m = ⟨m.ps, m.slot + 1, 1, nd, -1⟩ := by unfold AU.nxt; rw [if_neg hp5, hnd]
            have hmm := AU.nxt_mm X.ts X.n m HV.out.ph.2
            have hm1 := msr_eq HI.out
            have hm2 := msr_eq HN.out
            rw [← hnx] at hm2
            refine ⟨⟨_, _, HN.out, by rw [← hnx]; exact AU.inv_nxt HV.out (by omega), by rw [← hnx]; exact HR.out, by rw [← hnx, hmm]; have := HFU.out; omega, by simp only; omega, HG3.out.fx hfs2 (by decide), HFX.out.trans hfs2⟩, ?_⟩
            rw [hm1, hm2, hmm]
            have : AU.mm m ≤ 500005 := by unfold AU.mm; have := HV.out.slot; have := HV.out.ph.2; omega
            omega
          · exact absurd hc1 hs2
    · by_cases hc2 : m.phase < phase
      · have hcond : m.slot < slot ∨ m.phase < phase := .inr hc2
        have d1 : ¬ (m.slot : Int) < (slot : Int) := by omega
        have d2 : (m.phase : Int) < (phase : Int) := by omega
        have hk1 : 1 ≤ k := by have := hv.ph.2; have := hfu; unfold AU.mm at this; omega
        obtain ⟨k, rfl⟩ : ∃ j, k = j + 1 := ⟨k - 1, by omega⟩
        rw [AU.adv, if_pos hcond] at hr
        obtain ⟨_, _, a3, a4, _⟩ := hI.cells
        cases hq : m.req with
        | cons r l =>
          rw [if_pos (by rw [hq]; simp)] at hr
          have a5 : ∃ A c, wr.cell? ⟨gm, 5, none⟩ = some (.slice A (l.length + 1) c) := by
            obtain ⟨A, c, kd, hbm, _⟩ := hI.bm
            rw [hq] at hbm
            exact ⟨A, c, hbm.cell 5⟩
          obtain ⟨A, c, a5⟩ := a5
          have q1 : (0 : Int) < (l.length : Int) + 1 := by omega
          have z2 : IntKind.i64.wrap ((m.phase : Int) + 2) = (m.phase : Int) + 2 := IntWalk.i64_in _ (by have := hv.ph.2; omega)
          have HI := Lib.hid hI
          clear hI hv hfu hgt hq hcond
          go_wp2_with fail
          go_ret
          rw [← hr]
          exact ⟨by simp, HI.out, HFW.out⟩
        | nil =>
          rw [if_neg (by rw [hq]; simp)] at hr
          obtain ⟨A, c, hbm⟩ := hI.req0 hq
          have a5 := hbm.cell 5
          have f3 := hbm.frozen 3
          have f4 := hbm.frozen 4
          have f6 := hbm.frozen 6
          have a6 := hbm.cell 6
          simp only [List.getElem?_toArray, List.getElem?_cons_zero, List.getElem?_cons_succ] at a5 a6
          have HBM := Lib.hid hbm
          have HI := Lib.hid hI
          have HV := Lib.hid hv
          have HFU := Lib.hid hfu
          have HGT := Lib.hid hgt
          have HOK := Lib.hid (show AU.OkPs X.n m.slot 1000000000 X.ts m.ps from fun i t p a b => (hv.ok i t p a b).up (Nat.le_refl _) hJ)
          have hph1 := hv.ph.1
          clear hbm hI hfu hgt hq
          by_cases hp5 : m.phase < 5
          · rw [if_pos (Or.inl hp5)] at hr
            have HR := Lib.hid hr
            have d5 : decide ((m.phase : Int) < 5) = true := decide_eq_true (by omega)
            have q5 : (m.phase : Int) < 5 := by omega
            have q6 : (m.phase : Int) ≤ 4 := by omega
            have z1 : IntKind.i64.wrap ((m.phase : Int) + 1) = (m.phase : Int) + 1 := IntWalk.i64_in _ (by omega)
            have z0 : IntKind.i64.wrap (m.phase : Int) = (m.phase : Int) := IntWalk.i64_in _ (by omega)
            have hfs : FxT [74] wr (wr.setCell ⟨gm, 4, none⟩ (.int .i64 ((m.phase : Int) + 1))) := (FxT.refl _ wr).set HBM.out (by simp) 4 _
            have HI2 := Lib.hid (show AInv B X gm gp ⟨m.ps, m.slot, m.phase + 1, [], m.last⟩ (wr.setCell ⟨gm, 4, none⟩ (.int .i64 ((m.phase : Int) + 1))) from
              ⟨HI.out.be.setCell (p := ⟨gm, 4, none⟩) HI.out.lom _, HI.out.lom, HI.out.lop, HI.out.bp.fx hfs (by decide), A, c, 0, HBM.out.set_ 4 _, fun h => absurd rfl h, Nat.zero_le _⟩)
            clear hr hv hcond HBM
            have hgt2 : Blk (wr.setCell ⟨gm, 4, none⟩ (.int .i64 ((m.phase : Int) + 1))) gt 80 ruC := HGT.out.fx hfs (by decide)
            obtain ⟨f, hf, hcf, hcall⟩ := req_any HX.out (gm := gm) (gp := gp) m.ps m.slot (m.phase + 1) m.last (by omega) (by omega) HV.out.len HOK.out HV.out.apart (by omega)
            have x0 := (hgt2.cell (m.phase * 2)).trans (show ruC[m.phase * 2]? = some (fvV f) from hf)
            unfold fvV at x0
            have HC := Lib.hid (hcall _ HI2.out)
            have hlt := HI.out.blt
            have HFS := Lib.hid (HFW.out.trans hfs)
            obtain ⟨_, _, y3, y4, _⟩ := HI2.out.cells
            have HG2 := Lib.hid hgt2
            clear hcall hgt2 hf hfs
            go_wp2_with fail
            refine HC.out.mono ?_
            rintro e w3 ⟨A3, c3, kind, rfl, hrt, hcp, hb⟩
            have HI3 := Lib.hid (HI2.out.below hb)
            obtain ⟨Aq, cq, hbq⟩ := HI3.out.req0 rfl
            simp only at hbq
            have HG3 := Lib.hid (HG2.out.below hb)
            have HFX := Lib.hid (HFS.out.below hb)
            have HRT := Lib.hid hrt
            have y5 := hbq.cell 5
            have f5 := hbq.frozen 5
            simp only [List.getElem?_toArray, List.getElem?_cons_zero, List.getElem?_cons_succ] at y5
            have HBQ := Lib.hid hbq
            clear hb hrt hbq HC x0 hcf HI2 HG2 HFS
            go_wp2_with fail
            generalize hnd : AU.need X.ts X.n m.ps m.slot (m.phase + 1) = nd at *
            have hfs2 : FxT [74] w3 (w3.setCell ⟨gm, 5, none⟩ (.slice A3 nd.length c3)) := (FxT.refl _ w3).set HBQ.out (by simp) 5 _
            have HN := Lib.hid (show AInv B X gm gp ⟨m.ps, m.slot, m.phase + 1, nd, m.last⟩ (w3.setCell ⟨gm, 5, none⟩ (.slice A3 nd.length c3)) from
              ⟨HI3.out.be.setCell (p := ⟨gm, 5, none⟩) HI3.out.lom _, HI3.out.lom, HI3.out.lop, HI3.out.bp.fx hfs2 (by decide), A3, c3, kind, HBQ.out.set_ 5 _, HRT.out.fx hfs2 (by decide), hcp⟩)
            have hnx : AU.nxt X.ts X.n m = ⟨m.ps, m.slot, m.phase + 1, nd, m.last⟩ := by unfold AU.nxt; rw [if_pos hp5, hnd]
            have hmm := AU.nxt_mm X.ts X.n m HV.out.ph.2
            have hm1 := msr_eq HI.out
            have hm2 := msr_eq HN.out
            rw [← hnx] at hm2
            refine ⟨⟨_, _, HN.out, by rw [← hnx]; exact AU.inv_nxt HV.out (by omega), by rw [← hnx]; exact HR.out, by rw [← hnx, hmm]; have := HFU.out; omega, by simpa using hsl, HG3.out.fx hfs2 (by decide), HFX.out.trans hfs2⟩, ?_⟩
            rw [hm1, hm2, hmm]
            have : AU.mm m ≤ 500005 := by unfold AU.mm; have := HV.out.slot; have := HV.out.ph.2; omega
            omega
          · have hphe : m.phase = 5 := by have := hv.ph.2; omega
            have d5 : decide ((m.phase : Int) < 5) = false := decide_eq_false (by omega)
            have q5 : ¬ (m.phase : Int) < 5 := by omega
            clear hphe
            by_cases hs2 : m.slot < slot
            · exact absurd hs2 hc1
            · rw [if_neg (by omega)] at hr
              have e5 : ¬ (m.slot : Int) < (slot : Int) := by omega
              clear hv hcond HBM HGT HOK HFU HV
              go_wp2_with fail
              go_ret
              rw [← hr]
              exact ⟨by simp, HI.out, HFW.out⟩
      · have hr0 : R = (0, m) := by
          rw [← hr]
          cases k with
          | zero => rfl
          | succ k => rw [AU.adv, if_neg (by omega)]
        have d1 : ¬ (m.slot : Int) < (slot : Int) := by omega
        have d2 : ¬ (m.phase : Int) < (phase : Int) := by omega
        obtain ⟨_, _, a3, a4, _⟩ := hI.cells
        have HI := Lib.hid hI
        have HR0 := Lib.hid hr0
        clear hI hv hfu hgt hr hr0
        go_wp2_with fail
        go_ret
        rw [HR0.out]
        exact ⟨by simp, HI.out, HFW.out⟩
end
end Go.Proofs.YtpmbhdheeaejgaaGreatDoor
