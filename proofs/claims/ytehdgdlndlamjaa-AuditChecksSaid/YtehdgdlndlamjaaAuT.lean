/- The reference goes to the next phase. -/
import Derived.Test.YtehdgdlndlamjaaAuS
namespace Go.Proofs.Ytehdgdlndlamjaa
open Go.RowKit Go.Maps Go.Sort Go.Lib
open SL (Tk Cd)
open AU (Pr Rq Ev Mo)
theorem RfInv.req0 {B : World} {X : Aud} {gm gj : Nat} {m : Mo} {W : World} (h : RfInv B X gm gj m W) (hr : m.req = []) : ∃ A c, Blk W gm 57 #[X.tv, .int .i64 (X.n : Int), .slice (some ⟨gj, 0, none⟩) X.ts.length X.ts.length, .int .i64 (m.slot : Int), .int .i64 (m.phase : Int), .slice A 0 c, .int .i64 m.last] := by
  obtain ⟨A, c, kd, h1, _⟩ := h.bm
  rw [hr] at h1
  exact ⟨A, c, h1⟩
section
set_option maxHeartbeats 4000000
set_option maxRecDepth 100000
/-- What a phase requires at its beginning. -/
theorem rreq_any {B : World} {X : Aud} (hx : AudOk B X) {gm gj : Nat} {m : Mo} {w : World} (hI : RfInv B X gm gj m w) (hp1 : 1 ≤ m.phase) (hp5 : m.phase ≤ 5) (hl : m.ps.length = X.ts.length) (hok : AU.OkPs X.n m.slot 1000000000 X.ts m.ps) (ha : AU.Apart m.ps) (hs : m.slot ≤ 100000) :
    Calls Try.prog 26 #[.pointer (some ⟨gm, 0, none⟩)] w fun e w' => ∃ A c kind, e = .returned (.slice A (AU.need X.ts X.n m.ps m.slot m.phase).length c) ∧ RowT w' 54 A (reC m.slot kind (AU.need X.ts X.n m.ps m.slot m.phase)) ∧ (AU.need X.ts X.n m.ps m.slot m.phase).length ≤ c ∧
      (AU.need X.ts X.n m.ps m.slot m.phase ≠ [] → (m.phase = 1 ∧ kind = 6) ∨ (m.phase = 3 ∧ kind = 2) ∨ (m.phase = 5 ∧ kind = 5)) ∧ Below w.heap.size w w' := by
  have hc : m.phase = 1 ∨ m.phase = 2 ∨ m.phase = 3 ∨ m.phase = 4 ∨ m.phase = 5 := by omega
  rcases hc with hp | hp | hp | hp | hp
  · refine (rlate_any hx hI hp hl hok hs).mono ?_
    rintro e w' ⟨v, rfl, h1, h2⟩
    obtain ⟨A, c, rfl⟩ := own_form h1
    have hn : AU.need X.ts X.n m.ps m.slot m.phase = AU.lateL X.ts m.ps m.slot := by unfold AU.need; rw [if_pos hp]
    rw [hn]
    exact ⟨A, c, 6, rfl, rowT_own h1, own_cap h1, fun _ => .inl ⟨hp, rfl⟩, h2⟩
  · refine (rnone_any hI (.inl hp)).mono ?_
    rintro e w' ⟨rfl, rfl⟩
    have hn : AU.need X.ts X.n m.ps m.slot m.phase = [] := by unfold AU.need; rw [if_neg (by omega), if_neg (by omega), if_neg (by omega)]
    rw [hn]
    exact ⟨none, 0, 0, rfl, fun h => absurd rfl h, Nat.le_refl _, fun h => absurd rfl h, Below.refl _ _⟩
  · refine (rdisp_any hx hI hp hl hok hs ha).mono ?_
    rintro e w' ⟨v, rfl, h1, h2⟩
    obtain ⟨A, c, rfl⟩ := own_form h1
    have hn : AU.need X.ts X.n m.ps m.slot m.phase = AU.dispL X.ts m.ps m.slot X.n := by unfold AU.need; rw [if_neg (by omega), if_pos hp]
    rw [hn]
    exact ⟨A, c, 2, rfl, rowT_own h1, own_cap h1, fun _ => .inr (.inl ⟨hp, rfl⟩), h2⟩
  · refine (rnone_any hI (.inr hp)).mono ?_
    rintro e w' ⟨rfl, rfl⟩
    have hn : AU.need X.ts X.n m.ps m.slot m.phase = [] := by unfold AU.need; rw [if_neg (by omega), if_neg (by omega), if_neg (by omega)]
    rw [hn]
    exact ⟨none, 0, 0, rfl, fun h => absurd rfl h, Nat.le_refl _, fun h => absurd rfl h, Below.refl _ _⟩
  · refine (rcut_any hx hI hp hl hok hs).mono ?_
    rintro e w' ⟨v, rfl, h1, h2⟩
    obtain ⟨A, c, rfl⟩ := own_form h1
    have hn : AU.need X.ts X.n m.ps m.slot m.phase = AU.cutL X.ts m.ps m.slot X.n := by unfold AU.need; rw [if_neg (by omega), if_neg (by omega), if_pos hp]
    rw [hn]
    exact ⟨A, c, 5, rfl, rowT_own h1, own_cap h1, fun _ => .inr (.inr ⟨hp, rfl⟩), h2⟩
theorem rrule_any (k : Nat) (hk : k ≤ 1000) (w : World) : Calls Try.prog 20 #[.int .i64 (k : Int)] w fun e w' => e = .returned (.int .i64 ((k + 2 : Nat) : Int)) ∧ w' = w := by
  have z1 : IntKind.i64.wrap ((k : Int) + 2) = (k : Int) + 2 := IntWalk.i64_in _ (by omega)
  go_enter Try.func20, Try.ntmps20
  go_wp2_with fail
  go_ret
  exact ⟨by simp, rfl⟩
theorem rnext_any {B : World} {X : Aud} (hx : AudOk B X) {gm gj : Nat} {m : Mo} {w : World} (hI : RfInv B X gm gj m w) (hr0 : m.req = []) (J : Nat) (hJ : J ≤ 1000000000) (hv : AU.Inv X.ts X.n J m) (hs : m.phase < 5 ∨ m.slot < 100000) :
    Calls Try.prog 21 #[.pointer (some ⟨gm, 0, none⟩)] w fun e w' => e = .returned (.tuple #[]) ∧ RfInv B X gm gj (AU.nxt X.ts X.n m) w' ∧ FxT [57] w w' := by
  obtain ⟨A, c, hbm⟩ := hI.req0 hr0
  obtain ⟨js, hal, hbj⟩ := hI.bj
  obtain ⟨a0, a1, a2, a3, a4, a6, hlm⟩ := hI.cells
  have f3 := hbm.frozen 3
  have f4 := hbm.frozen 4
  have f6 := hbm.frozen 6
  have hph1 := hv.ph.1
  have hph5 := hv.ph.2
  have hsl := hv.slot
  have z1 : IntKind.i64.wrap ((m.phase : Int) + 1) = (m.phase : Int) + 1 := IntWalk.i64_in _ (by omega)
  have z2 : IntKind.i64.wrap ((m.slot : Int) + 1) = (m.slot : Int) + 1 := IntWalk.i64_in _ (by omega)
  have HBM := Lib.hid hbm
  have HBJ := Lib.hid hbj
  have HAL := Lib.hid hal
  have HI := Lib.hid hI
  have HV := Lib.hid hv
  have HX := Lib.hid hx
  by_cases hp5 : m.phase < 5
  · have q5 : ¬ (5 : Int) < (m.phase : Int) + 1 := by omega
    have hfs : FxT [57] w (w.setCell ⟨gm, 4, none⟩ (.int .i64 ((m.phase : Int) + 1))) := (FxT.refl _ w).set hbm (by simp) 4 _
    have HFS := Lib.hid hfs
    have HI2 := Lib.hid (show RfInv B X gm gj ⟨m.ps, m.slot, m.phase + 1, [], m.last⟩ (w.setCell ⟨gm, 4, none⟩ (.int .i64 ((m.phase : Int) + 1))) from
      ⟨hI.be.setCell (p := ⟨gm, 4, none⟩) hI.lom _, hI.lom, hI.loj, ⟨js, hal, hbj.fx hfs (by decide)⟩, A, c, 0, hbm.set_ 4 _, fun h => absurd rfl h, Nat.zero_le _, fun h => absurd rfl h⟩)
    have HC := Lib.hid (rreq_any hx HI2.out (by show 1 ≤ m.phase + 1; omega) (by show m.phase + 1 ≤ 5; omega) hv.len (fun i t p a b => (hv.ok i t p a b).up (Nat.le_refl _) hJ) hv.apart hv.slot)
    clear hbm hbj hal hI hv hx hfs hr0
    go_enter Try.func21, Try.ntmps21
    go_wp2_with fail
    refine HC.out.mono ?_
    rintro e w3 ⟨A3, c3, kind, rfl, hrt, hcp, hkd, hb⟩
    have HI3 := Lib.hid (HI2.out.below hb)
    obtain ⟨Aq, cq, hbq⟩ := HI3.out.req0 rfl
    simp only at hbq
    obtain ⟨js3, hal3, hbj3⟩ := HI3.out.bj
    have HRT := Lib.hid hrt
    have HFX := Lib.hid (HFS.out.below hb)
    have y5 := hbq.cell 5
    have f5 := hbq.frozen 5
    simp only [List.getElem?_toArray, List.getElem?_cons_zero, List.getElem?_cons_succ] at y5
    have HBQ := Lib.hid hbq
    have HBJ3 := Lib.hid hbj3
    have HAL3 := Lib.hid hal3
    have HKD := Lib.hid hkd
    have HCP := Lib.hid hcp
    have hlm3 := hbq.lt
    clear hb hrt hbq HC HI2 hbj3 hal3 hkd hcp
    go_wp2_with fail
    generalize hnd : AU.need X.ts X.n m.ps m.slot (m.phase + 1) = nd at *
    have hfs2 : FxT [57] w3 (w3.setCell ⟨gm, 5, none⟩ (.slice A3 nd.length c3)) := (FxT.refl _ w3).set HBQ.out (by simp) 5 _
    have hnx : AU.nxt X.ts X.n m = ⟨m.ps, m.slot, m.phase + 1, nd, m.last⟩ := by unfold AU.nxt; rw [if_pos hp5, hnd]
    go_end0
    rw [hnx]
    exact ⟨rfl, ⟨HI3.out.be.setCell (p := ⟨gm, 5, none⟩) HI3.out.lom _, HI3.out.lom, HI3.out.loj, ⟨js3, HAL3.out, HBJ3.out.fx hfs2 (by decide)⟩, A3, c3, kind, HBQ.out.set_ 5 _, HRT.out.fx hfs2 (by decide), HCP.out, HKD.out⟩, HFX.out.trans hfs2⟩
  · have hpe : m.phase = 5 := by omega
    have q5 : (5 : Int) < (m.phase : Int) + 1 := by omega
    have hfs : FxT [57] w ((((w.setCell ⟨gm, 4, none⟩ (.int .i64 ((m.phase : Int) + 1))).setCell ⟨gm, 3, none⟩ (.int .i64 ((m.slot : Int) + 1))).setCell ⟨gm, 4, none⟩ (.int .i64 1)).setCell ⟨gm, 6, none⟩ (.int .i64 (-1))) :=
      ((((FxT.refl _ w).set hbm (by simp) 4 _).set (hbm.set_ 4 _) (by simp) 3 _).set ((hbm.set_ 4 _).set_ 3 _) (by simp) 4 _).set (((hbm.set_ 4 _).set_ 3 _).set_ 4 _) (by simp) 6 _
    have HFS := Lib.hid hfs
    have HI2 := Lib.hid (show RfInv B X gm gj ⟨m.ps, m.slot + 1, 1, [], -1⟩ ((((w.setCell ⟨gm, 4, none⟩ (.int .i64 ((m.phase : Int) + 1))).setCell ⟨gm, 3, none⟩ (.int .i64 ((m.slot : Int) + 1))).setCell ⟨gm, 4, none⟩ (.int .i64 1)).setCell ⟨gm, 6, none⟩ (.int .i64 (-1))) from
      ⟨(((hI.be.setCell (p := ⟨gm, 4, none⟩) hI.lom _).setCell (p := ⟨gm, 3, none⟩) hI.lom _).setCell (p := ⟨gm, 4, none⟩) hI.lom _).setCell (p := ⟨gm, 6, none⟩) hI.lom _, hI.lom, hI.loj, ⟨js, hal, hbj.fx hfs (by decide)⟩, A, c, 0, (((hbm.set_ 4 _).set_ 3 _).set_ 4 _).set_ 6 _, fun h => absurd rfl h, Nat.zero_le _, fun h => absurd rfl h⟩)
    have HC := Lib.hid (rreq_any hx HI2.out (by show 1 ≤ 1; omega) (by show 1 ≤ 5; omega) hv.len (fun i t p a b => (hv.ok i t p a b).up (Nat.le_succ _) hJ) hv.apart (by show m.slot + 1 ≤ 100000; omega))
    clear hbm hbj hal hI hv hx hfs hr0 hpe
    go_enter Try.func21, Try.ntmps21
    go_wp2_with fail
    refine HC.out.mono ?_
    rintro e w3 ⟨A3, c3, kind, rfl, hrt, hcp, hkd, hb⟩
    have HI3 := Lib.hid (HI2.out.below hb)
    obtain ⟨Aq, cq, hbq⟩ := HI3.out.req0 rfl
    simp only at hbq
    obtain ⟨js3, hal3, hbj3⟩ := HI3.out.bj
    have HRT := Lib.hid hrt
    have HFX := Lib.hid (HFS.out.below hb)
    have y5 := hbq.cell 5
    have f5 := hbq.frozen 5
    simp only [List.getElem?_toArray, List.getElem?_cons_zero, List.getElem?_cons_succ] at y5
    have HBQ := Lib.hid hbq
    have HBJ3 := Lib.hid hbj3
    have HAL3 := Lib.hid hal3
    have HKD := Lib.hid hkd
    have HCP := Lib.hid hcp
    have hlm3 := hbq.lt
    clear hb hrt hbq HC HI2 hbj3 hal3 hkd hcp
    go_wp2_with fail
    generalize hnd : AU.need X.ts X.n m.ps (m.slot + 1) 1 = nd at *
    have hfs2 : FxT [57] w3 (w3.setCell ⟨gm, 5, none⟩ (.slice A3 nd.length c3)) := (FxT.refl _ w3).set HBQ.out (by simp) 5 _
    have hnx : AU.nxt X.ts X.n m = ⟨m.ps, m.slot + 1, 1, nd, -1⟩ := by unfold AU.nxt; rw [if_neg hp5, hnd]
    go_end0
    rw [hnx]
    exact ⟨rfl, ⟨HI3.out.be.setCell (p := ⟨gm, 5, none⟩) HI3.out.lom _, HI3.out.lom, HI3.out.loj, ⟨js3, HAL3.out, HBJ3.out.fx hfs2 (by decide)⟩, A3, c3, kind, HBQ.out.set_ 5 _, HRT.out.fx hfs2 (by decide), HCP.out, fun h => .inl ⟨rfl, by
      rcases HKD.out h with ⟨_, h⟩ | ⟨h, _⟩ | ⟨h, _⟩
      · exact h
      · omega
      · omega⟩⟩, HFX.out.trans hfs2⟩
end
end Go.Proofs.Ytehdgdlndlamjaa
