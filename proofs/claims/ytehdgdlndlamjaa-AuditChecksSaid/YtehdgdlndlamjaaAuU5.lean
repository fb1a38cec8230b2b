/- The reference examines an event: phase 5. -/
import Derived.Test.YtehdgdlndlamjaaAuU
import Derived.Deep.CutRange
import Derived.ProofKit
namespace Go.Proofs.Ytehdgdlndlamjaa
open Go.RowKit Go.Maps Go.Sort Go.Lib
open SL (Tk Cd)
open AU (Pr Rq Ev Mo)
section
set_option maxHeartbeats 400000000
set_option maxRecDepth 100000
theorem rexamine_p5 {B : World} {X : Aud} (hx : AudOk B X) {gm gj : Nat} {m : Mo} {w : World} (hI : RfInv B X gm gj m w) (e : Ev) (J : Nat) (hJ : J ≤ 1000000000) (hv : AU.Inv X.ts X.n J m) (hph9 : ¬ AU.phaseOf e.kind = 2 ∧ ¬ AU.phaseOf e.kind = 4) :
    Calls Try.prog 19 #[.pointer (some ⟨gm, 0, none⟩), .agg (reV e)] w fun r w' => r = .returned (.int .i64 ((AU.exam X.ts X.n m e).1 : Int)) ∧ ∃ m', RfInv B X gm gj m' w' ∧ ((AU.exam X.ts X.n m e).1 = 0 → m' = (AU.exam X.ts X.n m e).2) := by
  have hnot : ∀ (x : Bool) (w : World), (Op.unary .not (.bool x)).run Try.prog w = .ok (.bool (!x)) w := fun _ _ => rfl
  have hg0 := (Gr.refl w).alloc (.cells (reV e) 54)
  have HI1 := Lib.hid (hI.below hg0.1)
  have HK1 := Lib.hid (show Blk (w.alloc (.cells (reV e) 54)) w.heap.size 54 (reV e) from Blk.new w _ _)
  have HX := Lib.hid hx
  have HV := Lib.hid hv
  have HPH := Lib.hid (fun W => rphase_any e.kind W)
  have hex := AU.exam_eq X.ts X.n m e
  have hb1 : AU.bad1 m e = (decide (e.slot < m.slot) || decide (100000 < e.slot) || (decide (e.slot = m.slot) && !decide (AU.phaseOf e.kind = 0) && decide (AU.phaseOf e.kind < m.phase))) := rfl
  have hb2 : AU.bad2 X.ts.length e = (decide (AU.phaseOf e.kind = 0) || decide (e.task < 0) || decide ((X.ts.length : Int) ≤ e.task)) := rfl
  have hple := AU.phaseOf_le e.kind
  have h40 := hx.len
  generalize AU.exam X.ts X.n m e = R at *
  obtain ⟨ph, hph⟩ : ∃ n, n = AU.phaseOf e.kind := ⟨_, rfl⟩
  rw [← hph] at hb1 hb2 hex hple HPH hph9
  have HPX := Lib.hid hph9
  clear hph9
  have HP := Lib.hid hph
  rw [hb1, hb2] at hex
  have HEX := Lib.hid hex
  rw [show reV e = #[.int .i64 e.slot, .int .i64 e.core, .int .i64 e.task, .int .i64 e.job, .int .u8 (e.kind : Int), .int .i64 e.value] from rfl] at *
  have hsl := hv.slot
  have hp1 := hv.ph.1
  have hp5 := hv.ph.2
  clear hI hg0 hx hv hph hb1 hb2 hex
  go_enter Try.func19, Try.ntmps19
  obtain ⟨x0, x1, x2, x3, x4, x5⟩ := HK1.out.six
  go_wp2_with fail
  refine (HPH.out _).mono ?_
  rintro r w2 ⟨rfl, hw2⟩
  rw [← hw2] at HI1 HK1 x0 x1 x2 x3 x4 x5
  clear hw2
  obtain ⟨a0, -, -, a3, a4, -, -⟩ := HI1.out.cells
  go_upto_region 2 with fail
  by_cases h1 : e.slot < (m.slot : Int)
  · have d1 : decide (e.slot < (m.slot : Int)) = true := decide_eq_true h1
    have HR := Lib.hid (show R = (1, m) by rw [HEX.out, d1]; rfl)
    clear h1 HEX
    go_quiet (fail)
    go_wp2_with fail
    go_ret
    rw [HR.out]
    exact ⟨rfl, m, HI1.out.below ((Gr.refl w2).drewN nq).1, fun h => absurd h (by simp)⟩
  have d1 : decide (e.slot < (m.slot : Int)) = false := decide_eq_false h1
  by_cases h2 : (100000 : Int) < e.slot
  · have d2 : decide ((100000 : Int) < e.slot) = true := decide_eq_true h2
    have HR := Lib.hid (show R = (1, m) by rw [HEX.out, d1, d2]; rfl)
    clear h2 HEX
    go_quiet (fail)
    go_wp2_with fail
    go_ret
    rw [HR.out]
    exact ⟨rfl, m, HI1.out.below ((Gr.refl w2).drewN nq).1, fun h => absurd h (by simp)⟩
  have d2 : decide ((100000 : Int) < e.slot) = false := decide_eq_false h2
  by_cases h4 : ph = 0
  · have f4 : ((ph : Int) == 0) = true := by simp [h4]
    have HR := Lib.hid (show R = (2, m) by rw [HEX.out, d1, d2, decide_eq_true h4]; simp)
    clear h1 h2 h4 HEX
    go_quiet (fail)
    go_wp2_with fail
    go_ret
    rw [HR.out]
    exact ⟨rfl, m, HI1.out.below ((Gr.refl w2).drewN nq).1, fun h => absurd h (by simp)⟩
  have f4 : ((ph : Int) == 0) = false := by simp; omega
  have HEX2 := Lib.hid (show R = if (decide (e.slot = (m.slot : Int)) && decide (ph < m.phase)) = true then (1, m) else if (decide (e.task < 0) || decide ((X.ts.length : Int) ≤ e.task)) = true then (2, m) else _ from by
    rw [HEX.out, d1, d2, decide_eq_false h4]
    simp only [Bool.false_or, Bool.not_false, Bool.and_true]
    rfl)
  clear HEX
  have HH := Lib.hid (show ¬ e.slot < (m.slot : Int) ∧ ¬ (100000 : Int) < e.slot ∧ ¬ ph = 0 from ⟨h1, h2, h4⟩)
  clear h1 h2 h4
  go_quiet (fail)
  have HI2 := Lib.hid (HI1.out.below ((Gr.refl w2).drewN nq).1)
  have HK2 := Lib.hid (HK1.out.drewN nq)
  clear x0 x1 x2 x3 x4 x5 a0 a3 a4 HI1 HK1
  generalize w2.drewN nq = w3 at *
  obtain ⟨x0, x1, x2, x3, x4, x5⟩ := HK2.out.six
  obtain ⟨a0, -, -, a3, a4, -, -⟩ := HI2.out.cells
  go_upto_region 6 with fail
  go_cut [38] from 24 to 38 (fun c wx => c = .bool (decide (e.slot = (m.slot : Int)) && decide (ph < m.phase)) ∧ Gr w3 wx)
  case first =>
    by_cases h3 : e.slot = (m.slot : Int)
    · have f3 : (e.slot == (m.slot : Int)) = true := by simp [h3]
      have d3 : decide (e.slot = (m.slot : Int)) = true := decide_eq_true h3
      by_cases h5 : ph < m.phase
      · have d5 : decide (ph < m.phase) = true := decide_eq_true h5
        have e5 : decide ((ph : Int) < (m.phase : Int)) = true := decide_eq_true (by omega)
        have HBD := Lib.hid (show true = (decide (e.slot = (m.slot : Int)) && decide (ph < m.phase)) by rw [d3, d5]; rfl)
        clear h3 h5 d3 HEX2
        go_quiet (fail)
        go_wp2_with fail
        go_meet
        exact ⟨congrArg Value.bool HBD.out, (Gr.refl _).drewN _⟩
      · have d5 : decide (ph < m.phase) = false := decide_eq_false h5
        have e5 : decide ((ph : Int) < (m.phase : Int)) = false := decide_eq_false (by omega)
        have HBD := Lib.hid (show false = (decide (e.slot = (m.slot : Int)) && decide (ph < m.phase)) by rw [d3, d5]; rfl)
        clear h3 h5 d3 HEX2
        go_quiet (fail)
        go_wp2_with fail
        go_meet
        exact ⟨congrArg Value.bool HBD.out, (Gr.refl _).drewN _⟩
    · have f3 : (e.slot == (m.slot : Int)) = false := by simp [h3]
      have HBD := Lib.hid (show false = (decide (e.slot = (m.slot : Int)) && decide (ph < m.phase)) by rw [decide_eq_false h3]; rfl)
      clear h3 HEX2
      go_quiet (fail)
      go_wp2_with fail
      go_meet
      exact ⟨congrArg Value.bool HBD.out, (Gr.refl _).drewN _⟩
  case rest =>
    obtain ⟨rfl, hg4⟩ := hcut
    have HI4 := Lib.hid (HI2.out.below hg4.1)
    have HK4 := Lib.hid (HK2.out.below hg4.1)
    clear hg4 x0 x1 x2 x3 x4 x5 a0 a3 a4 HI2 HK2
    generalize wc = w4 at *
    have h36 : (decide (e.slot = (m.slot : Int)) && decide (ph < m.phase)) = false → e.slot = (m.slot : Int) → m.phase ≤ ph := fun h h' => by
      rcases Nat.lt_or_ge ph m.phase with h5 | h5
      · rw [decide_eq_true h', decide_eq_true h5] at h; simp at h
      · exact h5
    generalize (decide (e.slot = (m.slot : Int)) && decide (ph < m.phase)) = b6 at *
    cases b6 with
    | true =>
      have HR := Lib.hid (show R = (1, m) by rw [HEX2.out]; rfl)
      clear HEX2 h36
      go_wp2_with fail
      go_ret
      rw [HR.out]
      exact ⟨rfl, m, HI4.out, fun h => absurd h (by simp)⟩
    | false =>
      have h36' := h36 rfl
      obtain ⟨x0, x1, x2, x3, x4, x5⟩ := HK4.out.six
      obtain ⟨a0, -, -, a3, a4, -, -⟩ := HI4.out.cells
      clear h36
      go_upto_region 8 with fail
      by_cases h7 : e.task < 0
      · have d7 : decide (e.task < 0) = true := decide_eq_true h7
        have HR := Lib.hid (show R = (2, m) by rw [HEX2.out, d7]; rfl)
        clear h7 HEX2 h36'
        go_quiet (fail)
        go_wp2_with fail
        go_ret
        rw [HR.out]
        exact ⟨rfl, m, HI4.out.below ((Gr.refl w4).drewN nq).1, fun h => absurd h (by simp)⟩
      have d7 : decide (e.task < 0) = false := decide_eq_false h7
      by_cases h8 : (X.ts.length : Int) ≤ e.task
      · have d8 : decide ((X.ts.length : Int) ≤ e.task) = true := decide_eq_true h8
        have HR := Lib.hid (show R = (2, m) by rw [HEX2.out, d7, d8]; rfl)
        clear h7 h8 HEX2 h36'
        go_quiet (fail)
        go_wp2_with fail
        go_ret
        rw [HR.out]
        exact ⟨rfl, m, HI4.out.below ((Gr.refl w4).drewN nq).1, fun h => absurd h (by simp)⟩
      have d8 : decide ((X.ts.length : Int) ≤ e.task) = false := decide_eq_false h8
      obtain ⟨hh1, hh2, hh4⟩ := HH.out
      obtain ⟨sn, hsn⟩ : ∃ n : Nat, e.slot = (n : Int) := ⟨e.slot.toNat, by omega⟩
      obtain ⟨k, hkn⟩ : ∃ n : Nat, e.task = (n : Int) := ⟨e.task.toNat, by omega⟩
      have hsn2 : e.slot.toNat = sn := by omega
      have hR := HEX2.out
      rw [d7, d8, hsn2] at hR
      simp only [Bool.or_self, Bool.false_eq_true, if_false] at hR
      have hvA := AU.inv_adv (phase := ph) (show sn ≤ 100000 by omega) AU.fuel m HV.out
      have heA := AU.adv_end (ts := X.ts) (n := X.n) (slot := sn) (phase := ph) ⟨by omega, hple⟩ AU.fuel m HV.out.ph (by
        unfold AU.mm
        by_cases h : e.slot = (m.slot : Int)
        · have := h36' h; omega
        · omega) (by unfold AU.mm AU.fuel; omega)
      have hrA := AU.adv_req (ts := X.ts) (n := X.n) (slot := sn) (phase := ph) AU.fuel m
      have hfu : sn * 5 + 6 < AU.mm m + AU.fuel := by unfold AU.fuel; omega
      have hsl2 : m.slot ≤ sn := by omega
      have hpl2 : m.slot = sn → m.phase ≤ ph := fun h => h36' (by omega)
      have hs1 : sn ≤ 100000 := by omega
      have hnk : k < X.ts.length := by omega
      generalize hRA : AU.adv X.ts X.n sn ph AU.fuel m = RA at *
      have HR := Lib.hid hR
      have HVA := Lib.hid hvA
      have HEA := Lib.hid heA
      have HRQ := Lib.hid hrA
      have HD0 := Lib.hid (fun nq => (show RAdvRel B X gm gj J sn ph RA w.heap.size #[.int .i64 e.slot, .int .i64 e.core, .int .i64 e.task, .int .i64 e.job, .int .u8 (e.kind : Int), .int .i64 e.value] (w4.drewN nq) from ⟨m, _, HI4.out.below ((Gr.refl w4).drewN nq).1, HV.out, hRA, hfu, hsl2, hpl2, HK4.out.drewN nq⟩))
      have HSN := Lib.hid hsn
      have HKN := Lib.hid hkn
      clear h7 h8 HEX2 h36' hh1 hh2 hR hvA heA hrA hfu hsl2 hpl2 hRA hsn2 hkn HV
      go_quiet (fail)
      have HD1 := Lib.hid (HD0.out nq)
      clear HD0 x0 x1 x2 x3 x4 x5 a0 a3 a4 HI4 HK4 d7 d8
      generalize w4.drewN nq = w5 at *
      go_wp2_with fail
      go_loopw [] (fun wr => RAdvRel B X gm gj J sn ph RA w.heap.size #[.int .i64 e.slot, .int .i64 e.core, .int .i64 e.task, .int .i64 e.job, .int .u8 (e.kind : Int), .int .i64 e.value] wr) (fun wr => msr gm wr)
      case atStart => exact HD1.out
      case round =>
        clear HD1
        obtain ⟨m1, kk, hI, hv, hr, hfu, hsl, hpl, hev⟩ := hrel
        obtain ⟨x0, x1, x2, x3, x4, x5⟩ := hev.six
        obtain ⟨-, -, -, a3, a4, -, -⟩ := hI.cells
        by_cases hc1 : m1.slot < sn
        · have hcond : m1.slot < sn ∨ m1.phase < ph := .inl hc1
          have d1 : decide ((m1.slot : Int) < e.slot) = true := decide_eq_true (by have := HSN.out; omega)
          have hk1 : 1 ≤ kk := by have := hv.ph.2; have := hfu; unfold AU.mm at this; omega
          obtain ⟨kk, rfl⟩ : ∃ j, kk = j + 1 := ⟨kk - 1, by omega⟩
          rw [AU.adv, if_pos hcond] at hr
          have HV1 := Lib.hid hv
          cases hq : m1.req with
          | cons r l =>
            rw [if_pos (by rw [hq]; simp)] at hr
            have a5 : ∃ A c, wr.cell? ⟨gm, 5, none⟩ = some (.slice A (l.length + 1) c) := by
              obtain ⟨A, c, kd, hbm, _⟩ := hI.bm
              rw [hq] at hbm
              exact ⟨A, c, hbm.cell 5⟩
            obtain ⟨A, c, a5⟩ := a5
            have HI5 := Lib.hid hI
            have HRU := Lib.hid (fun W => rrule_any m1.phase (by have := hv.ph.2; omega) W)
            have HRR := Lib.hid (show R = (m1.phase + 2, m1) by rw [HR.out, ← hr]; simp)
            clear hI hv hfu hev hq hcond hr hpl
            go_wp2_with fail
            go_quiet (fail)
            have HI6 := Lib.hid (HI5.out.below ((Gr.refl wr).drewN nq).1)
            have a5' : (wr.drewN nq).cell? ⟨gm, 5, none⟩ = some (.slice A (l.length + 1) c) := a5
            obtain ⟨-, -, -, -, a4', -, -⟩ := HI6.out.cells
            clear x0 x1 x2 x3 x4 x5 a3 a4 a5 HI5
            generalize wr.drewN nq = w6 at *
            go_wp2_with fail
            refine (HRU.out _).mono ?_
            rintro r w7 ⟨rfl, hw7⟩
            go_wp2_with fail
            go_ret
            rw [HRR.out]
            exact ⟨rfl, m1, HI6.out, fun h => absurd h (by simp)⟩
          | nil =>
            rw [if_neg (by rw [hq]; simp), if_pos (by have := hv.ph.2; omega)] at hr
            have a5 : ∃ A c, wr.cell? ⟨gm, 5, none⟩ = some (.slice A 0 c) := by
              obtain ⟨A, c, hbm⟩ := hI.req0 hq
              exact ⟨A, c, hbm.cell 5⟩
            obtain ⟨A, c, a5⟩ := a5
            have HI5 := Lib.hid hI
            have HQ := Lib.hid hq
            have HEV := Lib.hid hev
            have HRR := Lib.hid hr
            have HFU := Lib.hid hfu
            have HSP := Lib.hid (show (AU.nxt X.ts X.n m1).slot ≤ sn ∧ ((AU.nxt X.ts X.n m1).slot = sn → (AU.nxt X.ts X.n m1).phase ≤ ph) by
              unfold AU.nxt
              have := hv.ph.2
              split <;> constructor <;> simp only <;> omega)
            have hnn : m1.phase < 5 ∨ m1.slot < 100000 := by have := hv.ph.2; omega
            clear hI hv hfu hev hq hcond hr hpl
            go_wp2_with fail
            go_quiet (fail)
            have HI6 := Lib.hid (HI5.out.below ((Gr.refl wr).drewN nq).1)
            have HE6 := Lib.hid (HEV.out.drewN nq)
            have a5' : (wr.drewN nq).cell? ⟨gm, 5, none⟩ = some (.slice A 0 c) := a5
            have hlm6 := HI6.out.cells.2.2.2.2.2.2
            have HM1 := Lib.hid (rmsr_eq HI5.out)
            clear x0 x1 x2 x3 x4 x5 a3 a4 a5 HI5 HEV
            generalize wr.drewN nq = w6 at *
            have HNX := Lib.hid (rnext_any HX.out HI6.out HQ.out J hJ HV1.out hnn)
            go_wp2_with fail
            refine HNX.out.mono ?_
            rintro r w7 ⟨rfl, h7, hf7⟩
            have H7 := Lib.hid h7
            have HE7 := Lib.hid (HE6.out.fx hf7 (by decide))
            clear h7 hf7 HNX a5' hlm6
            go_wp2_with fail
            have hmm := AU.nxt_mm X.ts X.n m1 HV1.out.ph.2
            have hm2 := rmsr_eq H7.out
            have hm1 := HM1.out
            refine ⟨⟨_, _, H7.out, AU.inv_nxt HV1.out hnn, HRR.out, by rw [hmm]; have := HFU.out; omega, HSP.out.1, HSP.out.2, HE7.out⟩, ?_⟩
            rw [hm1, hm2, hmm]
            have : AU.mm m1 ≤ 500005 := by unfold AU.mm; have := HV1.out.slot; have := HV1.out.ph.2; omega
            omega
        · have d1 : decide ((m1.slot : Int) < e.slot) = false := decide_eq_false (by have := HSN.out; omega)
          by_cases hc2 : m1.phase < ph
          · have hcond : m1.slot < sn ∨ m1.phase < ph := .inr hc2
            have d2 : decide ((m1.phase : Int) < (ph : Int)) = true := decide_eq_true (by omega)
            have d3 : decide (m1.phase < ph) = true := decide_eq_true hc2
            have hk1 : 1 ≤ kk := by have := hv.ph.2; have := hfu; unfold AU.mm at this; omega
            obtain ⟨kk, rfl⟩ : ∃ j, kk = j + 1 := ⟨kk - 1, by omega⟩
            rw [AU.adv, if_pos hcond] at hr
            have HV1 := Lib.hid hv
            cases hq : m1.req with
            | cons r l =>
              rw [if_pos (by rw [hq]; simp)] at hr
              have a5 : ∃ A c, wr.cell? ⟨gm, 5, none⟩ = some (.slice A (l.length + 1) c) := by
                obtain ⟨A, c, kd, hbm, _⟩ := hI.bm
                rw [hq] at hbm
                exact ⟨A, c, hbm.cell 5⟩
              obtain ⟨A, c, a5⟩ := a5
              have HI5 := Lib.hid hI
              have HRU := Lib.hid (fun W => rrule_any m1.phase (by have := hv.ph.2; omega) W)
              have HRR := Lib.hid (show R = (m1.phase + 2, m1) by rw [HR.out, ← hr]; simp)
              clear hI hv hfu hev hq hcond hr hpl
              go_wp2_with fail
              go_quiet (fail)
              have HI6 := Lib.hid (HI5.out.below ((Gr.refl wr).drewN nq).1)
              have a5' : (wr.drewN nq).cell? ⟨gm, 5, none⟩ = some (.slice A (l.length + 1) c) := a5
              obtain ⟨-, -, -, -, a4', -, -⟩ := HI6.out.cells
              clear x0 x1 x2 x3 x4 x5 a3 a4 a5 HI5
              generalize wr.drewN nq = w6 at *
              go_wp2_with fail
              refine (HRU.out _).mono ?_
              rintro r w7 ⟨rfl, hw7⟩
              go_wp2_with fail
              go_ret
              rw [HRR.out]
              exact ⟨rfl, m1, HI6.out, fun h => absurd h (by simp)⟩
            | nil =>
              rw [if_neg (by rw [hq]; simp), if_pos (by have := hv.ph.2; omega)] at hr
              have a5 : ∃ A c, wr.cell? ⟨gm, 5, none⟩ = some (.slice A 0 c) := by
                obtain ⟨A, c, hbm⟩ := hI.req0 hq
                exact ⟨A, c, hbm.cell 5⟩
              obtain ⟨A, c, a5⟩ := a5
              have HI5 := Lib.hid hI
              have HQ := Lib.hid hq
              have HEV := Lib.hid hev
              have HRR := Lib.hid hr
              have HFU := Lib.hid hfu
              have HSP := Lib.hid (show (AU.nxt X.ts X.n m1).slot ≤ sn ∧ ((AU.nxt X.ts X.n m1).slot = sn → (AU.nxt X.ts X.n m1).phase ≤ ph) by
                unfold AU.nxt
                have := hv.ph.2
                split <;> constructor <;> simp only <;> omega)
              have hnn : m1.phase < 5 ∨ m1.slot < 100000 := by have := hv.ph.2; omega
              clear hI hv hfu hev hq hcond hr hpl
              go_wp2_with fail
              go_quiet (fail)
              have HI6 := Lib.hid (HI5.out.below ((Gr.refl wr).drewN nq).1)
              have HE6 := Lib.hid (HEV.out.drewN nq)
              have a5' : (wr.drewN nq).cell? ⟨gm, 5, none⟩ = some (.slice A 0 c) := a5
              have hlm6 := HI6.out.cells.2.2.2.2.2.2
              have HM1 := Lib.hid (rmsr_eq HI5.out)
              clear x0 x1 x2 x3 x4 x5 a3 a4 a5 HI5 HEV
              generalize wr.drewN nq = w6 at *
              have HNX := Lib.hid (rnext_any HX.out HI6.out HQ.out J hJ HV1.out hnn)
              go_wp2_with fail
              refine HNX.out.mono ?_
              rintro r w7 ⟨rfl, h7, hf7⟩
              have H7 := Lib.hid h7
              have HE7 := Lib.hid (HE6.out.fx hf7 (by decide))
              clear h7 hf7 HNX a5' hlm6
              go_wp2_with fail
              have hmm := AU.nxt_mm X.ts X.n m1 HV1.out.ph.2
              have hm2 := rmsr_eq H7.out
              have hm1 := HM1.out
              refine ⟨⟨_, _, H7.out, AU.inv_nxt HV1.out hnn, HRR.out, by rw [hmm]; have := HFU.out; omega, HSP.out.1, HSP.out.2, HE7.out⟩, ?_⟩
              rw [hm1, hm2, hmm]
              have : AU.mm m1 ≤ 500005 := by unfold AU.mm; have := HV1.out.slot; have := HV1.out.ph.2; omega
              omega
          · have d2 : decide ((m1.phase : Int) < (ph : Int)) = false := decide_eq_false (by omega)
            have d3 : decide (m1.phase < ph) = false := decide_eq_false hc2
            have hRA : RA = (0, m1) := by
              cases kk with
              | zero => exact hr.symm
              | succ j => rw [AU.adv, if_neg (by omega)] at hr; exact hr.symm
            have hR2 : R = if AU.admits X.ts ph m1 e = true then (0, AU.follow m1 e) else (ph + 2, m1) := by
              have h := HR.out
              rw [hRA] at h
              simpa using h
            have hE := HEA.out (by rw [hRA])
            rw [hRA] at hE
            obtain ⟨hE1, hE2⟩ := hE
            simp only at hE1 hE2
            have hse : e.slot = (m1.slot : Int) := by have := HSN.out; omega
            obtain ⟨p, hp⟩ : ∃ p, m1.ps[k]? = some p := ⟨_, List.getElem?_eq_getElem (by rw [hv.len]; exact hnk)⟩
            obtain ⟨t, ht⟩ : ∃ t, X.ts[k]? = some t := ⟨_, List.getElem?_eq_getElem hnk⟩
            obtain ⟨o1, o2, o3, o4, o5, o6, o7⟩ := hv.ok k t p ht hp
            obtain ⟨v1, v2, v3⟩ := SL.okTk_iff.1 (HX.out.ok t (List.mem_of_getElem? ht))
            have hs1' := hv.slot
            have htn : e.task.toNat = k := by have := HKN.out; omega
            have HI5 := Lib.hid hI
            have HEV := Lib.hid hev
            have HR2 := Lib.hid hR2
            have HPP := Lib.hid hp
            have HTT := Lib.hid ht
            have HSE := Lib.hid hse
            have HTN := Lib.hid htn
            have HO6 := Lib.hid o6
            have HO7 := Lib.hid o7
            have HPH2 := Lib.hid hE2
            rw [HKN.out] at x2
            have q0 : (k : Int) < (X.ts.length : Int) := by omega
            obtain ⟨-, -, a2, -, -, -, -⟩ := hI.cells
            clear hI hev hR2 hp ht hse htn o6 o7 hr hfu hsl hpl hv hRA hE1 hE2 HRQ HR HEA HVA
            go_wp2_with fail
            go_quiet (fail)
            have HI6 := Lib.hid (HI5.out.below ((Gr.refl wr).drewN nq).1)
            have HE6 := Lib.hid (HEV.out.drewN nq)
            clear x0 x1 x2 x3 x4 x5 a2 a3 a4 HI5 HEV
            generalize wr.drewN nq = w6 at *
            obtain ⟨x0, x1, x2, x3, x4, x5⟩ := HE6.out.six
            obtain ⟨-, -, a2, -, -, a6, -⟩ := HI6.out.cells
            rw [HKN.out] at x2
            clear d1 d2 d3 hc1 hc2
            go_wp2_with fail
            go_quiet (fail)
            have HI7 := Lib.hid (HI6.out.below ((Gr.refl w6).drewN nq).1)
            have HE7 := Lib.hid (HE6.out.drewN nq)
            clear x0 x1 x2 x3 x4 x5 a2 a6 HI6 HE6
            generalize w6.drewN nq = w7 at *
            obtain ⟨js, hal, hbj⟩ := HI7.out.bj
            obtain ⟨x, hxk, hxp, hsame⟩ := hal.at HPP.out
            obtain ⟨c0, c1, c2, c3, c4, c5⟩ := jr_cells hbj hxk
            subst hxp
            obtain ⟨x0, x1, x2, x3, x4, x5⟩ := HE7.out.six
            obtain ⟨tb, to_, hA, a0, b0, b1, b2⟩ := HI7.out.task HX.out HTT.out
            clear hA
            obtain ⟨-, -, a2, a3, a4, a6, -⟩ := HI7.out.cells
            rw [HKN.out] at x2
            rw [HSE.out] at x0
            have z0 : IntKind.i64.wrap ((m1.slot : Int) - x.p.rel) = (m1.slot : Int) - x.p.rel := IntWalk.i64_in _ (by omega)
            have hpc : ph = 2 ∨ ph = 4 ∨ (ph = 1 ∨ ph = 3 ∨ ph = 5) := by omega
            rcases hpc with hp2 | hp4 | hpo
            · exact absurd HPX.out (by omega)
            · exact absurd HPX.out (by omega)
            · have dp2 : ((ph : Int) == 2) = false := by simp; omega
              have dp4 : ((ph : Int) == 4) = false := by simp; omega
              have HR3 := Lib.hid (show R = if AU.nextB m1 e = true then (0, AU.follow m1 e) else (ph + 2, m1) by
                have hadm : AU.admits X.ts ph m1 e = AU.nextB m1 e := by
                  unfold AU.admits
                  rw [if_neg (by omega), if_neg (by omega)]
                rw [HR2.out, hadm])
              have HPO := Lib.hid hpo
              clear hpo HR2
              go_wp2_with fail
              go_cut [103] from 88 to 103 (fun c wx => c = .bool (!AU.nextB m1 e) ∧ Gr w7 wx)
              case first =>
                cases hq : m1.req with
                | nil =>
                  obtain ⟨A9, c9, hb9⟩ := HI7.out.req0 hq
                  have a5 := hb9.cell 5
                  simp only [List.getElem?_toArray, List.getElem?_cons_zero, List.getElem?_cons_succ] at a5
                  have HBD := Lib.hid (show true = !AU.nextB m1 e by unfold AU.nextB; rw [hq]; rfl)
                  clear hb9 hq
                  go_quiet (fail)
                  go_wp2_with fail
                  go_meet
                  exact ⟨congrArg Value.bool HBD.out, (Gr.refl _).drewN _⟩
                | cons r l =>
                  obtain ⟨A9, c9, kd9, hb9, hr9, hc9, hk9⟩ := HI7.out.bm
                  rw [hq] at hb9 hr9 hc9 hk9
                  have a5 := hb9.cell 5
                  simp only [List.getElem?_toArray, List.getElem?_cons_zero, List.getElem?_cons_succ, List.length_cons] at a5
                  obtain ⟨b, o, rfl, hbl, r0, r1, r2, r3, r4, r5⟩ := re_at hr9
                  have hkd : kd9 = e.kind := by
                    have h1 := hk9 (by simp)
                    have h2 := HPO.out
                    have h3 := AU.kind_of135 HP.out
                    have h4 := HPH2.out
                    omega
                  rw [hkd] at r4
                  have q1 : ¬ ((l.length + 1 : Nat) : Int) = 0 := by omega
                  have q2 : (((l.length + 1 : Nat) : Int) == 0) = false := by simp; omega
                  have HREL := Lib.hid (show AU.nextB m1 e = (decide (r.core = e.core) && decide ((r.task : Int) = (k : Int)) && decide (r.job = e.job) && decide (r.value = e.value)) by
                    unfold AU.nextB
                    rw [hq]
                    simp only
                    rw [HKN.out]
                    rw [Bool.eq_iff_iff]
                    simp only [Bool.and_eq_true, decide_eq_true_eq]
                    constructor
                    · rintro ⟨⟨⟨a1, a2⟩, a3⟩, a4⟩
                      exact ⟨⟨⟨a3.symm, a1.symm⟩, a2.symm⟩, a4.symm⟩
                    · rintro ⟨⟨⟨a1, a2⟩, a3⟩, a4⟩
                      exact ⟨⟨⟨a2.symm, a3.symm⟩, a1.symm⟩, a4.symm⟩)
                  clear hb9 hr9 hk9 hq hkd HI7 hc9 hal hbj hsame hxk c0 c1 c2 c3 c4 c5 b0 b1 b2 a2 a3 a4 a6 a0
                  by_cases g1 : r.core = e.core
                  · skip
                    have dg1 : (r.core == e.core) = true := by simp [g1]
                    have mg1 : (r.core != e.core) = false := by simp [g1]
                    by_cases g2 : (r.task : Int) = (k : Int)
                    · skip
                      have dg2 : ((r.task : Int) == (k : Int)) = true := by simp [g2]
                      have mg2 : ((r.task : Int) != (k : Int)) = false := by simp [g2]
                      by_cases g3 : r.job = e.job
                      · skip
                        have dg3 : (r.job == e.job) = true := by simp [g3]
                        have mg3 : (r.job != e.job) = false := by simp [g3]
                        by_cases g4 : r.value = e.value
                        · skip
                          have dg4 : (r.value == e.value) = true := by simp [g4]
                          have mg4 : (r.value != e.value) = false := by simp [g4]
                          have HBD := Lib.hid (show false = !AU.nextB m1 e by rw [HREL.out]; simp [g1, g2, g3, g4])
                          clear HREL g1 g2 g3 g4
                          as_aux_lemma =>
                            go_quiet (fail)
                            go_wp2_with fail
                            go_meet
                            exact ⟨congrArg Value.bool HBD.out, (Gr.refl _).drewN _⟩
                        · skip
                          have dg4 : (r.value == e.value) = false := by simp [g4]
                          have mg4 : (r.value != e.value) = true := by simp [g4]
                          have HBD := Lib.hid (show true = !AU.nextB m1 e by rw [HREL.out]; simp [g1, g2, g3, g4])
                          clear HREL g1 g2 g3 g4
                          as_aux_lemma =>
                            go_quiet (fail)
                            go_wp2_with fail
                            go_meet
                            exact ⟨congrArg Value.bool HBD.out, (Gr.refl _).drewN _⟩
                      · skip
                        have dg3 : (r.job == e.job) = false := by simp [g3]
                        have mg3 : (r.job != e.job) = true := by simp [g3]
                        have HBD := Lib.hid (show true = !AU.nextB m1 e by rw [HREL.out]; simp [g1, g2, g3])
                        clear HREL g1 g2 g3
                        as_aux_lemma =>
                          go_quiet (fail)
                          go_wp2_with fail
                          go_meet
                          exact ⟨congrArg Value.bool HBD.out, (Gr.refl _).drewN _⟩
                    · skip
                      have dg2 : ((r.task : Int) == (k : Int)) = false := by simp [g2]
                      have mg2 : ((r.task : Int) != (k : Int)) = true := by simp [g2]
                      have HBD := Lib.hid (show true = !AU.nextB m1 e by rw [HREL.out]; simp [g1, g2])
                      clear HREL g1 g2
                      as_aux_lemma =>
                        go_quiet (fail)
                        go_wp2_with fail
                        go_meet
                        exact ⟨congrArg Value.bool HBD.out, (Gr.refl _).drewN _⟩
                  · skip
                    have dg1 : (r.core == e.core) = false := by simp [g1]
                    have mg1 : (r.core != e.core) = true := by simp [g1]
                    have HBD := Lib.hid (show true = !AU.nextB m1 e by rw [HREL.out]; simp [g1])
                    clear HREL g1
                    as_aux_lemma =>
                      go_quiet (fail)
                      go_wp2_with fail
                      go_meet
                      exact ⟨congrArg Value.bool HBD.out, (Gr.refl _).drewN _⟩
              case rest =>
                obtain ⟨rfl, hg8⟩ := hcut
                have HI8 := Lib.hid (HI7.out.below hg8.1)
                have HBJ8 := Lib.hid (hbj.below hg8.1)
                have HAL := Lib.hid hal
                have HSM := Lib.hid hsame
                have HE8 := Lib.hid (HE7.out.below hg8.1)
                clear hg8 hal hbj HI7 HE7 c0 c1 c2 c3 c4 c5 x0 x1 x2 x3 x4 x5 a0 a2 a3 a4 a6 b0 b1 b2 hsame
                generalize wc = w8 at *
                have HNX := Lib.hid (show AU.nextB m1 e = true → ∃ r l, m1.req = r :: l from fun h => by
                  unfold AU.nextB at h
                  cases hq : m1.req with
                  | nil => rw [hq] at h; cases h
                  | cons r l => exact ⟨r, l, rfl⟩)
                generalize AU.nextB m1 e = bb at *
                cases bb with
                | false =>
                  have HRU := Lib.hid (fun W => rrule_any ph (by omega) W)
                  go_wp2_with fail
                  refine (HRU.out _).mono ?_
                  rintro r w9 ⟨rfl, hw9⟩
                  go_wp2_with fail
                  go_ret
                  rw [HR3.out]
                  exact ⟨rfl, m1, HI8.out, fun h => absurd h (by simp)⟩
                | true =>
                  obtain ⟨r, l, hq⟩ : ∃ r l, m1.req = r :: l := by first | exact HNX.out trivial | exact HNX.out rfl
                  obtain ⟨A9, c9, kd9, hb9, hr9, hc9, hk9⟩ := HI8.out.bm
                  have HK9 := Lib.hid (fun (h : l ≠ []) => hk9 (by rw [hq]; simp))
                  rw [hq] at hb9 hr9 hc9
                  have a5 := hb9.cell 5
                  have f5 := hb9.frozen 5
                  simp only [List.getElem?_toArray, List.getElem?_cons_zero, List.getElem?_cons_succ, List.length_cons] at a5 hc9
                  obtain ⟨b, o, rfl, hbl, r0, r1, r2, r3, r4, r5⟩ := re_at hr9
                  have HRL := Lib.hid (re_tail hr9)
                  have HB9 := Lib.hid hb9
                  have HQ := Lib.hid hq
                  have hlm8 := hb9.lt
                  have hb9x := hb9
                  clear hb9 hr9 hk9 hq r0 r1 r2 r3 r4 r5
                  have hne : gm ≠ gj := blk_ne hb9x HBJ8.out (by decide)
                  have hne2 : gj ≠ gm := fun h => hne h.symm
                  by_cases hone : c9 = 1
                  · have hl0 : l = [] := List.length_eq_zero_iff.1 (by omega)
                    subst hone hl0
                    simp only [List.length_nil] at a5 hc9
                    by_cases hp3 : ph = 3
                    · subst hp3
                      rw [show ((3 : Nat) : Int) = 3 from rfl] at *
                      have HS9 := Lib.hid (show RfJ B X gm gj js ⟨m1.ps, m1.slot, m1.phase, [], m1.last⟩ (w8.setCell ⟨gm, 5, none⟩ (.slice (some ⟨b, o, none⟩) 0 0)) from (HI8.out.toJ HBJ8.out).setReq [] (some ⟨b, o, none⟩) 0 0 (fun h => absurd rfl h) (Nat.le_refl _) (fun h => absurd rfl h))
                      have HE9 := Lib.hid (HE8.out.fx ((FxT.refl [57] w8).set HB9.out (by simp) 5 (.slice (some ⟨b, o, none⟩) 0 0)) (by decide))
                      go_wp2_with fail
                      generalize w8.setCell ⟨gm, 5, none⟩ (.slice (some ⟨b, o, none⟩) 0 0) = w9 at *
                      obtain ⟨c0, c1, c2, c3, c4, c5⟩ := jr_cells HS9.out.bj hxk
                      obtain ⟨x0, x1, x2, x3, x4, x5⟩ := HE9.out.six
                      rw [HSE.out] at x0
                      have g2 := HS9.out.bj.frozen (k * 6 + 2)
                      have g3 := HS9.out.bj.frozen (k * 6 + 3)
                      have g4 := HS9.out.bj.frozen (k * 6 + 4)
                      have hlj := HS9.out.bj.lt
                      have z6 : IntKind.i64.wrap (x.p.ran + 1) = x.p.ran + 1 := IntWalk.i64_in _ (by omega)
                      have hnj : w.heap.size ≠ gj := blk_ne HE9.out HS9.out.bj (by decide)
                      clear HI8 HBJ8 HE8 HB9
                      go_region
                      all_goals
                        go_wp2_with fail
                        go_ret
                        rw [HR3.out]
                        refine ⟨rfl, AU.follow m1 e, ?_, fun _ => rfl⟩
                        have hkk : e.kind = 2 := by
                          have h1 := AU.kind_of135 HP.out
                          omega
                        have hfo : AU.follow m1 e = ⟨m1.ps.set k ⟨x.p.jobs, x.p.live, x.p.rel, x.p.ran + 1, m1.slot, e.core⟩, m1.slot, m1.phase, [], m1.last⟩ := by
                          unfold AU.follow
                          rw [if_neg (by omega), if_pos hkk, HTN.out, AU.modify_set _ HPP.out, HQ.out]; rfl
                        rw [hfo]
                        have hj3 := ((HS9.out.set (x' := ⟨⟨x.p.jobs, x.p.live, x.p.rel, x.p.ran + 1, x.p.last, x.p.core⟩, x.la, x.co⟩) (i := 2) (v := .int .i64 (x.p.ran + 1)) hxk (by omega) rfl).set (x' := ⟨⟨x.p.jobs, x.p.live, x.p.rel, x.p.ran + 1, m1.slot, x.p.core⟩, m1.slot, x.co⟩) (i := 3) (v := .int .i64 (m1.slot : Int)) (jset_at hxk) (by omega) rfl).set (x' := ⟨⟨x.p.jobs, x.p.live, x.p.rel, x.p.ran + 1, m1.slot, e.core⟩, m1.slot, e.core⟩) (i := 4) (v := .int .i64 e.core) (jset_at (jset_at hxk)) (by omega) rfl
                        simp only [List.set_set] at hj3
                        have hal := HAL.out.set k (x' := ⟨⟨x.p.jobs, x.p.live, x.p.rel, x.p.ran + 1, m1.slot, e.core⟩, m1.slot, e.core⟩) (fun _ => ⟨rfl, rfl⟩)
                        first
                        | exact hj3.inv hal
                        | exact (hj3.inv hal).below (below_drewN (Below.refl _ _) 1)
                    · skip
                      have HS9 := Lib.hid (show RfJ B X gm gj js ⟨m1.ps, m1.slot, m1.phase, [], m1.last⟩ (w8.setCell ⟨gm, 5, none⟩ (.slice (some ⟨b, o, none⟩) 0 0)) from (HI8.out.toJ HBJ8.out).setReq [] (some ⟨b, o, none⟩) 0 0 (fun h => absurd rfl h) (Nat.le_refl _) (fun h => absurd rfl h))
                      have dp3 : ((ph : Int) == 3) = false := by simp; omega
                      obtain ⟨c0, c1, c2, c3, c4, c5⟩ := jr_cells HBJ8.out hxk
                      have g5 := HBJ8.out.frozen (k * 6 + 5)
                      have hlj := HBJ8.out.lt
                      go_wp2_with fail
                      go_ret
                      rw [HR3.out]
                      refine ⟨rfl, AU.follow m1 e, ?_, fun _ => rfl⟩
                      have hkk : e.kind = 6 ∨ e.kind = 5 := by
                        have h1 := AU.kind_of135 HP.out
                        have h2 := HPO.out
                        omega
                      have hfo : AU.follow m1 e = ⟨m1.ps.set k ⟨x.p.jobs, false, x.p.rel, x.p.ran, x.p.last, x.p.core⟩, m1.slot, m1.phase, [], m1.last⟩ := by
                        unfold AU.follow
                        rw [if_neg (by omega), if_neg (by omega), if_pos hkk, HTN.out, AU.modify_set _ HPP.out, HQ.out]; rfl
                      rw [hfo]
                      exact (HS9.out.set (x' := ⟨⟨x.p.jobs, false, x.p.rel, x.p.ran, x.p.last, x.p.core⟩, x.la, x.co⟩) (i := 5) (v := .bool false) hxk (by omega) rfl).inv (HAL.out.set k HSM.out)
                  · have hone2 : 1 < c9 := by omega
                    by_cases hp3 : ph = 3
                    · subst hp3
                      rw [show ((3 : Nat) : Int) = 3 from rfl] at *
                      have HS9 := Lib.hid (show RfJ B X gm gj js ⟨m1.ps, m1.slot, m1.phase, l, m1.last⟩ (w8.setCell ⟨gm, 5, none⟩ (.slice (some ⟨b, o + 6, none⟩) l.length (c9 - 1))) from (HI8.out.toJ HBJ8.out).setReq l (some ⟨b, o + 6, none⟩) (c9 - 1) kd9 HRL.out (by omega) HK9.out)
                      have HE9 := Lib.hid (HE8.out.fx ((FxT.refl [57] w8).set HB9.out (by simp) 5 (.slice (some ⟨b, o + 6, none⟩) l.length (c9 - 1))) (by decide))
                      go_wp2_with fail
                      generalize w8.setCell ⟨gm, 5, none⟩ (.slice (some ⟨b, o + 6, none⟩) l.length (c9 - 1)) = w9 at *
                      obtain ⟨c0, c1, c2, c3, c4, c5⟩ := jr_cells HS9.out.bj hxk
                      obtain ⟨x0, x1, x2, x3, x4, x5⟩ := HE9.out.six
                      rw [HSE.out] at x0
                      have g2 := HS9.out.bj.frozen (k * 6 + 2)
                      have g3 := HS9.out.bj.frozen (k * 6 + 3)
                      have g4 := HS9.out.bj.frozen (k * 6 + 4)
                      have hlj := HS9.out.bj.lt
                      have z6 : IntKind.i64.wrap (x.p.ran + 1) = x.p.ran + 1 := IntWalk.i64_in _ (by omega)
                      have hnj : w.heap.size ≠ gj := blk_ne HE9.out HS9.out.bj (by decide)
                      clear HI8 HBJ8 HE8 HB9
                      go_region
                      all_goals
                        go_wp2_with fail
                        go_ret
                        rw [HR3.out]
                        refine ⟨rfl, AU.follow m1 e, ?_, fun _ => rfl⟩
                        have hkk : e.kind = 2 := by
                          have h1 := AU.kind_of135 HP.out
                          omega
                        have hfo : AU.follow m1 e = ⟨m1.ps.set k ⟨x.p.jobs, x.p.live, x.p.rel, x.p.ran + 1, m1.slot, e.core⟩, m1.slot, m1.phase, l, m1.last⟩ := by
                          unfold AU.follow
                          rw [if_neg (by omega), if_pos hkk, HTN.out, AU.modify_set _ HPP.out, HQ.out]; rfl
                        rw [hfo]
                        have hj3 := ((HS9.out.set (x' := ⟨⟨x.p.jobs, x.p.live, x.p.rel, x.p.ran + 1, x.p.last, x.p.core⟩, x.la, x.co⟩) (i := 2) (v := .int .i64 (x.p.ran + 1)) hxk (by omega) rfl).set (x' := ⟨⟨x.p.jobs, x.p.live, x.p.rel, x.p.ran + 1, m1.slot, x.p.core⟩, m1.slot, x.co⟩) (i := 3) (v := .int .i64 (m1.slot : Int)) (jset_at hxk) (by omega) rfl).set (x' := ⟨⟨x.p.jobs, x.p.live, x.p.rel, x.p.ran + 1, m1.slot, e.core⟩, m1.slot, e.core⟩) (i := 4) (v := .int .i64 e.core) (jset_at (jset_at hxk)) (by omega) rfl
                        simp only [List.set_set] at hj3
                        have hal := HAL.out.set k (x' := ⟨⟨x.p.jobs, x.p.live, x.p.rel, x.p.ran + 1, m1.slot, e.core⟩, m1.slot, e.core⟩) (fun _ => ⟨rfl, rfl⟩)
                        first
                        | exact hj3.inv hal
                        | exact (hj3.inv hal).below (below_drewN (Below.refl _ _) 1)
                    · skip
                      have HS9 := Lib.hid (show RfJ B X gm gj js ⟨m1.ps, m1.slot, m1.phase, l, m1.last⟩ (w8.setCell ⟨gm, 5, none⟩ (.slice (some ⟨b, o + 6, none⟩) l.length (c9 - 1))) from (HI8.out.toJ HBJ8.out).setReq l (some ⟨b, o + 6, none⟩) (c9 - 1) kd9 HRL.out (by omega) HK9.out)
                      have dp3 : ((ph : Int) == 3) = false := by simp; omega
                      obtain ⟨c0, c1, c2, c3, c4, c5⟩ := jr_cells HBJ8.out hxk
                      have g5 := HBJ8.out.frozen (k * 6 + 5)
                      have hlj := HBJ8.out.lt
                      go_wp2_with fail
                      go_ret
                      rw [HR3.out]
                      refine ⟨rfl, AU.follow m1 e, ?_, fun _ => rfl⟩
                      have hkk : e.kind = 6 ∨ e.kind = 5 := by
                        have h1 := AU.kind_of135 HP.out
                        have h2 := HPO.out
                        omega
                      have hfo : AU.follow m1 e = ⟨m1.ps.set k ⟨x.p.jobs, false, x.p.rel, x.p.ran, x.p.last, x.p.core⟩, m1.slot, m1.phase, l, m1.last⟩ := by
                        unfold AU.follow
                        rw [if_neg (by omega), if_neg (by omega), if_pos hkk, HTN.out, AU.modify_set _ HPP.out, HQ.out]; rfl
                      rw [hfo]
                      exact (HS9.out.set (x' := ⟨⟨x.p.jobs, false, x.p.rel, x.p.ran, x.p.last, x.p.core⟩, x.la, x.co⟩) (i := 5) (v := .bool false) hxk (by omega) rfl).inv (HAL.out.set k HSM.out)
end
end Go.Proofs.Ytehdgdlndlamjaa
