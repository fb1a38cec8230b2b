/- The reference examines an event: phase 4. -/
import Derived.Test.YtehdgdlndlamjaaAuU
import Derived.Deep.CutRange
import Derived.ProofKit
namespace Go.Proofs.Ytehdgdlndlamjaa
open Go.RowKit Go.Maps Go.Sort Go.Lib
open SL (Tk Cd)
open AU (Pr Rq Ev Mo)
section
set_option maxHeartbeats 400000000
set_option maxRecDepth 100000
theorem rexamine_p4 {B : World} {X : Aud} (hx : AudOk B X) {gm gj : Nat} {m : Mo} {w : World} (hI : RfInv B X gm gj m w) (e : Ev) (J : Nat) (hJ : J ≤ 1000000000) (hv : AU.Inv X.ts X.n J m) (hph9 : AU.phaseOf e.kind = 4) :
    Calls Try.prog 19 #[.pointer (some ⟨gm, 0, none⟩), .agg (reV e)] w fun r w' => r = .returned (.int .i64 ((AU.exam X.ts X.n m e).1 : Int)) ∧ ∃ m', RfInv B X gm gj m' w' ∧ ((AU.exam X.ts X.n m e).1 = 0 → m' = (AU.exam X.ts X.n m e).2) := by
  have hnot : ∀ (x : Bool) (w : World), (Op.unary .not (.bool x)).run Try.prog w = .ok (.bool (!x)) w := fun _ _ => rfl
  have hg0 := (Gr.refl w).alloc (.cells (reV e) 54)
  have HI1 := Lib.hid (hI.below hg0.1)
  have HK1 := Lib.hid (show Blk (w.alloc (.cells (reV e) 54)) w.heap.size 54 (reV e) from Blk.new w _ _)
  have HX := Lib.hid hx
  have HV := Lib.hid hv
  have HPH := Lib.hid (fun W => rphase_any e.kind W)
  have hex := AU.exam_eq X.ts X.n m e
  have hb1 : AU.bad1 m e = (decide (e.slot < m.slot) || decide (100000 < e.slot) || (decide (e.slot = m.slot) && !decide (AU.phaseOf e.kind = 0) && decide (AU.phaseOf e.kind < m.phase))) := rfl
  have hb2 : AU.bad2 X.ts.length e = (decide (AU.phaseOf e.kind = 0) || decide (e.task < 0) || decide ((X.ts.length : Int) ≤ e.task)) := rfl
  have hple := AU.phaseOf_le e.kind
  have h40 := hx.len
  generalize AU.exam X.ts X.n m e = R at *
  obtain ⟨ph, hph⟩ : ∃ n, n = AU.phaseOf e.kind := ⟨_, rfl⟩
  rw [← hph] at hb1 hb2 hex hple HPH hph9
  have HPX := Lib.hid hph9
  clear hph9
  have HP := Lib.hid hph
  rw [hb1, hb2] at hex
  have HEX := Lib.hid hex
  rw [show reV e = #[.int .i64 e.slot, .int .i64 e.core, .int .i64 e.task, .int .i64 e.job, .int .u8 (e.kind : Int), .int .i64 e.value] from rfl] at *
  have hsl := hv.slot
  have hp1 := hv.ph.1
  have hp5 := hv.ph.2
  clear hI hg0 hx hv hph hb1 hb2 hex
  go_enter Try.func19, Try.ntmps19
  obtain ⟨x0, x1, x2, x3, x4, x5⟩ := HK1.out.six
  go_wp2_with fail
  refine (HPH.out _).mono ?_
  rintro r w2 ⟨rfl, hw2⟩
  rw [← hw2] at HI1 HK1 x0 x1 x2 x3 x4 x5
  clear hw2
  obtain ⟨a0, -, -, a3, a4, -, -⟩ := HI1.out.cells
  go_upto_region 2 with fail
  by_cases h1 : e.slot < (m.slot : Int)
  · have d1 : decide (e.slot < (m.slot : Int)) = true := decide_eq_true h1
    have HR := Lib.hid (show R = (1, m) by rw [HEX.out, d1]; rfl)
    clear h1 HEX
    go_quiet (fail)
    go_wp2_with fail
    go_ret
    rw [HR.out]
    exact ⟨rfl, m, HI1.out.below ((Gr.refl w2).drewN nq).1, fun h => absurd h (by simp)⟩
  have d1 : decide (e.slot < (m.slot : Int)) = false := decide_eq_false h1
  by_cases h2 : (100000 : Int) < e.slot
  · have d2 : decide ((100000 : Int) < e.slot) = true := decide_eq_true h2
    have HR := Lib.hid (show R = (1, m) by rw [HEX.out, d1, d2]; rfl)
    clear h2 HEX
    go_quiet (fail)
    go_wp2_with fail
    go_ret
    rw [HR.out]
    exact ⟨rfl, m, HI1.out.below ((Gr.refl w2).drewN nq).1, fun h => absurd h (by simp)⟩
  have d2 : decide ((100000 : Int) < e.slot) = false := decide_eq_false h2
  by_cases h4 : ph = 0
  · have f4 : ((ph : Int) == 0) = true := by simp [h4]
    have HR := Lib.hid (show R = (2, m) by rw [HEX.out, d1, d2, decide_eq_true h4]; simp)
    clear h1 h2 h4 HEX
    go_quiet (fail)
    go_wp2_with fail
    go_ret
    rw [HR.out]
    exact ⟨rfl, m, HI1.out.below ((Gr.refl w2).drewN nq).1, fun h => absurd h (by simp)⟩
  have f4 : ((ph : Int) == 0) = false := by simp; omega
  have HEX2 := Lib.hid (show R = if (decide (e.slot = (m.slot : Int)) && decide (ph < m.phase)) = true then (1, m) else if (decide (e.task < 0) || decide ((X.ts.length : Int) ≤ e.task)) = true then (2, m) else _ from by
    rw [HEX.out, d1, d2, decide_eq_false h4]
    simp only [Bool.false_or, Bool.not_false, Bool.and_true]
    rfl)
  clear HEX
  have HH := Lib.hid (show ¬ e.slot < (m.slot : Int) ∧ ¬ (100000 : Int) < e.slot ∧ ¬ ph = 0 from ⟨h1, h2, h4⟩)
  clear h1 h2 h4
  go_quiet (fail)
  have HI2 := Lib.hid (HI1.out.below ((Gr.refl w2).drewN nq).1)
  have HK2 := Lib.hid (HK1.out.drewN nq)
  clear x0 x1 x2 x3 x4 x5 a0 a3 a4 HI1 HK1
  generalize w2.drewN nq = w3 at *
  obtain ⟨x0, x1, x2, x3, x4, x5⟩ := HK2.out.six
  obtain ⟨a0, -, -, a3, a4, -, -⟩ := HI2.out.cells
  go_upto_region 6 with fail
  go_cut [38] from 24 to 38 (fun c wx => c = .bool (decide (e.slot = (m.slot : Int)) && decide (ph < m.phase)) ∧ Gr w3 wx)
  case first =>
    by_cases h3 : e.slot = (m.slot : Int)
    · have f3 : (e.slot == (m.slot : Int)) = true := by simp [h3]
      have d3 : decide (e.slot = (m.slot : Int)) = true := decide_eq_true h3
      by_cases h5 : ph < m.phase
      · have d5 : decide (ph < m.phase) = true := decide_eq_true h5
        have e5 : decide ((ph : Int) < (m.phase : Int)) = true := decide_eq_true (by omega)
        have HBD := Lib.hid (show true = (decide (e.slot = (m.slot : Int)) && decide (ph < m.phase)) by rw [d3, d5]; rfl)
        clear h3 h5 d3 HEX2
        go_quiet (fail)
        go_wp2_with fail
        go_meet
        exact ⟨congrArg Value.bool HBD.out, (Gr.refl _).drewN _⟩
      · have d5 : decide (ph < m.phase) = false := decide_eq_false h5
        have e5 : decide ((ph : Int) < (m.phase : Int)) = false := decide_eq_false (by omega)
        have HBD := Lib.hid (show false = (decide (e.slot = (m.slot : Int)) && decide (ph < m.phase)) by rw [d3, d5]; rfl)
        clear h3 h5 d3 HEX2
        go_quiet (fail)
        go_wp2_with fail
        go_meet
        exact ⟨congrArg Value.bool HBD.out, (Gr.refl _).drewN _⟩
    · have f3 : (e.slot == (m.slot : Int)) = false := by simp [h3]
      have HBD := Lib.hid (show false = (decide (e.slot = (m.slot : Int)) && decide (ph < m.phase)) by rw [decide_eq_false h3]; rfl)
      clear h3 HEX2
      go_quiet (fail)
      go_wp2_with fail
      go_meet
      exact ⟨congrArg Value.bool HBD.out, (Gr.refl _).drewN _⟩
  case rest =>
    obtain ⟨rfl, hg4⟩ := hcut
    have HI4 := Lib.hid (HI2.out.below hg4.1)
    have HK4 := Lib.hid (HK2.out.below hg4.1)
    clear hg4 x0 x1 x2 x3 x4 x5 a0 a3 a4 HI2 HK2
    generalize wc = w4 at *
    have h36 : (decide (e.slot = (m.slot : Int)) && decide (ph < m.phase)) = false → e.slot = (m.slot : Int) → m.phase ≤ ph := fun h h' => by
      rcases Nat.lt_or_ge ph m.phase with h5 | h5
      · rw [decide_eq_true h', decide_eq_true h5] at h; simp at h
      · exact h5
    generalize (decide (e.slot = (m.slot : Int)) && decide (ph < m.phase)) = b6 at *
    cases b6 with
    | true =>
      have HR := Lib.hid (show R = (1, m) by rw [HEX2.out]; rfl)
      clear HEX2 h36
      go_wp2_with fail
      go_ret
      rw [HR.out]
      exact ⟨rfl, m, HI4.out, fun h => absurd h (by simp)⟩
    | false =>
      have h36' := h36 rfl
      obtain ⟨x0, x1, x2, x3, x4, x5⟩ := HK4.out.six
      obtain ⟨a0, -, -, a3, a4, -, -⟩ := HI4.out.cells
      clear h36
      go_upto_region 8 with fail
      by_cases h7 : e.task < 0
      · have d7 : decide (e.task < 0) = true := decide_eq_true h7
        have HR := Lib.hid (show R = (2, m) by rw [HEX2.out, d7]; rfl)
        clear h7 HEX2 h36'
        go_quiet (fail)
        go_wp2_with fail
        go_ret
        rw [HR.out]
        exact ⟨rfl, m, HI4.out.below ((Gr.refl w4).drewN nq).1, fun h => absurd h (by simp)⟩
      have d7 : decide (e.task < 0) = false := decide_eq_false h7
      by_cases h8 : (X.ts.length : Int) ≤ e.task
      · have d8 : decide ((X.ts.length : Int) ≤ e.task) = true := decide_eq_true h8
        have HR := Lib.hid (show R = (2, m) by rw [HEX2.out, d7, d8]; rfl)
        clear h7 h8 HEX2 h36'
        go_quiet (fail)
        go_wp2_with fail
        go_ret
        rw [HR.out]
        exact ⟨rfl, m, HI4.out.below ((Gr.refl w4).drewN nq).1, fun h => absurd h (by simp)⟩
      have d8 : decide ((X.ts.length : Int) ≤ e.task) = false := decide_eq_false h8
      obtain ⟨hh1, hh2, hh4⟩ := HH.out
      obtain ⟨sn, hsn⟩ : ∃ n : Nat, e.slot = (n : Int) := ⟨e.slot.toNat, by omega⟩
      obtain ⟨k, hkn⟩ : ∃ n : Nat, e.task = (n : Int) := ⟨e.task.toNat, by omega⟩
      have hsn2 : e.slot.toNat = sn := by omega
      have hR := HEX2.out
      rw [d7, d8, hsn2] at hR
      simp only [Bool.or_self, Bool.false_eq_true, if_false] at hR
      have hvA := AU.inv_adv (phase := ph) (show sn ≤ 100000 by omega) AU.fuel m HV.out
      have heA := AU.adv_end (ts := X.ts) (n := X.n) (slot := sn) (phase := ph) ⟨by omega, hple⟩ AU.fuel m HV.out.ph (by
        unfold AU.mm
        by_cases h : e.slot = (m.slot : Int)
        · have := h36' h; omega
        · omega) (by unfold AU.mm AU.fuel; omega)
      have hrA := AU.adv_req (ts := X.ts) (n := X.n) (slot := sn) (phase := ph) AU.fuel m
      have hfu : sn * 5 + 6 < AU.mm m + AU.fuel := by unfold AU.fuel; omega
      have hsl2 : m.slot ≤ sn := by omega
      have hpl2 : m.slot = sn → m.phase ≤ ph := fun h => h36' (by omega)
      have hs1 : sn ≤ 100000 := by omega
      have hnk : k < X.ts.length := by omega
      generalize hRA : AU.adv X.ts X.n sn ph AU.fuel m = RA at *
      have HR := Lib.hid hR
      have HVA := Lib.hid hvA
      have HEA := Lib.hid heA
      have HRQ := Lib.hid hrA
      have HD0 := Lib.hid (fun nq => (show RAdvRel B X gm gj J sn ph RA w.heap.size #[.int .i64 e.slot, .int .i64 e.core, .int .i64 e.task, .int .i64 e.job, .int .u8 (e.kind : Int), .int .i64 e.value] (w4.drewN nq) from ⟨m, _, HI4.out.below ((Gr.refl w4).drewN nq).1, HV.out, hRA, hfu, hsl2, hpl2, HK4.out.drewN nq⟩))
      have HSN := Lib.hid hsn
      have HKN := Lib.hid hkn
      clear h7 h8 HEX2 h36' hh1 hh2 hR hvA heA hrA hfu hsl2 hpl2 hRA hsn2 hkn HV
      go_quiet (fail)
      have HD1 := Lib.hid (HD0.out nq)
      clear HD0 x0 x1 x2 x3 x4 x5 a0 a3 a4 HI4 HK4 d7 d8
      generalize w4.drewN nq = w5 at *
      go_wp2_with fail
      go_loopw [] (fun wr => RAdvRel B X gm gj J sn ph RA w.heap.size #[.int .i64 e.slot, .int .i64 e.core, .int .i64 e.task, .int .i64 e.job, .int .u8 (e.kind : Int), .int .i64 e.value] wr) (fun wr => msr gm wr)
      case atStart => exact HD1.out
      case round =>
        clear HD1
        obtain ⟨m1, kk, hI, hv, hr, hfu, hsl, hpl, hev⟩ := hrel
        obtain ⟨x0, x1, x2, x3, x4, x5⟩ := hev.six
        obtain ⟨-, -, -, a3, a4, -, -⟩ := hI.cells
        by_cases hc1 : m1.slot < sn
        · have hcond : m1.slot < sn ∨ m1.phase < ph := .inl hc1
          have d1 : decide ((m1.slot : Int) < e.slot) = true := decide_eq_true (by have := HSN.out; omega)
          have hk1 : 1 ≤ kk := by have := hv.ph.2; have := hfu; unfold AU.mm at this; omega
          obtain ⟨kk, rfl⟩ : ∃ j, kk = j + 1 := ⟨kk - 1, by omega⟩
          rw [AU.adv, if_pos hcond] at hr
          have HV1 := Lib.hid hv
          cases hq : m1.req with
          | cons r l =>
            rw [if_pos (by rw [hq]; simp)] at hr
            have a5 : ∃ A c, wr.cell? ⟨gm, 5, none⟩ = some (.slice A (l.length + 1) c) := by
              obtain ⟨A, c, kd, hbm, _⟩ := hI.bm
              rw [hq] at hbm
              exact ⟨A, c, hbm.cell 5⟩
            obtain ⟨A, c, a5⟩ := a5
            have HI5 := Lib.hid hI
            have HRU := Lib.hid (fun W => rrule_any m1.phase (by have := hv.ph.2; omega) W)
            have HRR := Lib.hid (show R = (m1.phase + 2, m1) by rw [HR.out, ← hr]; simp)
            clear hI hv hfu hev hq hcond hr hpl
            go_wp2_with fail
            go_quiet (fail)
            have HI6 := Lib.hid (HI5.out.below ((Gr.refl wr).drewN nq).1)
            have a5' : (wr.drewN nq).cell? ⟨gm, 5, none⟩ = some (.slice A (l.length + 1) c) := a5
            obtain ⟨-, -, -, -, a4', -, -⟩ := HI6.out.cells
            clear x0 x1 x2 x3 x4 x5 a3 a4 a5 HI5
            generalize wr.drewN nq = w6 at *
            go_wp2_with fail
            refine (HRU.out _).mono ?_
            rintro r w7 ⟨rfl, hw7⟩
            go_wp2_with fail
            go_ret
            rw [HRR.out]
            exact ⟨rfl, m1, HI6.out, fun h => absurd h (by simp)⟩
          | nil =>
            rw [if_neg (by rw [hq]; simp), if_pos (by have := hv.ph.2; omega)] at hr
            have a5 : ∃ A c, wr.cell? ⟨gm, 5, none⟩ = some (.slice A 0 c) := by
              obtain ⟨A, c, hbm⟩ := hI.req0 hq
              exact ⟨A, c, hbm.cell 5⟩
            obtain ⟨A, c, a5⟩ := a5
            have HI5 := Lib.hid hI
            have HQ := Lib.hid hq
            have HEV := Lib.hid hev
            have HRR := Lib.hid hr
            have HFU := Lib.hid hfu
            have HSP := Lib.hid (show (AU.nxt X.ts X.n m1).slot ≤ sn ∧ ((AU.nxt X.ts X.n m1).slot = sn → (AU.nxt X.ts X.n m1).phase ≤ ph) by
              unfold AU.nxt
              have := hv.ph.2
              split <;> constructor <;> simp only <;> omega)
            have hnn : m1.phase < 5 ∨ m1.slot < 100000 := by have := hv.ph.2; omega
            clear hI hv hfu hev hq hcond hr hpl
            go_wp2_with fail
            go_quiet (fail)
            have HI6 := Lib.hid (HI5.out.below ((Gr.refl wr).drewN nq).1)
            have HE6 := Lib.hid (HEV.out.drewN nq)
            have a5' : (wr.drewN nq).cell? ⟨gm, 5, none⟩ = some (.slice A 0 c) := a5
            have hlm6 := HI6.out.cells.2.2.2.2.2.2
            have HM1 := Lib.hid (rmsr_eq HI5.out)
            clear x0 x1 x2 x3 x4 x5 a3 a4 a5 HI5 HEV
            generalize wr.drewN nq = w6 at *
            have HNX := Lib.hid (rnext_any HX.out HI6.out HQ.out J hJ HV1.out hnn)
            go_wp2_with fail
            refine HNX.out.mono ?_
            rintro r w7 ⟨rfl, h7, hf7⟩
            have H7 := Lib.hid h7
            have HE7 := Lib.hid (HE6.out.fx hf7 (by decide))
            clear h7 hf7 HNX a5' hlm6
            go_wp2_with fail
            have hmm := AU.nxt_mm X.ts X.n m1 HV1.out.ph.2
            have hm2 := rmsr_eq H7.out
            have hm1 := HM1.out
            refine ⟨⟨_, _, H7.out, AU.inv_nxt HV1.out hnn, HRR.out, by rw [hmm]; have := HFU.out; omega, HSP.out.1, HSP.out.2, HE7.out⟩, ?_⟩
            rw [hm1, hm2, hmm]
            have : AU.mm m1 ≤ 500005 := by unfold AU.mm; have := HV1.out.slot; have := HV1.out.ph.2; omega
            omega
        · have d1 : decide ((m1.slot : Int) < e.slot) = false := decide_eq_false (by have := HSN.out; omega)
          by_cases hc2 : m1.phase < ph
          · have hcond : m1.slot < sn ∨ m1.phase < ph := .inr hc2
            have d2 : decide ((m1.phase : Int) < (ph : Int)) = true := decide_eq_true (by omega)
            have d3 : decide (m1.phase < ph) = true := decide_eq_true hc2
            have hk1 : 1 ≤ kk := by have := hv.ph.2; have := hfu; unfold AU.mm at this; omega
            obtain ⟨kk, rfl⟩ : ∃ j, kk = j + 1 := ⟨kk - 1, by omega⟩
            rw [AU.adv, if_pos hcond] at hr
            have HV1 := Lib.hid hv
            cases hq : m1.req with
            | cons r l =>
              rw [if_pos (by rw [hq]; simp)] at hr
              have a5 : ∃ A c, wr.cell? ⟨gm, 5, none⟩ = some (.slice A (l.length + 1) c) := by
                obtain ⟨A, c, kd, hbm, _⟩ := hI.bm
                rw [hq] at hbm
                exact ⟨A, c, hbm.cell 5⟩
              obtain ⟨A, c, a5⟩ := a5
              have HI5 := Lib.hid hI
              have HRU := Lib.hid (fun W => rrule_any m1.phase (by have := hv.ph.2; omega) W)
              have HRR := Lib.hid (show R = (m1.phase + 2, m1) by rw [HR.out, ← hr]; simp)
              clear hI hv hfu hev hq hcond hr hpl
              go_wp2_with fail
              go_quiet (fail)
              have HI6 := Lib.hid (HI5.out.below ((Gr.refl wr).drewN nq).1)
              have a5' : (wr.drewN nq).cell? ⟨gm, 5, none⟩ = some (.slice A (l.length + 1) c) := a5
              obtain ⟨-, -, -, -, a4', -, -⟩ := HI6.out.cells
              clear x0 x1 x2 x3 x4 x5 a3 a4 a5 HI5
              generalize wr.drewN nq = w6 at *
              go_wp2_with fail
              refine (HRU.out _).mono ?_
              rintro r w7 ⟨rfl, hw7⟩
              go_wp2_with fail
              go_ret
              rw [HRR.out]
              exact ⟨rfl, m1, HI6.out, fun h => absurd h (by simp)⟩
            | nil =>
              rw [if_neg (by rw [hq]; simp), if_pos (by have := hv.ph.2; omega)] at hr
              have a5 : ∃ A c, wr.cell? ⟨gm, 5, none⟩ = some (.slice A 0 c) := by
                obtain ⟨A, c, hbm⟩ := hI.req0 hq
                exact ⟨A, c, hbm.cell 5⟩
              obtain ⟨A, c, a5⟩ := a5
              have HI5 := Lib.hid hI
              have HQ := Lib.hid hq
              have HEV := Lib.hid hev
              have HRR := Lib.hid hr
              have HFU := Lib.hid hfu
              have HSP := Lib.hid (show (AU.nxt X.ts X.n m1).slot ≤ sn ∧ ((AU.nxt X.ts X.n m1).slot = sn → (AU.nxt X.ts X.n m1).phase ≤ ph) by
                unfold AU.nxt
                have := hv.ph.2
                split <;> constructor <;> simp only <;> omega)
              have hnn : m1.phase < 5 ∨ m1.slot < 100000 := by have := hv.ph.2; omega
              clear hI hv hfu hev hq hcond hr hpl
              go_wp2_with fail
              go_quiet (fail)
              have HI6 := Lib.hid (HI5.out.below ((Gr.refl wr).drewN nq).1)
              have HE6 := Lib.hid (HEV.out.drewN nq)
              have a5' : (wr.drewN nq).cell? ⟨gm, 5, none⟩ = some (.slice A 0 c) := a5
              have hlm6 := HI6.out.cells.2.2.2.2.2.2
              have HM1 := Lib.hid (rmsr_eq HI5.out)
              clear x0 x1 x2 x3 x4 x5 a3 a4 a5 HI5 HEV
              generalize wr.drewN nq = w6 at *
              have HNX := Lib.hid (rnext_any HX.out HI6.out HQ.out J hJ HV1.out hnn)
              go_wp2_with fail
              refine HNX.out.mono ?_
              rintro r w7 ⟨rfl, h7, hf7⟩
              have H7 := Lib.hid h7
              have HE7 := Lib.hid (HE6.out.fx hf7 (by decide))
              clear h7 hf7 HNX a5' hlm6
              go_wp2_with fail
              have hmm := AU.nxt_mm X.ts X.n m1 HV1.out.ph.2
              have hm2 := rmsr_eq H7.out
              have hm1 := HM1.out
              refine ⟨⟨_, _, H7.out, AU.inv_nxt HV1.out hnn, HRR.out, by rw [hmm]; have := HFU.out; omega, HSP.out.1, HSP.out.2, HE7.out⟩, ?_⟩
              rw [hm1, hm2, hmm]
              have : AU.mm m1 ≤ 500005 := by unfold AU.mm; have := HV1.out.slot; have := HV1.out.ph.2; omega
              omega
          · have d2 : decide ((m1.phase : Int) < (ph : Int)) = false := decide_eq_false (by omega)
            have d3 : decide (m1.phase < ph) = false := decide_eq_false hc2
            have hRA : RA = (0, m1) := by
              cases kk with
              | zero => exact hr.symm
              | succ j => rw [AU.adv, if_neg (by omega)] at hr; exact hr.symm
            have hR2 : R = if AU.admits X.ts ph m1 e = true then (0, AU.follow m1 e) else (ph + 2, m1) := by
              have h := HR.out
              rw [hRA] at h
              simpa using h
            have hE := HEA.out (by rw [hRA])
            rw [hRA] at hE
            obtain ⟨hE1, hE2⟩ := hE
            simp only at hE1 hE2
            have hse : e.slot = (m1.slot : Int) := by have := HSN.out; omega
            obtain ⟨p, hp⟩ : ∃ p, m1.ps[k]? = some p := ⟨_, List.getElem?_eq_getElem (by rw [hv.len]; exact hnk)⟩
            obtain ⟨t, ht⟩ : ∃ t, X.ts[k]? = some t := ⟨_, List.getElem?_eq_getElem hnk⟩
            obtain ⟨o1, o2, o3, o4, o5, o6, o7⟩ := hv.ok k t p ht hp
            obtain ⟨v1, v2, v3⟩ := SL.okTk_iff.1 (HX.out.ok t (List.mem_of_getElem? ht))
            have hs1' := hv.slot
            have htn : e.task.toNat = k := by have := HKN.out; omega
            have HI5 := Lib.hid hI
            have HEV := Lib.hid hev
            have HR2 := Lib.hid hR2
            have HPP := Lib.hid hp
            have HTT := Lib.hid ht
            have HSE := Lib.hid hse
            have HTN := Lib.hid htn
            have HO6 := Lib.hid o6
            have HO7 := Lib.hid o7
            have HPH2 := Lib.hid hE2
            rw [HKN.out] at x2
            have q0 : (k : Int) < (X.ts.length : Int) := by omega
            obtain ⟨-, -, a2, -, -, -, -⟩ := hI.cells
            clear hI hev hR2 hp ht hse htn o6 o7 hr hfu hsl hpl hv hRA hE1 hE2 HRQ HR HEA HVA
            go_wp2_with fail
            go_quiet (fail)
            have HI6 := Lib.hid (HI5.out.below ((Gr.refl wr).drewN nq).1)
            have HE6 := Lib.hid (HEV.out.drewN nq)
            clear x0 x1 x2 x3 x4 x5 a2 a3 a4 HI5 HEV
            generalize wr.drewN nq = w6 at *
            obtain ⟨x0, x1, x2, x3, x4, x5⟩ := HE6.out.six
            obtain ⟨-, -, a2, -, -, a6, -⟩ := HI6.out.cells
            rw [HKN.out] at x2
            clear d1 d2 d3 hc1 hc2
            go_wp2_with fail
            go_quiet (fail)
            have HI7 := Lib.hid (HI6.out.below ((Gr.refl w6).drewN nq).1)
            have HE7 := Lib.hid (HE6.out.drewN nq)
            clear x0 x1 x2 x3 x4 x5 a2 a6 HI6 HE6
            generalize w6.drewN nq = w7 at *
            obtain ⟨js, hal, hbj⟩ := HI7.out.bj
            obtain ⟨x, hxk, hxp, hsame⟩ := hal.at HPP.out
            obtain ⟨c0, c1, c2, c3, c4, c5⟩ := jr_cells hbj hxk
            subst hxp
            obtain ⟨x0, x1, x2, x3, x4, x5⟩ := HE7.out.six
            obtain ⟨tb, to_, hA, a0, b0, b1, b2⟩ := HI7.out.task HX.out HTT.out
            clear hA
            obtain ⟨-, -, a2, a3, a4, a6, -⟩ := HI7.out.cells
            rw [HKN.out] at x2
            rw [HSE.out] at x0
            have z0 : IntKind.i64.wrap ((m1.slot : Int) - x.p.rel) = (m1.slot : Int) - x.p.rel := IntWalk.i64_in _ (by omega)
            have hpc : ph = 2 ∨ ph = 4 ∨ (ph = 1 ∨ ph = 3 ∨ ph = 5) := by omega
            rcases hpc with hp2 | hp4 | hpo
            · exact absurd HPX.out (by omega)
            · subst hp4
              rw [show ((4 : Nat) : Int) = 4 from rfl]
              go_wp2_with fail
              have hsm := fun (h : 0 < x.p.ran) => hsame h
              have HREL := Lib.hid (show AU.runB m1 e = (x.p.live && decide (e.job = (x.p.jobs : Int) - 1) && !decide (x.p.ran = 0) && decide (x.la = (m1.slot : Int)) && decide (x.co = e.core) && (!decide (e.kind = 3) || decide (e.value = 0))) by
                unfold AU.runB
                rw [HTN.out, HPP.out]
                simp only
                by_cases h0 : x.p.ran = 0
                · rw [decide_eq_true h0]; simp
                · obtain ⟨q1, q2⟩ := hsm (by omega)
                  rw [q1, q2]
                  have e1 : decide ((x.p.jobs : Int) - 1 = e.job) = decide (e.job = (x.p.jobs : Int) - 1) := by rw [Bool.eq_iff_iff]; simp [eq_comm]
                  rw [e1]
                  cases x.p.live <;> cases decide (e.job = (x.p.jobs : Int) - 1) <;> cases decide (x.p.ran = 0) <;> cases decide (x.p.last = (m1.slot : Int)) <;> cases decide (x.p.core = e.core) <;> simp)
              have z6 : IntKind.i64.wrap ((x.p.jobs : Int) - 1) = (x.p.jobs : Int) - 1 := IntWalk.i64_in _ (by omega)
              clear hsm
              go_cut [263] from 214 to 263 (fun c wx => c = .bool (!AU.runB m1 e) ∧ Gr w7 wx)
              case first =>
                by_cases g1 : x.p.live = true
                · skip
                  by_cases g2 : e.job = (x.p.jobs : Int) - 1
                  · skip
                    have dg2 : (e.job == ((x.p.jobs : Int) - 1)) = true := by simp [g2]
                    have mg2 : (e.job != ((x.p.jobs : Int) - 1)) = false := by simp [g2]
                    by_cases g3 : x.p.ran = 0
                    · skip
                      have dg3 : (x.p.ran == (0 : Int)) = true := by simp [g3]
                      have mg3 : (x.p.ran != (0 : Int)) = false := by simp [g3]
                      have HBD := Lib.hid (show true = !AU.runB m1 e by rw [HREL.out]; simp [g1, g2, g3])
                      clear HREL g2
                      as_aux_lemma =>
                        go_quiet (fail)
                        go_wp2_with fail
                        go_meet
                        exact ⟨congrArg Value.bool HBD.out, (Gr.refl _).drewN _⟩
                    · skip
                      have dg3 : (x.p.ran == (0 : Int)) = false := by simp [g3]
                      have mg3 : (x.p.ran != (0 : Int)) = true := by simp [g3]
                      by_cases g4 : x.la = (m1.slot : Int)
                      · skip
                        have dg4 : (x.la == (m1.slot : Int)) = true := by simp [g4]
                        have mg4 : (x.la != (m1.slot : Int)) = false := by simp [g4]
                        by_cases g5 : x.co = e.core
                        · skip
                          have dg5 : (x.co == e.core) = true := by simp [g5]
                          have mg5 : (x.co != e.core) = false := by simp [g5]
                          by_cases g6 : e.kind = 3
                          · skip
                            have dg6 : ((e.kind : Int) == (3 : Int)) = true := by simp [g6]
                            by_cases g7 : e.value = 0
                            · skip
                              have dg7 : (e.value == (0 : Int)) = true := by simp [g7]
                              have mg7 : (e.value != (0 : Int)) = false := by simp [g7]
                              have HBD := Lib.hid (show false = !AU.runB m1 e by rw [HREL.out]; simp [g1, g2, g3, g4, g5, g6, g7])
                              clear HREL g2
                              as_aux_lemma =>
                                go_quiet (fail)
                                go_wp2_with fail
                                go_meet
                                exact ⟨congrArg Value.bool HBD.out, (Gr.refl _).drewN _⟩
                            · skip
                              have dg7 : (e.value == (0 : Int)) = false := by simp [g7]
                              have mg7 : (e.value != (0 : Int)) = true := by simp [g7]
                              have HBD := Lib.hid (show true = !AU.runB m1 e by rw [HREL.out]; simp [g1, g2, g3, g4, g5, g6, g7])
                              clear HREL g2
                              as_aux_lemma =>
                                go_quiet (fail)
                                go_wp2_with fail
                                go_meet
                                exact ⟨congrArg Value.bool HBD.out, (Gr.refl _).drewN _⟩
                          · skip
                            have dg6 : ((e.kind : Int) == (3 : Int)) = false := by simp; omega
                            have HBD := Lib.hid (show false = !AU.runB m1 e by rw [HREL.out]; simp [g1, g2, g3, g4, g5, g6])
                            clear HREL g2
                            as_aux_lemma =>
                              go_quiet (fail)
                              go_wp2_with fail
                              go_meet
                              exact ⟨congrArg Value.bool HBD.out, (Gr.refl _).drewN _⟩
                        · skip
                          have dg5 : (x.co == e.core) = false := by simp [g5]
                          have mg5 : (x.co != e.core) = true := by simp [g5]
                          have HBD := Lib.hid (show true = !AU.runB m1 e by rw [HREL.out]; simp [g1, g2, g3, g4, g5])
                          clear HREL g2
                          as_aux_lemma =>
                            go_quiet (fail)
                            go_wp2_with fail
                            go_meet
                            exact ⟨congrArg Value.bool HBD.out, (Gr.refl _).drewN _⟩
                      · skip
                        have dg4 : (x.la == (m1.slot : Int)) = false := by simp [g4]
                        have mg4 : (x.la != (m1.slot : Int)) = true := by simp [g4]
                        have HBD := Lib.hid (show true = !AU.runB m1 e by rw [HREL.out]; simp [g1, g2, g3, g4])
                        clear HREL g2
                        as_aux_lemma =>
                          go_quiet (fail)
                          go_wp2_with fail
                          go_meet
                          exact ⟨congrArg Value.bool HBD.out, (Gr.refl _).drewN _⟩
                  · skip
                    have dg2 : (e.job == ((x.p.jobs : Int) - 1)) = false := by simp [g2]
                    have mg2 : (e.job != ((x.p.jobs : Int) - 1)) = true := by simp [g2]
                    have HBD := Lib.hid (show true = !AU.runB m1 e by rw [HREL.out]; simp [g1, g2])
                    clear HREL g2
                    as_aux_lemma =>
                      go_quiet (fail)
                      go_wp2_with fail
                      go_meet
                      exact ⟨congrArg Value.bool HBD.out, (Gr.refl _).drewN _⟩
                · skip
                  have HBD := Lib.hid (show true = !AU.runB m1 e by rw [HREL.out]; simp [g1])
                  clear HREL
                  as_aux_lemma =>
                    go_quiet (fail)
                    go_wp2_with fail
                    go_meet
                    exact ⟨congrArg Value.bool HBD.out, (Gr.refl _).drewN _⟩
              case rest =>
                obtain ⟨rfl, hg8⟩ := hcut
                have HI8 := Lib.hid (HI7.out.below hg8.1)
                have HBJ8 := Lib.hid (hbj.below hg8.1)
                have HAL := Lib.hid hal
                have HSM := Lib.hid hsame
                have HE8 := Lib.hid (HE7.out.below hg8.1)
                have HR3 := Lib.hid (show R = if AU.runB m1 e = true then (0, AU.follow m1 e) else (6, m1) from HR2.out)
                clear hg8 hal hbj HI7 HE7 HR2 HREL c0 c1 c2 c3 c4 c5 x0 x1 x2 x3 x4 x5 a0 a2 a3 a4 a6 b0 b1 b2 hsame
                generalize wc = w8 at *
                have HLV := Lib.hid (show AU.runB m1 e = true → x.p.live = true from fun h => by
                  unfold AU.runB at h
                  rw [HTN.out, HPP.out] at h
                  simp only [Bool.and_eq_true] at h
                  exact h.1.1.1.1.1)
                generalize AU.runB m1 e = bb at *
                cases bb with
                | false =>
                  go_wp2_with fail
                  go_ret
                  rw [HR3.out]
                  exact ⟨rfl, m1, HI8.out, fun h => absurd h (by simp)⟩
                | true =>
                  obtain ⟨c0, c1, c2, c3, c4, c5⟩ := jr_cells HBJ8.out hxk
                  obtain ⟨x0, x1, x2, x3, x4, x5⟩ := HE8.out.six
                  have g5 := HBJ8.out.frozen (k * 6 + 5)
                  have hlj := HBJ8.out.lt
                  go_wp2_with fail
                  go_ret
                  rw [HR3.out]
                  refine ⟨rfl, AU.follow m1 e, ?_, fun _ => rfl⟩
                  have hj6 := (HI8.out.toJ HBJ8.out).set (x' := ⟨⟨x.p.jobs, (e.kind : Int) == 7, x.p.rel, x.p.ran, x.p.last, x.p.core⟩, x.la, x.co⟩) (i := 5) (v := .bool ((e.kind : Int) == 7)) hxk (by omega) rfl
                  have hfo : AU.follow m1 e = ⟨m1.ps.set k ⟨x.p.jobs, (e.kind : Int) == 7, x.p.rel, x.p.ran, x.p.last, x.p.core⟩, m1.slot, m1.phase, m1.req, m1.last⟩ := by
                    rcases AU.kind_of4 HP.out with hk | hk | hk
                    · unfold AU.follow
                      rw [if_neg (by omega), if_neg (by omega), if_neg (by omega), if_pos (by omega), HTN.out, AU.modify_set _ HPP.out, hk]; rfl
                    · unfold AU.follow
                      rw [if_neg (by omega), if_neg (by omega), if_neg (by omega), if_pos (by omega), HTN.out, AU.modify_set _ HPP.out, hk]; rfl
                    · unfold AU.follow
                      rw [if_neg (by omega), if_neg (by omega), if_neg (by omega), if_neg (by omega), hk]
                      have hl : x.p.live = true := by first | exact HLV.out trivial | exact HLV.out rfl
                      have hself : m1.ps.set k ⟨x.p.jobs, ((7 : Nat) : Int) == 7, x.p.rel, x.p.ran, x.p.last, x.p.core⟩ = m1.ps := by
                        have : (⟨x.p.jobs, ((7 : Nat) : Int) == 7, x.p.rel, x.p.ran, x.p.last, x.p.core⟩ : Pr) = x.p := by
                          rw [show (((7 : Nat) : Int) == 7) = x.p.live by rw [hl]; rfl]
                        rw [this]
                        refine List.ext_getElem? fun i => ?_
                        rw [List.getElem?_set]
                        split
                        · rename_i hi
                          subst hi
                          split
                          · exact HPP.out.symm
                          · rename_i hlt
                            exact absurd (List.getElem?_eq_some_iff.1 HPP.out).1 hlt
                        · rfl
                      rw [hself]
                  rw [hfo]
                  exact hj6.inv (HAL.out.set k HSM.out)
            · exact absurd HPX.out (by omega)
end
end Go.Proofs.Ytehdgdlndlamjaa
