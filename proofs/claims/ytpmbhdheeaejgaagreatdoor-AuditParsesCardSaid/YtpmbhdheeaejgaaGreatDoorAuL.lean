/- The auditor examines an event. -/
import Derived.Test.YtpmbhdheeaejgaaGreatDoorAuK
import Derived.Deep.CutRange
import Derived.Deep.DeepCutAuto
namespace Go.Proofs.YtpmbhdheeaejgaaGreatDoor
open Go.RowKit Go.Maps Go.Sort Go.Lib
open SL (Tk Cd)
open AU (Pr Rq Ev Mo)
theorem AU.need_len {ts : List Tk} {ps : List Pr} {n slot phase J : Nat} (hl : ps.length = ts.length) (h40 : ts.length ≤ 40) (hn4 : n ≤ 4) (ho : AU.OkPs n slot J ts ps) (ha : AU.Apart ps) : (AU.need ts n ps slot phase).length ≤ 1000 := by
  unfold AU.need
  split
  · have := AU.overI_len ps.length (AU.lateF ts ps slot)
    unfold AU.lateL
    omega
  · split
    · have hs := AU.sel_nodup ts ps slot n
      have hc := AU.asg_cores (slot := slot) (n := n) ha hs
      have hr : ∀ r ∈ AU.asg ps slot n (AU.sel ts ps slot n), 0 ≤ r.core ∧ r.core < n := by
        intro r hr
        obtain ⟨i, c, h1, rfl, h2⟩ := AU.asg_mem hr
        rw [AU.mkR_core]
        rcases h2 with h2 | h2
        · obtain ⟨p, a1, a2, a3, rfl⟩ := AU.fixed_some h2
          obtain ⟨t, q, b1, b2, _, _⟩ := AU.sel_mem h1
          exact (ho i t p b1 a1).core a2
        · exact h2
      unfold AU.dispL
      rw [(AU.byCore_self hc hr).length_eq]
      unfold AU.asg
      rw [List.length_append]
      have h1 : (AU.fixL ps slot (AU.sel ts ps slot n)).length ≤ n := Nat.le_trans (List.length_filterMap_le _ _) (AU.sel_len _ _ _ _)
      have h2 : (AU.newL ps (AU.freeL (AU.fixL ps slot (AU.sel ts ps slot n)) n) (AU.othL ps slot (AU.sel ts ps slot n))).length ≤ n := by
        unfold AU.newL
        rw [List.length_zipWith]
        have h3 : (AU.othL ps slot (AU.sel ts ps slot n)).length ≤ n := Nat.le_trans (List.length_filter_le _ _) (AU.sel_len _ _ _ _)
        omega
      omega
    · split
      · unfold AU.cutL
        rw [(AU.byCore_self (AU.cut_cores ha ps.length) (AU.cut_range ho hl ps.length)).length_eq]
        have := AU.overI_len ps.length (AU.cutF ts ps slot)
        omega
      · simp
theorem AU.nxt_len {ts : List Tk} {n J : Nat} {m : Mo} (h : AU.Inv ts n J m) (h40 : ts.length ≤ 40) (hn4 : n ≤ 4) : (AU.nxt ts n m).req.length ≤ 1000 := by
  unfold AU.nxt
  split
  · exact AU.need_len h.len h40 hn4 h.ok h.apart
  · exact AU.need_len (slot := m.slot + 1) (phase := 1) (J := J) h.len h40 hn4 (fun i t p a b => (h.ok i t p a b).up (Nat.le_succ _) (Nat.le_refl J)) h.apart
theorem AU.adv_len {ts : List Tk} {n J slot phase : Nat} (hs : slot ≤ 100000) (h40 : ts.length ≤ 40) (hn4 : n ≤ 4) : ∀ (k : Nat) (m : Mo), AU.Inv ts n J m → m.req.length ≤ 1000 → (AU.adv ts n slot phase k m).2.req.length ≤ 1000
  | 0, m, _, hq => hq
  | k + 1, m, h, hq => by
    rw [AU.adv]
    split
    · split
      · exact hq
      · split
        · rename_i h1
          exact AU.adv_len hs h40 hn4 k _ (AU.inv_nxt h (by omega)) (AU.nxt_len h h40 hn4)
        · exact hq
    · exact hq
/-- The first test of an event. -/
def AU.bad1 (m : Mo) (e : Ev) : Bool := decide (e.slot < m.slot) || decide (100000 < e.slot) || (decide (e.slot = m.slot) && !decide (AU.phaseOf e.kind = 0) && decide (AU.phaseOf e.kind < m.phase))
def AU.bad2 (n : Nat) (e : Ev) : Bool := decide (AU.phaseOf e.kind = 0) || decide (e.task < 0) || decide ((n : Int) ≤ e.task)
theorem AU.exam_eq (ts : List Tk) (n : Nat) (m : Mo) (e : Ev) : AU.exam ts n m e = if AU.bad1 m e then (1, m) else if AU.bad2 ts.length e then (2, m)
    else if (AU.adv ts n e.slot.toNat (AU.phaseOf e.kind) AU.fuel m).1 ≠ 0 then AU.adv ts n e.slot.toNat (AU.phaseOf e.kind) AU.fuel m
    else if AU.admits ts (AU.phaseOf e.kind) (AU.adv ts n e.slot.toNat (AU.phaseOf e.kind) AU.fuel m).2 e then (0, AU.follow (AU.adv ts n e.slot.toNat (AU.phaseOf e.kind) AU.fuel m).2 e)
    else (AU.phaseOf e.kind + 2, (AU.adv ts n e.slot.toNat (AU.phaseOf e.kind) AU.fuel m).2) := by
  unfold AU.exam AU.bad1 AU.bad2
  simp only [Bool.or_eq_true, Bool.and_eq_true, Bool.not_eq_true', decide_eq_true_eq, decide_eq_false_iff_not, or_assoc, and_assoc]
/-- The test of an event that a phase makes: the function of the table. -/
theorem adm_any {B : World} {X : Aud} (hx : AudOk B X) {gm gp : Nat} {m : Mo} (e : Ev) (k : Nat) (t : Tk) (p : Pr) (ph : Nat) (hp1 : 1 ≤ ph) (hp5 : ph ≤ 5) (he : e.task = (k : Int)) (ht : X.ts[k]? = some t) (hp : m.ps[k]? = some p) (hb : AU.OkP X.n m.slot 1000000000 t p) (hs : m.slot ≤ 100000) (hq : m.req.length ≤ 1000) :
    ∃ f v, (∀ W : World, Sem.run Tryz.prog (Instr.index 80 (.agg ruC) (.int .i64 ((ph : Int) - 1))) W = .ok v W) ∧ (∀ W : World, Sem.run Tryz.prog (Instr.field 79 v 1) W = .ok (fvV f) W) ∧ (∀ (v x : Value) (W : World), Sem.run Tryz.prog (callFunc f #[v, x]) W = .ok (Next.enter f #[v, x]) W) ∧
      ∀ w, AInv B X gm gp m w → Calls Tryz.prog f #[.pointer (some ⟨gm, 0, none⟩), .agg (evV e)] w fun r w' => r = .returned (.bool (AU.admits X.ts ph m e)) ∧ Gr w w' := by
  have htn : e.task.toNat = k := by omega
  have hrel : AU.relB X.ts m e = (!(decide ((k : Int) ≤ m.last) || p.live || (decide (0 < p.jobs) && decide ((m.slot : Int) - p.rel < t.per))) && decide (e.job = p.jobs) && decide (e.core = -1) && decide (e.value = 0)) := by
    unfold AU.relB
    rw [htn, ht, hp, he]
  have hrun : AU.runB m e = (p.live && !decide (p.ran = 0) && decide (p.last = (m.slot : Int)) && decide (p.core = e.core) && decide ((p.jobs : Int) - 1 = e.job) && (!decide (e.kind = 3) || decide (e.value = 0))) := by
    unfold AU.runB
    rw [htn, hp]
  have hc : ph = 1 ∨ ph = 2 ∨ ph = 3 ∨ ph = 4 ∨ ph = 5 := by omega
  rcases hc with rfl | rfl | rfl | rfl | rfl
  · exact ⟨43, .agg #[fvV 42, fvV 43], fun W => by kernel_rfl, fun W => by kernel_rfl, cf_next, fun w hI => next_any hI e hq⟩
  · exact ⟨44, .agg #[fvV 41, fvV 44], fun W => by kernel_rfl, fun W => by kernel_rfl, cf_release, fun w hI => release_any hx hI e k t p he ht hp hb hs _ hrel⟩
  · exact ⟨43, .agg #[fvV 45, fvV 43], fun W => by kernel_rfl, fun W => by kernel_rfl, cf_next, fun w hI => next_any hI e hq⟩
  · exact ⟨46, .agg #[fvV 41, fvV 46], fun W => by kernel_rfl, fun W => by kernel_rfl, cf_run, fun w hI => run_any hx hI e k t p he ht hp hb hs _ hrun⟩
  · exact ⟨43, .agg #[fvV 47, fvV 43], fun W => by kernel_rfl, fun W => by kernel_rfl, cf_next, fun w hI => next_any hI e hq⟩
section
set_option maxHeartbeats 4000000
set_option maxRecDepth 100000
theorem examine_any {B : World} {X : Aud} (hx : AudOk B X) {gm gp : Nat} {m : Mo} {w : World} (hI : AInv B X gm gp m w) (e : Ev) (J : Nat) (hJ : J ≤ 1000000000) (hv : AU.Inv X.ts X.n J m) (hq : m.req.length ≤ 1000) :
    Calls Tryz.prog 22 #[.pointer (some ⟨gm, 0, none⟩), .agg (evV e)] w fun r w' => r = .returned (.int .i64 ((AU.exam X.ts X.n m e).1 : Int)) ∧ AInv B X gm gp (AU.exam X.ts X.n m e).2 w' := by
  have mixed : Tryz.prog.follows .mixedOrders = true := by kernel_rfl
  have hnot : ∀ (x : Bool) (w : World), (Op.unary .not (.bool x)).run Tryz.prog w = .ok (.bool (!x)) w := fun _ _ => rfl
  have hg0 := (Gr.refl w).alloc (.cells (evV e) 26)
  have hk0 : Blk (w.alloc (.cells (evV e) 26)) w.heap.size 26 (evV e) := Blk.new w _ _
  have hi1 := hI.below hg0.1
  have HI1 := Lib.hid hi1
  have HK1 := Lib.hid hk0
  have HX := Lib.hid hx
  have HV := Lib.hid hv
  have HPH := Lib.hid (fun W => phase_any e.kind W)
  have HRU := Lib.hid (fun W => rules_any W)
  have hb1 : AU.bad1 m e = (decide (e.slot < m.slot) || decide (100000 < e.slot) || (decide (e.slot = m.slot) && !decide (AU.phaseOf e.kind = 0) && decide (AU.phaseOf e.kind < m.phase))) := rfl
  have hb2 : AU.bad2 X.ts.length e = (decide (AU.phaseOf e.kind = 0) || decide (e.task < 0) || decide ((X.ts.length : Int) ≤ e.task)) := rfl
  have hex := AU.exam_eq X.ts X.n m e
  have hple := AU.phaseOf_le e.kind
  have h40 := hx.len
  generalize AU.exam X.ts X.n m e = R at *
  generalize AU.bad1 m e = bd1 at *
  generalize AU.bad2 X.ts.length e = bd2 at *
  obtain ⟨ph, hph⟩ : ∃ n, n = AU.phaseOf e.kind := ⟨_, rfl⟩
  rw [← hph] at hb1 hb2 hex hple HPH
  have HP := Lib.hid hph
  have HB1 := Lib.hid hb1
  have HB2 := Lib.hid hb2
  have HEX := Lib.hid hex
  rw [show evV e = #[.int .i64 e.slot, .int .i64 e.core, .int .i64 e.task, .int .i64 e.job, .int .u8 (e.kind : Int), .int .i64 e.value, .int .i64 e.cycle, .int .i64 e.port] from rfl] at *
  have hsl := hv.slot
  have hp1 := hv.ph.1
  have hp5 := hv.ph.2
  clear hI hg0 hi1 hk0 hx hv hph hb1 hb2 hex
  go_enter Tryz.func22, Tryz.ntmps22
  obtain ⟨x0, x1, x2, x3, x4, x5, x6, x7⟩ := HK1.out.eight
  go_wp2_with fail
  refine (HPH.out _).mono ?_
  rintro r w2 ⟨rfl, hw2⟩
  rw [← hw2] at HI1 HK1 x0 x1 x2 x3 x4 x5 x6 x7
  clear hw2
  obtain ⟨_, _, a3, a4, _⟩ := HI1.out.cells
  go_upto_region 2 with fail
  go_cut [42] from 10 to 42 (fun c wx => c = .bool bd1 ∧ Gr w2 wx)
  case first =>
    by_cases h1 : e.slot < (m.slot : Int)
    · have d1 : decide (e.slot < (m.slot : Int)) = true := decide_eq_true h1
      have HBD := Lib.hid (show true = bd1 by rw [HB1.out]; simp [d1])
      clear HB1 HEX
      go_quiet (fail)
      go_wp2_with fail
      go_meet
      exact ⟨congrArg Value.bool HBD.out, (Gr.refl _).drewN _⟩
    · have d1 : decide (e.slot < (m.slot : Int)) = false := decide_eq_false h1
      by_cases h2 : (100000 : Int) < e.slot
      · have d2 : decide ((100000 : Int) < e.slot) = true := decide_eq_true h2
        have HBD := Lib.hid (show true = bd1 by rw [HB1.out]; simp [d1, d2])
        clear HB1 HEX
        go_quiet (fail)
        go_wp2_with fail
        go_meet
        exact ⟨congrArg Value.bool HBD.out, (Gr.refl _).drewN _⟩
      · have d2 : decide ((100000 : Int) < e.slot) = false := decide_eq_false h2
        by_cases h3 : e.slot = (m.slot : Int)
        · have f3 : (e.slot == (m.slot : Int)) = true := by simp [h3]
          have d3 : decide (e.slot = (m.slot : Int)) = true := decide_eq_true h3
          by_cases h4 : ph = 0
          · have f4 : ((ph : Int) != 0) = false := by simp [h4]
            have d4 : decide (ph = 0) = true := decide_eq_true h4
            clear h1 h2 h3 h4
            have HBD := Lib.hid (show false = bd1 by rw [HB1.out]; simp [d1, d2, d3, d4])
            clear HB1 HEX
            go_quiet (fail)
            go_wp2_with fail
            go_meet
            exact ⟨congrArg Value.bool HBD.out, (Gr.refl _).drewN _⟩
          · have f4 : ((ph : Int) != 0) = true := by simp; omega
            have d4 : decide (ph = 0) = false := decide_eq_false h4
            by_cases h5 : ph < m.phase
            · have d5 : decide (ph < m.phase) = true := decide_eq_true h5
              have e5 : decide ((ph : Int) < (m.phase : Int)) = true := decide_eq_true (by omega)
              clear h1 h2 h3 h4 h5
              have HBD := Lib.hid (show true = bd1 by rw [HB1.out]; simp [d1, d2, d3, d4, d5])
              clear HB1 HEX
              go_quiet (fail)
              go_wp2_with fail
              go_meet
              exact ⟨congrArg Value.bool HBD.out, (Gr.refl _).drewN _⟩
            · have d5 : decide (ph < m.phase) = false := decide_eq_false h5
              have e5 : decide ((ph : Int) < (m.phase : Int)) = false := decide_eq_false (by omega)
              clear h1 h2 h3 h4 h5
              have HBD := Lib.hid (show false = bd1 by rw [HB1.out]; simp [d1, d2, d3, d4, d5])
              clear HB1 HEX
              go_quiet (fail)
              go_wp2_with fail
              go_meet
              exact ⟨congrArg Value.bool HBD.out, (Gr.refl _).drewN _⟩
        · have f3 : (e.slot == (m.slot : Int)) = false := by simp [h3]
          have d3 : decide (e.slot = (m.slot : Int)) = false := decide_eq_false h3
          clear h1 h2 h3
          have HBD := Lib.hid (show false = bd1 by rw [HB1.out]; simp [d1, d2, d3])
          clear HB1 HEX
          go_quiet (fail)
          go_wp2_with fail
          go_meet
          exact ⟨congrArg Value.bool HBD.out, (Gr.refl _).drewN _⟩
  case rest =>
    obtain ⟨rfl, hg3⟩ := hcut
    have HI3 := Lib.hid (HI1.out.below hg3.1)
    have HK3 := Lib.hid (HK1.out.below hg3.1)
    clear hg3 HI1 HK1 x0 x1 x2 x3 x4 x5 x6 x7 a3 a4
    generalize wc = w3 at *
    cases bd1 with
    | true =>
      have HR := Lib.hid (show R = (1, m) by rw [HEX.out]; rfl)
      clear HEX HB1 HB2
      go_wp2_with fail
      go_ret
      rw [HR.out]
      exact ⟨rfl, HI3.out⟩
    | false =>
      obtain ⟨x0, x1, x2, x3, x4, x5, x6, x7⟩ := HK3.out.eight
      obtain ⟨A, c, kind, hbm, _⟩ := HI3.out.bm
      have a0 := hbm.cell 0
      simp only [List.getElem?_toArray, List.getElem?_cons_zero] at a0
      rw [show X.tv = .slice X.A X.ts.length X.c from rfl] at a0
      clear hbm
      go_upto_region 4 with fail
      go_cut [59] from 43 to 59 (fun c wx => c = .bool bd2 ∧ Gr w3 wx)
      case first =>
        by_cases h1 : ph = 0
        · have f1 : ((ph : Int) == 0) = true := by simp [h1]
          have d1 : decide (ph = 0) = true := decide_eq_true h1
          clear h1
          have HBD := Lib.hid (show true = bd2 by rw [HB2.out]; simp [d1])
          clear HB2 HEX
          go_quiet (fail)
          go_wp2_with fail
          go_meet
          exact ⟨congrArg Value.bool HBD.out, (Gr.refl _).drewN _⟩
        · have f1 : ((ph : Int) == 0) = false := by simp; omega
          have d1 : decide (ph = 0) = false := decide_eq_false h1
          by_cases h2 : e.task < 0
          · have d2 : decide (e.task < 0) = true := decide_eq_true h2
            clear h1 h2
            have HBD := Lib.hid (show true = bd2 by rw [HB2.out]; simp [d1, d2])
            clear HB2 HEX
            go_quiet (fail)
            go_wp2_with fail
            go_meet
            exact ⟨congrArg Value.bool HBD.out, (Gr.refl _).drewN _⟩
          · have d2 : decide (e.task < 0) = false := decide_eq_false h2
            by_cases h3 : (X.ts.length : Int) ≤ e.task
            · have d3 : decide ((X.ts.length : Int) ≤ e.task) = true := decide_eq_true h3
              clear h1 h2 h3
              have HBD := Lib.hid (show true = bd2 by rw [HB2.out]; simp [d1, d2, d3])
              clear HB2 HEX
              go_quiet (fail)
              go_wp2_with fail
              go_meet
              exact ⟨congrArg Value.bool HBD.out, (Gr.refl _).drewN _⟩
            · have d3 : decide ((X.ts.length : Int) ≤ e.task) = false := decide_eq_false h3
              clear h1 h2 h3
              have HBD := Lib.hid (show false = bd2 by rw [HB2.out]; simp [d1, d2, d3])
              clear HB2 HEX
              go_quiet (fail)
              go_wp2_with fail
              go_meet
              exact ⟨congrArg Value.bool HBD.out, (Gr.refl _).drewN _⟩
      case rest =>
        obtain ⟨rfl, hg4⟩ := hcut
        have HI4 := Lib.hid (HI3.out.below hg4.1)
        have HK4 := Lib.hid (HK3.out.below hg4.1)
        clear hg4 HI3 HK3 x0 x1 x2 x3 x4 x5 x6 x7 a0
        generalize wc = w4 at *
        cases bd2 with
        | true =>
          have HR := Lib.hid (show R = (2, m) by rw [HEX.out]; rfl)
          clear HEX HB1 HB2
          go_wp2_with fail
          go_ret
          rw [HR.out]
          exact ⟨rfl, HI4.out⟩
        | false =>
          have hb1 := HB1.out
          have hb2 := HB2.out
          have n1 : ¬ e.slot < (m.slot : Int) := fun h => by rw [decide_eq_true h] at hb1; simp at hb1
          have n2 : ¬ (100000 : Int) < e.slot := fun h => by rw [decide_eq_true h] at hb1; simp at hb1
          have n4 : ¬ ph = 0 := fun h => by rw [decide_eq_true h] at hb2; simp at hb2
          have n5 : ¬ e.task < 0 := fun h => by rw [decide_eq_true h] at hb2; simp at hb2
          have n6 : ¬ (X.ts.length : Int) ≤ e.task := fun h => by rw [decide_eq_true h] at hb2; simp at hb2
          have n3 : e.slot = (m.slot : Int) → m.phase ≤ ph := fun h => by
            rcases Nat.lt_or_ge ph m.phase with h5 | h5
            · rw [decide_eq_true h, decide_eq_false n4, decide_eq_true h5] at hb1; simp at hb1
            · exact h5
          obtain ⟨sn, hsn⟩ : ∃ n : Nat, e.slot = (n : Int) := ⟨e.slot.toNat, by omega⟩
          obtain ⟨k, hkn⟩ : ∃ n : Nat, e.task = (n : Int) := ⟨e.task.toNat, by omega⟩
          have hsn2 : e.slot.toNat = sn := by omega
          have hR := HEX.out
          rw [if_neg (by simp), if_neg (by simp), hsn2] at hR
          have HAD := Lib.hid (advance_any HX.out HI4.out J sn ph hJ HV.out (by omega) (by omega) (by omega))
          have hvA := AU.inv_adv (phase := ph) (show sn ≤ 100000 by omega) AU.fuel m HV.out
          have hlA := AU.adv_len (phase := ph) (show sn ≤ 100000 by omega) h40 HX.out.n4 AU.fuel m HV.out hq
          have heA := AU.adv_end (ts := X.ts) (n := X.n) (slot := sn) (phase := ph) ⟨by omega, hple⟩ AU.fuel m HV.out.ph (by
            unfold AU.mm
            by_cases h : e.slot = (m.slot : Int)
            · have := n3 h; omega
            · omega) (by unfold AU.mm AU.fuel; omega)
          generalize AU.adv X.ts X.n sn ph AU.fuel m = RA at *
          obtain ⟨ra, m1⟩ := RA
          simp only at hR hvA hlA heA HAD
          rw [← hsn] at HAD
          have HRR := Lib.hid hR
          have HVA := Lib.hid hvA
          have HEA := Lib.hid heA
          have HSN := Lib.hid hsn
          have HKN := Lib.hid hkn
          have hnk : k < X.ts.length := by omega
          clear hb1 hb2 n1 n2 n3 n5 n6 hsn2 hR hvA heA HB1 HB2 HEX hsn hkn HV
          obtain ⟨x0, x1, x2, x3, x4, x5, x6, x7⟩ := HK4.out.eight
          go_wp2_with fail
          refine HAD.out.mono ?_
          rintro r w5 ⟨rfl, hI5, hf5⟩
          have HI5 := Lib.hid hI5
          have HK5 := Lib.hid (HK4.out.fx hf5 (by decide))
          clear hI5 hf5 HAD HI4 HK4 x0 x1 x2 x3 x4 x5 x6 x7
          by_cases h0 : ra = 0
          · subst h0
            obtain ⟨he1, he2⟩ := HEA.out rfl
            obtain ⟨t, ht⟩ : ∃ t, X.ts[k]? = some t := ⟨_, List.getElem?_eq_getElem hnk⟩
            obtain ⟨p, hp⟩ : ∃ p, m1.ps[k]? = some p := ⟨_, List.getElem?_eq_getElem (by rw [HVA.out.len]; exact hnk)⟩
            have hop : AU.OkP X.n m1.slot 1000000000 t p := (HVA.out.ok k t p ht hp).up (Nat.le_refl _) hJ
            obtain ⟨f, v, hix, hfi, hcf, hcl⟩ := adm_any HX.out (gm := gm) (gp := gp) e k t p ph (by omega) hple HKN.out ht hp hop HVA.out.slot hlA
            obtain ⟨v1, v2, v3⟩ := SL.okTk_iff.1 (HX.out.ok t (List.mem_of_getElem? ht))
            have HFO := Lib.hid (fun (w : World) (h : AInv B X gm gp m1 w) (hr : e.kind = 2 ∨ e.kind = 5 ∨ e.kind = 6 → m1.req ≠ []) => follow_any h e k p HKN.out HVA.out.len hp hop.jobs hop.ran0 (by have := hop.ran1; omega) (by rw [← HP.out]; exact n4) hr)
            have HCL := Lib.hid hcl
            have hRR := HRR.out
            simp only [ne_eq, not_true_eq_false, if_false] at hRR
            rw [show evV e = #[.int .i64 e.slot, .int .i64 e.core, .int .i64 e.task, .int .i64 e.job, .int .u8 (e.kind : Int), .int .i64 e.value, .int .i64 e.cycle, .int .i64 e.port] from rfl] at HFO HCL
            have z1 : IntKind.i64.wrap ((ph : Int) - 1) = (ph : Int) - 1 := IntWalk.i64_in _ (by omega)
            have z2 : IntKind.i64.wrap ((ph : Int) + 2) = (ph : Int) + 2 := IntWalk.i64_in _ (by omega)
            unfold fvV at hfi
            have x0 := fun n os => (HK5.out.grown n os).eight.1
            have x1 := fun n os => (HK5.out.grown n os).eight.2.1
            have x2 := fun n os => (HK5.out.grown n os).eight.2.2.1
            have x3 := fun n os => (HK5.out.grown n os).eight.2.2.2.1
            have x4 := fun n os => (HK5.out.grown n os).eight.2.2.2.2.1
            have x5 := fun n os => (HK5.out.grown n os).eight.2.2.2.2.2.1
            have x6 := fun n os => (HK5.out.grown n os).eight.2.2.2.2.2.2.1
            have x7 := fun n os => (HK5.out.grown n os).eight.2.2.2.2.2.2.2
            have hnx : AU.admits X.ts ph m1 e = true → e.kind = 2 ∨ e.kind = 5 ∨ e.kind = 6 → m1.req ≠ [] := by
              intro ha hk hr
              have hph := HP.out
              unfold AU.admits at ha
              have h1 : ph ≠ 2 := by rcases hk with hk | hk | hk <;> rw [hk] at hph <;> (unfold AU.phaseOf at hph; simp at hph; omega)
              have h2 : ph ≠ 4 := by rcases hk with hk | hk | hk <;> rw [hk] at hph <;> (unfold AU.phaseOf at hph; simp at hph; omega)
              rw [if_neg h1, if_neg h2] at ha
              unfold AU.nextB at ha
              rw [hr] at ha
              cases ha
            have HNX := Lib.hid hnx
            generalize AU.admits X.ts ph m1 e = ad at *
            have HR2 := Lib.hid hRR
            clear HRR hRR hcl hop ht hp he1 he2 HEA HVA hlA hnx
            go_wp2_with fail
            have HGG : Hid (∀ n os, AInv B X gm gp m1 (grow (w5.drewN n) os)) := Lib.hid fun n os => HI5.out.below (gr_grown (Gr.refl w5) n os).1
            go_quiet_grown (first | (go_at_call 33; exact Calls.grown_of (Calls.gr (HRU.out _))) | exact Calls.grown_of (Calls.gr (HCL.out _ (HGG.out _ _))))
            have HI6 := Lib.hid (HGG.out nq osq)
            have HK6 := Lib.hid (HK5.out.grown nq osq)
            clear HGG HI5 HK5 x0 x1 x2 x3 x4 x5 x6 x7 HCL hix hfi hcf
            generalize grow (w5.drewN nq) osq = w6 at *
            obtain ⟨x0, x1, x2, x3, x4, x5, x6, x7⟩ := HK6.out.eight
            cases ad with
            | false =>
              go_wp2_with fail
              go_ret
              rw [HR2.out]
              exact ⟨by simp, HI6.out⟩
            | true =>
              have HF6 := Lib.hid (HFO.out w6 HI6.out (HNX.out rfl))
              clear HFO HNX
              go_wp2_with fail
              refine HF6.out.mono ?_
              rintro r w7 ⟨rfl, h7⟩
              have H7 := Lib.hid h7
              clear h7
              go_wp2_with fail
              go_ret
              rw [HR2.out]
              exact ⟨by simp, H7.out⟩
          · have n1 : ((ra : Int) != 0) = true := by simp; omega
            have hRR := HRR.out
            rw [if_pos h0] at hRR
            have HR2 := Lib.hid hRR
            clear h0 hRR HRR
            go_wp2_with fail
            go_ret
            rw [HR2.out]
            exact ⟨rfl, HI5.out⟩
end
end Go.Proofs.YtpmbhdheeaejgaaGreatDoor
