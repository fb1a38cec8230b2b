/- The auditor's check of a trace. -/
import Derived.Test.YtpmbhdheeaejgaaGreatDoorAuL
namespace Go.Proofs.YtpmbhdheeaejgaaGreatDoor
open Go.RowKit Go.Maps Go.Sort Go.Lib
open SL (Tk Cd)
open AU (Pr Rq Ev Mo)
theorem AU.inv0 (ts : List Tk) (n : Nat) (hok : ∀ t ∈ ts, SL.okTk t = true) : AU.Inv ts n 0 (AU.mo0 ts.length) := by
  have hz : ∀ (i : Nat) (p : Pr), (List.replicate ts.length AU.pr0)[i]? = some p → p = AU.pr0 := fun i p h => (List.mem_replicate.1 (List.mem_of_getElem? h)).2
  refine ⟨by simp [AU.mo0], by simp [AU.mo0], by simp [AU.mo0], fun i t p ht hp => ?_, fun a b p q _ ha _ h1 => ?_, fun _ p hp h1 => ?_, fun h => by simp [AU.mo0] at h⟩
  · rw [hz i p hp]
    obtain ⟨v1, v2, v3⟩ := SL.okTk_iff.1 (hok t (List.mem_of_getElem? ht))
    exact ⟨by simp [AU.pr0], by simp [AU.pr0], by simp [AU.pr0, AU.mo0], by simp [AU.pr0], by simp only [AU.pr0]; omega, by simp [AU.pr0], by simp [AU.pr0]⟩
  · rw [hz a p ha] at h1
    simp [AU.pr0] at h1
  · rw [(List.mem_replicate.1 hp).2] at h1
    simp [AU.pr0] at h1
theorem AU.follow_len (m : Mo) (e : Ev) : (AU.follow m e).req.length ≤ m.req.length := by
  unfold AU.follow
  split
  · simp
  · split
    · simp
    · split
      · simp
      · split <;> simp
theorem AU.follow_slot (m : Mo) (e : Ev) : (AU.follow m e).slot = m.slot := by
  unfold AU.follow
  split
  · rfl
  · split
    · rfl
    · split
      · rfl
      · split <;> rfl
/-- Behind an event that violates nothing. -/
theorem AU.exam_inv {ts : List Tk} {n J : Nat} {m : Mo} {e : Ev} (h : AU.Inv ts n J m) (hok : ∀ t ∈ ts, SL.okTk t = true) (h40 : ts.length ≤ 40) (hn4 : n ≤ 4) (hq : m.req.length ≤ 1000) (h0 : (AU.exam ts n m e).1 = 0) :
    AU.Inv ts n (J + 1) (AU.exam ts n m e).2 ∧ (AU.exam ts n m e).2.req.length ≤ 1000 ∧ ((AU.exam ts n m e).2.slot : Int) = e.slot := by
  have hple := AU.phaseOf_le e.kind
  rw [AU.exam_eq] at h0 ⊢
  by_cases hb1 : AU.bad1 m e = true
  · rw [if_pos hb1] at h0; simp at h0
  by_cases hb2 : AU.bad2 ts.length e = true
  · rw [if_neg hb1, if_pos hb2] at h0; simp at h0
  rw [if_neg hb1, if_neg hb2] at h0 ⊢
  simp only [Bool.not_eq_true] at hb1 hb2
  unfold AU.bad1 at hb1
  unfold AU.bad2 at hb2
  have n1 : ¬ e.slot < (m.slot : Int) := fun h => by rw [decide_eq_true h] at hb1; simp at hb1
  have n2 : ¬ (100000 : Int) < e.slot := fun h => by rw [decide_eq_true h] at hb1; simp at hb1
  have n4 : ¬ AU.phaseOf e.kind = 0 := fun h => by rw [decide_eq_true h] at hb2; simp at hb2
  have n5 : ¬ e.task < 0 := fun h => by rw [decide_eq_true h] at hb2; simp at hb2
  have n3 : e.slot = (m.slot : Int) → m.phase ≤ AU.phaseOf e.kind := fun h => by
    rcases Nat.lt_or_ge (AU.phaseOf e.kind) m.phase with h5 | h5
    · rw [decide_eq_true h, decide_eq_false n4, decide_eq_true h5] at hb1; simp at hb1
    · exact h5
  obtain ⟨sn, hsn⟩ : ∃ n : Nat, e.slot = (n : Int) := ⟨e.slot.toNat, by omega⟩
  have hsn2 : e.slot.toNat = sn := by omega
  rw [hsn2] at h0 ⊢
  have hvA := AU.inv_adv (phase := AU.phaseOf e.kind) (show sn ≤ 100000 by omega) AU.fuel m h
  have hlA := AU.adv_len (phase := AU.phaseOf e.kind) (show sn ≤ 100000 by omega) h40 hn4 AU.fuel m h hq
  have hp := h.ph
  have hs := h.slot
  have heA := AU.adv_end (ts := ts) (n := n) (slot := sn) (phase := AU.phaseOf e.kind) ⟨by omega, hple⟩ AU.fuel m h.ph (by
    unfold AU.mm
    by_cases h : e.slot = (m.slot : Int)
    · have := n3 h; omega
    · omega) (by unfold AU.mm AU.fuel; omega)
  generalize AU.adv ts n sn (AU.phaseOf e.kind) AU.fuel m = RA at *
  obtain ⟨ra, m1⟩ := RA
  simp only at h0 hvA hlA heA ⊢
  by_cases hr : ra = 0
  · obtain ⟨he1, he2⟩ := heA hr
    rw [if_neg (by simp [hr])] at h0 ⊢
    by_cases ha : AU.admits ts (AU.phaseOf e.kind) m1 e = true
    · rw [if_pos ha]
      refine ⟨AU.inv_follow hvA hok (by omega) he2.symm (by rw [he2]; exact ha), Nat.le_trans (AU.follow_len _ _) hlA, ?_⟩
      rw [AU.follow_slot, he1, hsn]
    · rw [if_neg ha] at h0
      simp at h0
  · rw [if_pos hr] at h0
    exact absurd h0 hr
theorem AU.run_at {ts : List Tk} {n i : Nat} {m : Mo} {l : List Ev} {e : Ev} (h : l[i]? = some e) : AU.run ts n i m (l.drop i) = if (AU.exam ts n m e).1 ≠ 0 then (some (i, (AU.exam ts n m e).1), m) else AU.run ts n (i + 1) (AU.exam ts n m e).2 (l.drop (i + 1)) := by
  obtain ⟨h1, h2⟩ := List.getElem?_eq_some_iff.1 h
  rw [List.drop_eq_getElem_cons h1, h2, AU.run]
theorem ev_at {w : World} {A : Option Addr} {l : List Ev} (h : Row w A (evC l)) {k : Nat} {e : Ev} (hk : l[k]? = some e) :
    ∃ b o, A = some ⟨b, o, none⟩ ∧ b < w.heap.size ∧ w.cell? ⟨b, o + k * 8, none⟩ = some (.int .i64 e.slot) ∧ w.cell? ⟨b, o + k * 8 + 1, none⟩ = some (.int .i64 e.core) ∧ w.cell? ⟨b, o + k * 8 + 2, none⟩ = some (.int .i64 e.task) ∧ w.cell? ⟨b, o + k * 8 + 3, none⟩ = some (.int .i64 e.job) ∧
      w.cell? ⟨b, o + k * 8 + 4, none⟩ = some (.int .u8 (e.kind : Int)) ∧ w.cell? ⟨b, o + k * 8 + 5, none⟩ = some (.int .i64 e.value) ∧ w.cell? ⟨b, o + k * 8 + 6, none⟩ = some (.int .i64 e.cycle) ∧ w.cell? ⟨b, o + k * 8 + 7, none⟩ = some (.int .i64 e.port) := by
  have ha : ∀ m, m < 8 → (evC l)[k * 8 + m]? = ((evV e).toList)[m]? := fun m hm => flat_at 8 (fun e => (evV e).toList) (fun _ => rfl) l k m e hk hm
  obtain ⟨b, o, hA, hb, hc⟩ := h (fun x => by have := ha 0 (by omega); rw [x] at this; simp [evV] at this)
  exact ⟨b, o, hA, hb, hc _ _ (ha 0 (by omega)), hc (k * 8 + 1) _ (ha 1 (by omega)), hc (k * 8 + 2) _ (ha 2 (by omega)), hc (k * 8 + 3) _ (ha 3 (by omega)), hc (k * 8 + 4) _ (ha 4 (by omega)), hc (k * 8 + 5) _ (ha 5 (by omega)), hc (k * 8 + 6) _ (ha 6 (by omega)), hc (k * 8 + 7) _ (ha 7 (by omega))⟩
/-- What a check finds, as a slice. -/
def FindV (w : World) (v : Value) (f : Option (Nat × Nat)) : Prop := match f with
  | none => v = .slice none 0 0
  | some (i, r) => ∃ g, v = .slice (some ⟨g, 0, none⟩) 1 1 ∧ Blk w g 39 #[.int .i64 (i : Int), .int .i64 (r : Int)]
theorem AU.check_some (ts : List Tk) (cores : Int) (l : List Ev) (h : (SL.okTs ts && decide (1 ≤ cores) && decide (cores ≤ 4)) = false) : AU.check ts cores l = some (0, 0) := by
  unfold AU.check
  rw [h]
  rfl
def ChkRel (w : World) (X : Aud) (gm gp : Nat) (l : List Ev) (T : Option (Nat × Nat) × Mo) (iv : Value) (W : World) : Prop :=
  ∃ (i : Nat) (m : Mo), i ≤ l.length ∧ iv = .int .i64 (i : Int) ∧ AInv w X gm gp m W ∧ AU.Inv X.ts X.n i m ∧ m.req.length ≤ 1000 ∧ AU.run X.ts X.n i m (l.drop i) = T ∧ (∀ e, 0 < i → l[i - 1]? = some e → e.slot = (m.slot : Int))
section
set_option maxHeartbeats 4000000
set_option maxRecDepth 100000
theorem acheck_any (ts : List Tk) (A : Option Addr) (c : Nat) (cores : Int) (l : List Ev) (tA : Option Addr) (tc : Nat) (w : World) (hr : Row w A (tkRow ts)) (ht : Row w tA (evC l)) (hl : l.length ≤ 1000000) :
    Calls Tryz.prog 11 #[.slice A ts.length c, .int .i64 cores, .slice tA l.length tc] w fun e w' => ∃ v, e = .returned v ∧ FindV w' v (AU.check ts cores l) ∧ Below w.heap.size w w' := by
  have hnot : ∀ (x : Bool) (w : World), (Op.unary .not (.bool x)).run Tryz.prog w = .ok (.bool (!x)) w := fun _ _ => rfl
  have HVT := Lib.hid (tsvalid_any ts A ts.length c w rfl hr)
  have HR := Lib.hid hr
  have HT := Lib.hid ht
  have hcs := AU.check_some ts cores l
  have hck : (SL.okTs ts && decide (1 ≤ cores) && decide (cores ≤ 4)) = true → AU.check ts cores l = match AU.run ts cores.toNat 0 (AU.mo0 ts.length) l with
      | (some x, _) => some x
      | (none, m) => AU.fin ts cores.toNat m l.length := fun h => by
    unfold AU.check
    rw [h]
    rfl
  generalize AU.check ts cores l = F at *
  have hokt : SL.okTs ts = true → (∀ t ∈ ts, SL.okTk t = true) ∧ ts.length ≤ 40 := fun h => by
    unfold SL.okTs at h
    simp only [Bool.and_eq_true, decide_eq_true_eq, List.all_eq_true] at h
    exact ⟨h.2, h.1⟩
  generalize SL.okTs ts = ok at *
  have HCS := Lib.hid hcs
  have HCK := Lib.hid hck
  have HOKT := Lib.hid hokt
  clear hr ht hcs hck hokt
  go_enter Tryz.func11, Tryz.ntmps11
  go_wp2_with fail
  refine HVT.out.mono ?_
  rintro e w1 ⟨rfl, hg1⟩
  have HG1 := Lib.hid hg1
  clear hg1 HVT
  cases ok with
  | false =>
    have HF := Lib.hid (show F = some (0, 0) from HCS.out (by simp))
    clear HCS HCK HOKT
    go_wp2_with fail
    go_ret
    refine ⟨_, rfl, ?_, (HG1.out.alloc _).1⟩
    rw [HF.out]
    exact ⟨_, rfl, Blk.new _ _ _⟩
  | true =>
    by_cases h1 : cores < 1
    · have d1 : decide (cores < 1) = true := decide_eq_true h1
      have HF := Lib.hid (show F = some (0, 0) from HCS.out (by rw [decide_eq_false (show ¬ 1 ≤ cores by omega)]; simp))
      clear HCS HCK HOKT
      go_wp2_with fail
      go_ret
      refine ⟨_, rfl, ?_, (HG1.out.alloc _).1⟩
      rw [HF.out]
      exact ⟨_, rfl, Blk.new _ _ _⟩
    · have d1 : decide (cores < 1) = false := decide_eq_false h1
      by_cases h4 : (4 : Int) < cores
      · have d2 : decide ((4 : Int) < cores) = true := decide_eq_true h4
        have HF := Lib.hid (show F = some (0, 0) from HCS.out (by rw [decide_eq_false (show ¬ cores ≤ 4 by omega)]; simp))
        clear HCS HCK HOKT
        go_wp2_with fail
        go_ret
        refine ⟨_, rfl, ?_, (HG1.out.alloc _).1⟩
        rw [HF.out]
        exact ⟨_, rfl, Blk.new _ _ _⟩
      · have d2 : decide ((4 : Int) < cores) = false := decide_eq_false h4
        obtain ⟨n, rfl⟩ : ∃ n : Nat, cores = (n : Int) := ⟨cores.toNat, by omega⟩
        obtain ⟨hall, h40⟩ := HOKT.out rfl
        have hF := HCK.out (by rw [decide_eq_true (show (1 : Int) ≤ n by omega), decide_eq_true (show (n : Int) ≤ 4 by omega)]; rfl)
        rw [Int.toNat_natCast] at hF
        have hX : AudOk w1 ⟨ts, A, c, n⟩ := ⟨hall, h40, by show 1 ≤ n; omega, by show n ≤ 4; omega, HR.out.below HG1.out.1⟩
        have HX := Lib.hid hX
        have HF := Lib.hid hF
        have HST := Lib.hid (audStart_any ⟨ts, A, c, n⟩ w1 hX)
        rw [show (Aud.tv ⟨ts, A, c, n⟩) = .slice A ts.length c from rfl] at HST
        have HAL := Lib.hid hall
        clear hX hF hall HCS HCK HOKT
        go_wp2_with fail
        refine HST.out.mono ?_
        rintro e w2 ⟨gm, gp, rfl, hI2⟩
        have HD0 := Lib.hid (show ChkRel w1 ⟨ts, A, c, n⟩ gm gp l (AU.run ts n 0 (AU.mo0 ts.length) l) (.int .i64 0) w2 from
          ⟨0, _, Nat.zero_le _, rfl, hI2, AU.inv0 ts n HAL.out, by simp [AU.mo0], by rw [List.drop_zero], fun e h => absurd h (by omega)⟩)
        generalize AU.run ts n 0 (AU.mo0 ts.length) l = T at *
        have hg1s := HG1.out.size
        clear hI2 HST
        go_wp2_with fail
        go_loopw [30] (fun iv wr => ChkRel w1 ⟨ts, A, c, n⟩ gm gp l T iv wr) (fun iv _ => l.length - (intOf iv).toNat)
        case atStart => exact HD0.out
        case round =>
          obtain ⟨i, m, hi, rfl, hI, hv, hq, hrun, hsl⟩ := hrel
          have HI := Lib.hid hI
          have HV := Lib.hid hv
          have HSL := Lib.hid hsl
          have hbw : Below w.heap.size w wr := HG1.out.1.trans (hI.be.mono hg1s)
          clear HD0
          by_cases hil : i < l.length
          · have q0 : (i : Int) < (l.length : Int) := by omega
            obtain ⟨e, he⟩ : ∃ e, l[i]? = some e := ⟨_, List.getElem?_eq_getElem hil⟩
            have hrun : (if (AU.exam ts n m e).1 ≠ 0 then (some (i, (AU.exam ts n m e).1), m) else AU.run ts n (i + 1) (AU.exam ts n m e).2 (l.drop (i + 1))) = T := by rw [← AU.run_at he]; exact hrun
            obtain ⟨b, o, rfl, hb, x0, x1, x2, x3, x4, x5, x6, x7⟩ := ev_at (HT.out.below hbw) he
            have hba := ((Gr.refl wr).alloc (.cells #[.int .i64 e.slot, .int .i64 e.core, .int .i64 e.task, .int .i64 e.job, .int .u8 (e.kind : Int), .int .i64 e.value, .int .i64 e.cycle, .int .i64 e.port] 26)).1
            have hexa := examine_any HX.out (hI.below hba) e i (by omega) hv hq
            rw [show evV e = #[.int .i64 e.slot, .int .i64 e.core, .int .i64 e.task, .int .i64 e.job, .int .u8 (e.kind : Int), .int .i64 e.value, .int .i64 e.cycle, .int .i64 e.port] from rfl, show (Aud.ts ⟨ts, A, c, n⟩) = ts from rfl, show (Aud.n ⟨ts, A, c, n⟩) = n from rfl] at hexa
            have HEX := Lib.hid hexa
            clear hexa
            have hex : (AU.exam ts n m e).1 = 0 → AU.Inv ts n (i + 1) (AU.exam ts n m e).2 ∧ (AU.exam ts n m e).2.req.length ≤ 1000 ∧ ((AU.exam ts n m e).2.slot : Int) = e.slot := fun h0 => AU.exam_inv (e := e) hv HAL.out h40 HX.out.n4 hq h0
            have HRX := Lib.hid hex
            have HRUN := Lib.hid hrun
            have HBW := Lib.hid hbw
            have HE := Lib.hid he
            clear hI hv hsl hbw hba hex hrun he hq
            obtain ⟨y0, y1, y2, y3, y4, y5, y6, y7⟩ := (Blk.new wr 26 #[.int .i64 e.slot, .int .i64 e.core, .int .i64 e.task, .int .i64 e.job, .int .u8 (e.kind : Int), .int .i64 e.value, .int .i64 e.cycle, .int .i64 e.port]).eight
            generalize hXX : AU.exam ts n m e = XX at *
            obtain ⟨ru, m1⟩ := XX
            simp only at HEX HRX HRUN
            go_wp2_with fail
            refine HEX.out.mono ?_
            rintro r w5 ⟨rfl, hI5⟩
            have HI5 := Lib.hid hI5
            clear hI5 HEX x0 x1 x2 x3 x4 x5 x6 x7 y0 y1 y2 y3 y4 y5 y6 y7
            by_cases hr0 : ru = 0
            · subst hr0
              obtain ⟨hv2, hq2, hs2⟩ := HRX.out rfl
              have hrn := HRUN.out
              simp only [ne_eq, not_true_eq_false, if_false] at hrn
              have HRN := Lib.hid hrn
              have HREL := Lib.hid (show ChkRel w1 ⟨ts, A, c, n⟩ gm gp l T (.int .i64 ((i : Int) + 1)) w5 from ⟨i + 1, m1, by omega, by simp, HI5.out, hv2, hq2, hrn, fun e' _ h' => by
                rw [show i + 1 - 1 = i from by omega, HE.out] at h'
                injection h' with h'
                rw [← h', hs2]⟩)
              clear HRX HRUN hv2 hq2 hs2 hrn HRN
              go_wp2_with fail
              exact ⟨HREL.out, by simp [intOf]; omega⟩
            · have n1 : ((ru : Int) != 0) = true := by simp; omega
              have hrn := HRUN.out
              rw [if_pos hr0] at hrn
              have HFF := Lib.hid (show F = some (i, ru) by rw [HF.out, ← hrn])
              clear HRX HRUN hrn hr0
              go_wp2_with fail
              go_ret
              refine ⟨_, rfl, ?_, ?_⟩
              · rw [HFF.out]
                exact ⟨_, rfl, Blk.new _ _ _⟩
              · exact (HG1.out.1.trans (HI5.out.be.mono hg1s)).alloc (by have := HI5.out.be.size; omega) _
          · have q0 : ¬ (i : Int) < (l.length : Int) := by omega
            have hie : i = l.length := by omega
            rw [List.drop_of_length_le (by omega), AU.run] at hrun
            have HFF := Lib.hid (show F = AU.fin ts n m l.length by rw [HF.out, ← hrun])
            clear hrun hI hv hsl
            by_cases hz : l.length = 0
            · have z0 : (l.length : Int) = 0 := by omega
              have q9 : ¬ 0 < l.length := by omega
              have HF0 := Lib.hid (show F = none by rw [HFF.out]; unfold AU.fin; rw [if_pos hz])
              subst hie
              clear HFF hz
              go_wp2_with fail
              go_ret
              refine ⟨_, rfl, ?_, hbw⟩
              rw [HF0.out]
              rfl
            · have q9 : 0 < l.length := by omega
              have q8 : (0 : Int) < (l.length : Int) := by omega
              obtain ⟨k, hk⟩ : ∃ k, l.length = k + 1 := ⟨l.length - 1, by omega⟩
              obtain ⟨e, he⟩ : ∃ e, l[k]? = some e := ⟨_, List.getElem?_eq_getElem (by omega)⟩
              have hes := HSL.out e (by omega) (by rw [hie, hk]; exact he)
              have HFI := Lib.hid (show F = if (AU.adv ts n m.slot 6 AU.fuel m).1 ≠ 0 then some (l.length, (AU.adv ts n m.slot 6 AU.fuel m).1) else none by rw [HFF.out]; unfold AU.fin; rw [if_neg hz])
              obtain ⟨b, o, rfl, hb, x0, _, _, _, _, _, _, _⟩ := ev_at (HT.out.below hbw) he
              rw [hes] at x0
              have hada := advance_any HX.out HI.out i m.slot 6 (by omega) HV.out HV.out.slot (by omega) (Nat.le_refl _)
              rw [show (Aud.ts ⟨ts, A, c, n⟩) = ts from rfl, show (Aud.n ⟨ts, A, c, n⟩) = n from rfl] at hada
              have HAD := Lib.hid hada
              have z1 : IntKind.i64.wrap ((l.length : Int) - 1) = (k : Int) := by rw [hk]; exact (IntWalk.i64_in _ (by omega)).trans (by omega)
              have q7 : (k : Int) < (l.length : Int) := by omega
              have HLK := Lib.hid hk
              subst hie
              generalize AU.adv ts n m.slot 6 AU.fuel m = RA at *
              obtain ⟨ra, m1⟩ := RA
              simp only at HAD HFI
              clear hada HFF hz hk he hes
              go_wp2_with fail
              refine HAD.out.mono ?_
              rintro r w5 ⟨rfl, hI5, _⟩
              have HI5 := Lib.hid hI5
              clear hI5 HAD x0
              by_cases hr0 : ra = 0
              · have n1 : ((ra : Int) != 0) = false := by simp [hr0]
                have HF0 := Lib.hid (show F = none by rw [HFI.out, if_neg (by simp [hr0])])
                clear HFI hr0
                go_wp2_with fail
                go_ret
                refine ⟨_, rfl, ?_, ?_⟩
                · rw [HF0.out]
                  rfl
                · exact HG1.out.1.trans (HI5.out.be.mono hg1s)
              · have n1 : ((ra : Int) != 0) = true := by simp; omega
                have HF0 := Lib.hid (show F = some (l.length, ra) by rw [HFI.out, if_pos hr0])
                clear HFI hr0
                go_wp2_with fail
                go_ret
                refine ⟨_, rfl, ?_, ?_⟩
                · rw [HF0.out]
                  exact ⟨_, rfl, Blk.new _ _ _⟩
                · exact (HG1.out.1.trans (HI5.out.be.mono hg1s)).alloc (by have := HI5.out.be.size; omega) _
end
end Go.Proofs.YtpmbhdheeaejgaaGreatDoor
