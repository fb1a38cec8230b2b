/- Merged from AuV, AuX, AuW, LawAuChecks. -/
import Derived.Test.YtehdgdlndlamjaaAuU2
import Derived.Test.YtehdgdlndlamjaaAuU4
import Derived.Test.YtehdgdlndlamjaaAuU5
import Derived.Deep.CutRange
import Derived.ProofKit
import Derived.Test.YtehdgdlndlamjaaAuU
import Derived.BigQuiet
import Derived.Maps.AppendAt
import Derived.Test.YtehdgdlndlamjaaAuN
/- The reference examines an event: all phases. -/
namespace Go.Proofs.Ytehdgdlndlamjaa
open Go.RowKit Go.Maps Go.Sort Go.Lib
open SL (Tk Cd)
open AU (Pr Rq Ev Mo)
theorem rexamine_any {B : World} {X : Aud} (hx : AudOk B X) {gm gj : Nat} {m : Mo} {w : World} (hI : RfInv B X gm gj m w) (e : Ev) (J : Nat) (hJ : J ≤ 1000000000) (hv : AU.Inv X.ts X.n J m) :
    Calls Try.prog 19 #[.pointer (some ⟨gm, 0, none⟩), .agg (reV e)] w fun r w' => r = .returned (.int .i64 ((AU.exam X.ts X.n m e).1 : Int)) ∧ ∃ m', RfInv B X gm gj m' w' ∧ ((AU.exam X.ts X.n m e).1 = 0 → m' = (AU.exam X.ts X.n m e).2) := by
  by_cases h2 : AU.phaseOf e.kind = 2
  · exact rexamine_p2 hx hI e J hJ hv h2
  by_cases h4 : AU.phaseOf e.kind = 4
  · exact rexamine_p4 hx hI e J hJ hv h4
  exact rexamine_p5 hx hI e J hJ hv ⟨h2, h4⟩
end Go.Proofs.Ytehdgdlndlamjaa
/- A valid set of tasks, as the reference sees it; the law's conversions of tasks and events. -/
namespace Go.Proofs.Ytehdgdlndlamjaa
open Go.RowKit Go.Maps Go.Sort Go.Lib
open SL (Tk)
open AU (Ev)
theorem infoTk1 : (Try.prog.info? 59).map (fun i => (i.zero, i.size, i.bytes)) = some (some (.agg #[.string ⟨#[]⟩, .int .i64 0, .int .i64 0]), 3, 32) := by kernel_rfl
theorem infoRe1 : (Try.prog.info? 54).map (fun i => (i.zero, i.size, i.bytes)) = some (some (.agg #[.int .i64 0, .int .i64 0, .int .i64 0, .int .i64 0, .int .u8 0, .int .i64 0]), 6, 48) := by kernel_rfl
theorem row_own {w : World} {base : Nat} {e : TypeId} {size n c : Nat} {A : Option Addr} {xs : List Value} (h : w.ownsRow base e size (.slice A n c) n xs) : Row w A xs := fun hn => by
  have hn0 : 0 < n := by
    rcases Nat.eq_zero_or_pos n with h0 | h0
    · have := h.1
      rw [h0] at this
      simp at this
      exact absurd this hn
    · exact h0
  obtain ⟨g, cap, hv, _, hlt, _, hc⟩ := own_cells h hn0
  injection hv with hA
  subst hA
  exact ⟨g, 0, rfl, hlt, fun i v hi => by rw [Nat.zero_add]; exact hc i v hi⟩
def rvC (l : List Ev) : List Value := l.flatMap fun e => (reV e).toList
theorem rev_at {w : World} {A : Option Addr} {l : List Ev} (h : Row w A (rvC l)) {k : Nat} {e : Ev} (hk : l[k]? = some e) :
    ∃ b o, A = some ⟨b, o, none⟩ ∧ b < w.heap.size ∧ w.cell? ⟨b, o + k * 6, none⟩ = some (.int .i64 e.slot) ∧ w.cell? ⟨b, o + k * 6 + 1, none⟩ = some (.int .i64 e.core) ∧ w.cell? ⟨b, o + k * 6 + 2, none⟩ = some (.int .i64 e.task) ∧ w.cell? ⟨b, o + k * 6 + 3, none⟩ = some (.int .i64 e.job) ∧
      w.cell? ⟨b, o + k * 6 + 4, none⟩ = some (.int .u8 (e.kind : Int)) ∧ w.cell? ⟨b, o + k * 6 + 5, none⟩ = some (.int .i64 e.value) := by
  have ha : ∀ m, m < 6 → (rvC l)[k * 6 + m]? = ((reV e).toList)[m]? := fun m hm => flat_at 6 (fun e => (reV e).toList) (fun _ => rfl) l k m e hk hm
  obtain ⟨b, o, hA, hb, hc⟩ := h (fun x => by have := ha 0 (by omega); rw [x] at this; simp [reV] at this)
  exact ⟨b, o, hA, hb, hc _ _ (ha 0 (by omega)), hc (k * 6 + 1) _ (ha 1 (by omega)), hc (k * 6 + 2) _ (ha 2 (by omega)), hc (k * 6 + 3) _ (ha 3 (by omega)), hc (k * 6 + 4) _ (ha 4 (by omega)), hc (k * 6 + 5) _ (ha 5 (by omega))⟩
section
set_option maxHeartbeats 4000000
set_option maxRecDepth 100000
theorem rtsvalid_any (l : List Tk) (A : Option Addr) (n c : Nat) (w : World) (hN : l.length = n) (hr : Row w A (tkRow l)) :
    Calls Try.prog 17 #[.slice A n c] w fun e w' => e = .returned (.bool (SL.okTs l)) ∧ ∃ q, w' = w.drewN q := by
  have hok : SL.okTs l = (decide (l.length ≤ 40) && l.all SL.okTk) := rfl
  generalize SL.okTs l = R at *
  by_cases hbig : 40 < n
  · have e1 : decide ((40 : Int) < (n : Int)) = true := by simp; omega
    have HR := Lib.hid (show R = false by rw [hok, decide_eq_false (by omega)]; rfl)
    clear hok
    go_enter Try.func17, Try.ntmps17
    go_wp2_with fail
    go_ret
    rw [HR.out]
    exact ⟨rfl, 0, rfl⟩
  have e1 : decide ((40 : Int) < (n : Int)) = false := by simp; omega
  have HR := Lib.hid (show R = l.all SL.okTk by rw [hok, decide_eq_true (by omega), Bool.true_and])
  have HN := Lib.hid hN
  have HRW := Lib.hid hr
  clear hok hN hr
  go_enter Try.func17, Try.ntmps17
  go_wp2_with fail
  go_loopw [3] (fun v wr => ∃ k q : Nat, k ≤ n ∧ v = .int .i64 (k : Int) ∧ (l.take k).all SL.okTk = true ∧ wr = w.drewN q) (fun v _ => n - (intOf v).toNat)
  case atStart => exact ⟨0, 0, Nat.zero_le _, rfl, rfl, rfl⟩
  case round =>
    obtain ⟨k, q, hk, rfl, hall, hwr⟩ := hrel
    have HW := Lib.hid hwr
    by_cases hlt : k < n
    · obtain ⟨t, ht⟩ : ∃ t, l[k]? = some t := ⟨_, List.getElem?_eq_getElem (by rw [HN.out]; exact hlt)⟩
      obtain ⟨rb, ro, rfl, hrb, c00, c01, c02⟩ := HRW.out.tk ht
      have c0 : wr.cell? ⟨rb, ro + k * 3 + 1, none⟩ = some (.int .i64 t.cost) := by rw [hwr]; exact c01
      have c1 : wr.cell? ⟨rb, ro + k * 3 + 2, none⟩ = some (.int .i64 t.per) := by rw [hwr]; exact c02
      have q0 : (k : Int) < (n : Int) := by omega
      have htk : l.take (k + 1) = l.take k ++ [t] := by
        obtain ⟨h1, h2⟩ := List.getElem?_eq_some_iff.1 ht
        rw [List.take_succ_eq_append_getElem h1, h2]
      have hmem := List.mem_of_getElem? ht
      have HALL := Lib.hid hall
      have HTK := Lib.hid htk
      clear hall htk ht hwr c00 c01 c02 hrb
      cases hv : SL.okTk t with
      | true =>
        obtain ⟨v1, v2, v3⟩ := SL.okTk_iff.1 hv
        have d1 : decide (t.cost < 1) = false := decide_eq_false (by omega)
        have d2 : decide (t.per < t.cost) = false := decide_eq_false (by omega)
        have d3 : decide ((1000 : Int) < t.per) = false := decide_eq_false (by omega)
        have HV := Lib.hid hv
        clear hv v1 v2 v3 hmem
        go_wp2_with fail
        go_quiet (fail)
        go_wp2_with fail
        refine ⟨⟨k + 1, q + nq, hlt, by simp, ?_, by rw [HW.out, World.drewN_drewN]⟩, by simp [intOf]; omega⟩
        rw [HTK.out, List.all_append, HALL.out]
        simp [HV.out]
      | false =>
        have HRF := Lib.hid (show R = false by rw [HR.out, List.all_eq_false]; exact ⟨t, hmem, by simp [hv]⟩)
        have hcs : decide (t.cost < 1) = true ∨ (decide (t.cost < 1) = false ∧ (decide (t.per < t.cost) = true ∨ (decide (t.per < t.cost) = false ∧ decide ((1000 : Int) < t.per) = true))) := by
          have := SL.okTk_iff (t := t)
          rw [hv] at this
          simp only [Bool.false_eq_true, false_iff] at this
          simp only [decide_eq_true_eq, decide_eq_false_iff_not]
          omega
        clear hv hmem
        rcases hcs with d1 | ⟨d1, d2 | ⟨d2, d3⟩⟩
        all_goals
          go_wp2_with fail
          go_quiet (fail)
          go_wp2_with fail
          go_ret
          rw [HRF.out]
          exact ⟨rfl, q + nq, by rw [HW.out, World.drewN_drewN]⟩
    · have q1 : ¬ (k : Int) < (n : Int) := by omega
      have hall' : R = true := by rw [HR.out, ← hall, List.take_of_length_le (by rw [HN.out]; omega)]
      have HRT := Lib.hid hall'
      clear hall' hall hwr
      go_wp2_with fail
      go_ret
      rw [HRT.out]
      exact ⟨rfl, q, HW.out⟩
theorem plain_any (l : List Tk) (A : Option Addr) (c : Nat) (w : World) (h : Row w A (tkRow l)) (hl : l.length ≤ 1000000) :
    Calls Try.prog 9 #[.slice A l.length c] w fun e w' => ∃ A' c', e = .returned (.slice A' l.length c') ∧ Row w' A' (tkRow l) ∧ Below w.heap.size w w' := by
  obtain ⟨i1, ki, kz0, kz1, kz2⟩ := info_parts infoTk1
  have K0 := Lib.hid ki
  have K1 := Lib.hid kz0
  have K2 := Lib.hid kz1
  have K3 := Lib.hid kz2
  have H := Lib.hid h
  clear ki kz0 kz1 kz2 h
  go_enter Try.func9, Try.ntmps9
  go_wp2_with fail
  go_loopw [3, 8] (fun v i wr => ∃ k : Nat, k ≤ l.length ∧ i = .int .i64 (k : Int) ∧ wr.ownsRow w.heap.size 59 3 v k (tkRow (l.take k)) ∧ Below w.heap.size w wr) (fun _ i _ => l.length - (intOf i).toNat)
  case atStart => exact ⟨0, Nat.zero_le _, rfl, World.ownsRow_nil _ _ _ _, Below.refl _ _⟩
  case round =>
    obtain ⟨k, hk, rfl, hown, hbw⟩ := hrel
    obtain ⟨A3, c3, rfl⟩ := own_form hown
    have HO := Lib.hid hown
    have HB := Lib.hid hbw
    have hsw := hbw.size
    by_cases hlt : k < l.length
    · have q0 : (k : Int) < (l.length : Int) := by omega
      obtain ⟨t, ht⟩ : ∃ t, l[k]? = some t := ⟨_, List.getElem?_eq_getElem hlt⟩
      obtain ⟨b, o, rfl, _, c0, c1, c2⟩ := (H.out.below hbw).tk ht
      have htk : l.take (k + 1) = l.take k ++ [t] := by
        obtain ⟨h1, h2⟩ := List.getElem?_eq_some_iff.1 ht
        rw [List.take_succ_eq_append_getElem h1, h2]
      have HTK := Lib.hid htk
      clear htk hown hbw ht
      go_wp2_with (at_builtin; refine wpList_append_own _ rfl _ _ 30 rfl w.heap.size 59 i1 (.agg #[.string ⟨#[]⟩, .int .i64 0, .int .i64 0]) 3 32 Try.underlying30 K0.out K1.out K2.out K3.out rfl (by decide) _ _ _ rfl ((HO.out.alloc _).alloc _) ⟨wr.heap.size + 1, 0, none⟩ 1 1 [.string t.name, .int .i64 t.cost, .int .i64 t.per] rfl rfl ?c1 ?c2 ?c3 ?c4 ?c5 ?_)
      case c1 => exact World.news_of_block (cs := #[.string t.name, .int .i64 t.cost, .int .i64 t.per]) (blk_second wr _ _ _ _)
      case c2 => intro u hu; simp at hu; rcases hu with rfl | rfl | rfl <;> rfl
      case c3 => unfold maxLen; omega
      case c4 => omega
      case c5 => simp; omega
      intro v' w6 hown6 hg6 _
      have hlt6 := ((HO.out.alloc (.cells #[.string t.name, .int .i64 t.cost, .int .i64 t.per] 43)).alloc (.cells #[.string t.name, .int .i64 t.cost, .int .i64 t.per] 59)).lt
      have hB6 : Below w.heap.size w w6 := Below.grown ((HB.out.alloc hsw (.cells #[.string t.name, .int .i64 t.cost, .int .i64 t.per] 43)).alloc (by simp; omega) (.cells #[.string t.name, .int .i64 t.cost, .int .i64 t.per] 59)) hg6 (by simp; omega) (fun k hk => (hlt6 k hk).1)
      have HB6 := Lib.hid hB6
      have HR6 := Lib.hid (show w6.ownsRow w.heap.size 59 3 v' (k + 1) (tkRow (l.take (k + 1))) from (by
        rw [HTK.out]
        have h := hown6
        simpa [tkRow, tkV] using h))
      clear hown6 hg6 hlt6 hB6
      go_wp2_with fail
      exact ⟨⟨k + 1, hlt, by simp, HR6.out, HB6.out⟩, by simp [intOf]; omega⟩
    · have q0 : ¬ (k : Int) < (l.length : Int) := by omega
      have hkl : k = l.length := by omega
      subst hkl
      have hr := row_own HO.out
      rw [List.take_length] at hr
      have HR := Lib.hid hr
      clear hr hown hbw
      go_wp2_with fail
      go_ret
      exact ⟨A3, ⟨c3, rfl⟩, HR.out, HB.out⟩
theorem bare_any (l : List Ev) (A : Option Addr) (c : Nat) (w : World) (h : Row w A (evC l)) (hl : l.length ≤ 1000000) :
    Calls Try.prog 10 #[.slice A l.length c] w fun e w' => ∃ A' c', e = .returned (.slice A' l.length c') ∧ Row w' A' (rvC l) ∧ Below w.heap.size w w' := by
  obtain ⟨i1, ki, kz0, kz1, kz2⟩ := info_parts infoRe1
  have K0 := Lib.hid ki
  have K1 := Lib.hid kz0
  have K2 := Lib.hid kz1
  have K3 := Lib.hid kz2
  have H := Lib.hid h
  clear ki kz0 kz1 kz2 h
  go_enter Try.func10, Try.ntmps10
  go_wp2_with fail
  go_loopw [3, 8] (fun v i wr => ∃ k : Nat, k ≤ l.length ∧ i = .int .i64 (k : Int) ∧ wr.ownsRow w.heap.size 54 6 v k (rvC (l.take k)) ∧ Below w.heap.size w wr) (fun _ i _ => l.length - (intOf i).toNat)
  case atStart => exact ⟨0, Nat.zero_le _, rfl, World.ownsRow_nil _ _ _ _, Below.refl _ _⟩
  case round =>
    obtain ⟨k, hk, rfl, hown, hbw⟩ := hrel
    obtain ⟨A3, c3, rfl⟩ := own_form hown
    have HO := Lib.hid hown
    have HB := Lib.hid hbw
    have hsw := hbw.size
    by_cases hlt : k < l.length
    · have q0 : (k : Int) < (l.length : Int) := by omega
      obtain ⟨t, ht⟩ : ∃ t, l[k]? = some t := ⟨_, List.getElem?_eq_getElem hlt⟩
      obtain ⟨b, o, rfl, _, c0, c1, c2, c3, c4, c5, c6, c7⟩ := ev_at (H.out.below hbw) ht
      have htk : l.take (k + 1) = l.take k ++ [t] := by
        obtain ⟨h1, h2⟩ := List.getElem?_eq_some_iff.1 ht
        rw [List.take_succ_eq_append_getElem h1, h2]
      have HTK := Lib.hid htk
      clear htk hown hbw ht
      go_wp2_with (at_builtin; refine wpList_append_own _ rfl _ _ 32 rfl w.heap.size 54 i1 (.agg #[.int .i64 0, .int .i64 0, .int .i64 0, .int .i64 0, .int .u8 0, .int .i64 0]) 6 48 Try.underlying32 K0.out K1.out K2.out K3.out rfl (by decide) _ _ _ rfl ((HO.out.alloc _).alloc _) ⟨wr.heap.size + 1, 0, none⟩ 1 1 [.int .i64 t.slot, .int .i64 t.core, .int .i64 t.task, .int .i64 t.job, .int .u8 (t.kind : Int), .int .i64 t.value] rfl rfl ?c1 ?c2 ?c3 ?c4 ?c5 ?_)
      case c1 => exact World.news_of_block (cs := #[.int .i64 t.slot, .int .i64 t.core, .int .i64 t.task, .int .i64 t.job, .int .u8 (t.kind : Int), .int .i64 t.value]) (blk_second wr _ _ _ _)
      case c2 => intro u hu; simp at hu; rcases hu with rfl | rfl | rfl | rfl | rfl | rfl <;> rfl
      case c3 => unfold maxLen; omega
      case c4 => omega
      case c5 => simp; omega
      intro v' w6 hown6 hg6 _
      have hlt6 := ((HO.out.alloc (.cells #[.int .i64 t.slot, .int .i64 t.core, .int .i64 t.task, .int .i64 t.job, .int .u8 (t.kind : Int), .int .i64 t.value, .int .i64 t.cycle, .int .i64 t.port] 39)).alloc (.cells #[.int .i64 t.slot, .int .i64 t.core, .int .i64 t.task, .int .i64 t.job, .int .u8 (t.kind : Int), .int .i64 t.value] 54)).lt
      have hB6 : Below w.heap.size w w6 := Below.grown ((HB.out.alloc hsw (.cells #[.int .i64 t.slot, .int .i64 t.core, .int .i64 t.task, .int .i64 t.job, .int .u8 (t.kind : Int), .int .i64 t.value, .int .i64 t.cycle, .int .i64 t.port] 39)).alloc (by simp; omega) (.cells #[.int .i64 t.slot, .int .i64 t.core, .int .i64 t.task, .int .i64 t.job, .int .u8 (t.kind : Int), .int .i64 t.value] 54)) hg6 (by simp; omega) (fun k hk => (hlt6 k hk).1)
      have HB6 := Lib.hid hB6
      have HR6 := Lib.hid (show w6.ownsRow w.heap.size 54 6 v' (k + 1) (rvC (l.take (k + 1))) from (by
        rw [HTK.out]
        have h := hown6
        simpa [rvC, reV] using h))
      clear hown6 hg6 hlt6 hB6
      go_wp2_with fail
      exact ⟨⟨k + 1, hlt, by simp, HR6.out, HB6.out⟩, by simp [intOf]; omega⟩
    · have q0 : ¬ (k : Int) < (l.length : Int) := by omega
      have hkl : k = l.length := by omega
      subst hkl
      have hr := row_own HO.out
      rw [List.take_length] at hr
      have HR := Lib.hid hr
      clear hr hown hbw
      go_wp2_with fail
      go_ret
      exact ⟨A3, ⟨c3, rfl⟩, HR.out, HB.out⟩
end
end Go.Proofs.Ytehdgdlndlamjaa
/- The reference's check of a trace. -/
namespace Go.Proofs.Ytehdgdlndlamjaa
open Go.RowKit Go.Maps Go.Sort Go.Lib
open SL (Tk Cd)
open AU (Pr Rq Ev Mo)
def jr0 : Jr := ⟨AU.pr0, 0, 0⟩
theorem infoJr : (Try.prog.info? 73).map (fun i => (i.zero, i.size, i.bytes)) = some (some (.agg #[.int .i64 0, .int .i64 0, .int .i64 0, .int .i64 0, .int .i64 0, .bool false]), 6, 48) := by kernel_rfl
theorem jr0_made (n : Nat) : madeCells #[.int .i64 0, .int .i64 0, .int .i64 0, .int .i64 0, .int .i64 0, .bool false] (n * 6) = jrC (List.replicate n jr0) := by
  rw [show (#[.int .i64 0, .int .i64 0, .int .i64 0, .int .i64 0, .int .i64 0, .bool false] : Array Value) = [Value.int .i64 0, .int .i64 0, .int .i64 0, .int .i64 0, .int .i64 0, .bool false].toArray from rfl, made_flat' _ 6 rfl]
  unfold jrC
  congr 1
  induction n with
  | zero => rfl
  | succ n ih => rw [List.replicate_succ, List.replicate_succ, List.flatMap_cons, List.flatMap_cons, ih]; rfl
def chkT : Option (Nat × Nat) → Value
  | none => .tuple #[.int .i64 0, .int .i64 0, .bool false]
  | some (i, r) => .tuple #[.int .i64 (i : Int), .int .i64 (r : Int), .bool true]
def RChkRel (w : World) (X : Aud) (gm gp : Nat) (l : List Ev) (T : Option (Nat × Nat) × Mo) (iv : Value) (W : World) : Prop :=
  ∃ (i : Nat) (m : Mo), i ≤ l.length ∧ iv = .int .i64 (i : Int) ∧ RfInv w X gm gp m W ∧ AU.Inv X.ts X.n i m ∧ m.req.length ≤ 1000 ∧ AU.run X.ts X.n i m (l.drop i) = T
def RFinRel (w : World) (X : Aud) (gm gp J s : Nat) (RA : Nat × Mo) (W : World) : Prop :=
  ∃ (m : Mo) (k : Nat), RfInv w X gm gp m W ∧ AU.Inv X.ts X.n J m ∧ AU.adv X.ts X.n s 6 k m = RA ∧ m.slot = s ∧ 6 ≤ m.phase + k
section
set_option maxHeartbeats 4000000
set_option maxRecDepth 100000
theorem rnew_any (X : Aud) (w : World) (hx : AudOk w X) :
    Calls Try.prog 18 #[X.tv, .int .i64 (X.n : Int)] w fun e w' => ∃ gm gj, e = .returned (.pointer (some ⟨gm, 0, none⟩)) ∧ RfInv w X gm gj (AU.mo0 X.ts.length) w' := by
  obtain ⟨i1, ki, kz0, kz1, kz2⟩ := info_parts infoJr
  have hn := hx.len
  have hmk : ∀ W : World, (Instr.makeSlice 55 (.int .i64 (X.ts.length : Int)) (.int .i64 (X.ts.length : Int))).run Try.prog W = .ok (.slice (some ⟨W.heap.size, 0, none⟩) X.ts.length X.ts.length) (W.alloc (.cells (jrC (List.replicate X.ts.length jr0)) 73)) := fun W => by
    have h := run_make (P := Try.prog) W 55 73 i1 _ Try.underlying55 ki kz0 .i64 .i64 (X.ts.length : Int) (X.ts.length : Int) (by omega) (by omega) (by rw [kz2]; omega) (by omega)
    rw [kz1, Int.toNat_natCast] at h
    rw [← jr0_made]
    exact h
  have HM := Lib.hid hmk
  rw [show X.tv = .slice X.A X.ts.length X.c from rfl]
  clear ki kz0 kz1 kz2
  have hal : AlJ (List.replicate X.ts.length jr0) (List.replicate X.ts.length AU.pr0) := ⟨by rw [List.map_replicate]; rfl, fun x hx => by
    rw [(List.mem_replicate.1 hx).2]
    intro h
    simp [jr0, AU.pr0] at h⟩
  have HF := Lib.hid (show RfInv w X (w.heap.size + 1) w.heap.size (AU.mo0 X.ts.length) ((w.alloc (.cells (jrC (List.replicate X.ts.length jr0)) 73)).alloc (.cells #[.slice X.A X.ts.length X.c, .int .i64 (X.n : Int), .slice (some ⟨w.heap.size, 0, none⟩) X.ts.length X.ts.length, .int .i64 0, .int .i64 1, .slice none 0 0, .int .i64 (-1)] 57)) from
    ⟨(((Gr.refl w).alloc _).alloc _).1, by omega, Nat.le_refl _, ⟨_, hal, (Blk.new w _ _).alloc _⟩, none, 0, 0, blk_second w _ _ _ _, fun h => absurd rfl h, Nat.le_refl _, fun h => absurd rfl h⟩)
  generalize jrC (List.replicate X.ts.length jr0) = JC at *
  clear hx hal
  go_enter Try.func18, Try.ntmps18
  go_wp2_with fail
  go_ret
  exact ⟨_, _, rfl, HF.out⟩
theorem rcheck_any (ts : List Tk) (A : Option Addr) (c : Nat) (cores : Int) (l : List Ev) (tA : Option Addr) (tc : Nat) (w : World) (hr : Row w A (tkRow ts)) (ht : Row w tA (rvC l)) (hl : l.length ≤ 1000000) :
    Calls Try.prog 8 #[.slice A ts.length c, .int .i64 cores, .slice tA l.length tc] w fun e w' => e = .returned (chkT (AU.check ts cores l)) ∧ Below w.heap.size w w' := by
  have hnot : ∀ (x : Bool) (w : World), (Op.unary .not (.bool x)).run Try.prog w = .ok (.bool (!x)) w := fun _ _ => rfl
  have HVT := Lib.hid (rtsvalid_any ts A ts.length c w rfl hr)
  have HR := Lib.hid hr
  have HT := Lib.hid ht
  have hcs := AU.check_some ts cores l
  have hck : (SL.okTs ts && decide (1 ≤ cores) && decide (cores ≤ 4)) = true → AU.check ts cores l = match AU.run ts cores.toNat 0 (AU.mo0 ts.length) l with
      | (some x, _) => some x
      | (none, m) => AU.fin ts cores.toNat m l.length := fun h => by
    unfold AU.check
    rw [h]
    rfl
  generalize AU.check ts cores l = F at *
  have hokt : SL.okTs ts = true → (∀ t ∈ ts, SL.okTk t = true) ∧ ts.length ≤ 40 := fun h => by
    unfold SL.okTs at h
    simp only [Bool.and_eq_true, decide_eq_true_eq, List.all_eq_true] at h
    exact ⟨h.2, h.1⟩
  generalize SL.okTs ts = ok at *
  have HCS := Lib.hid hcs
  have HCK := Lib.hid hck
  have HOKT := Lib.hid hokt
  clear hr ht hcs hck hokt
  go_enter Try.func8, Try.ntmps8
  go_wp2_with fail
  refine HVT.out.mono ?_
  rintro e w1 ⟨rfl, q1, hq1⟩
  have HG1 := Lib.hid (show Below w.heap.size w w1 by rw [hq1]; exact below_drewN (Below.refl _ _) q1)
  clear hq1 HVT
  cases ok with
  | false =>
    have HF := Lib.hid (show F = some (0, 0) from HCS.out (by simp))
    clear HCS HCK HOKT
    go_wp2_with fail
    go_ret3
    exact ⟨by rw [HF.out]; rfl, HG1.out⟩
  | true =>
    by_cases h1 : cores < 1
    · have d1 : decide (cores < 1) = true := decide_eq_true h1
      have HF := Lib.hid (show F = some (0, 0) from HCS.out (by rw [decide_eq_false (show ¬ 1 ≤ cores by omega)]; simp))
      clear HCS HCK HOKT
      go_wp2_with fail
      go_ret3
      exact ⟨by rw [HF.out]; rfl, HG1.out⟩
    · have d1 : decide (cores < 1) = false := decide_eq_false h1
      by_cases h4 : (4 : Int) < cores
      · have d2 : decide ((4 : Int) < cores) = true := decide_eq_true h4
        have HF := Lib.hid (show F = some (0, 0) from HCS.out (by rw [decide_eq_false (show ¬ cores ≤ 4 by omega)]; simp))
        clear HCS HCK HOKT
        go_wp2_with fail
        go_ret3
        exact ⟨by rw [HF.out]; rfl, HG1.out⟩
      · have d2 : decide ((4 : Int) < cores) = false := decide_eq_false h4
        obtain ⟨n, rfl⟩ : ∃ n : Nat, cores = (n : Int) := ⟨cores.toNat, by omega⟩
        obtain ⟨hall, h40⟩ := HOKT.out rfl
        have hF := HCK.out (by rw [decide_eq_true (show (1 : Int) ≤ n by omega), decide_eq_true (show (n : Int) ≤ 4 by omega)]; rfl)
        rw [Int.toNat_natCast] at hF
        have hX : AudOk w1 ⟨ts, A, c, n⟩ := ⟨hall, h40, by show 1 ≤ n; omega, by show n ≤ 4; omega, HR.out.below HG1.out⟩
        have HX := Lib.hid hX
        have HF := Lib.hid hF
        have HST := Lib.hid (rnew_any ⟨ts, A, c, n⟩ w1 hX)
        rw [show (Aud.tv ⟨ts, A, c, n⟩) = .slice A ts.length c from rfl] at HST
        have HAL := Lib.hid hall
        clear hX hF hall HCS HCK HOKT
        go_wp2_with fail
        refine HST.out.mono ?_
        rintro e w2 ⟨gm, gp, rfl, hI2⟩
        have HD0 := Lib.hid (show RChkRel w1 ⟨ts, A, c, n⟩ gm gp l (AU.run ts n 0 (AU.mo0 ts.length) l) (.int .i64 0) w2 from
          ⟨0, _, Nat.zero_le _, rfl, hI2, AU.inv0 ts n HAL.out, by simp [AU.mo0], by rw [List.drop_zero]⟩)
        generalize AU.run ts n 0 (AU.mo0 ts.length) l = T at *
        have hg1s := HG1.out.size
        clear hI2 HST
        go_wp2_with fail
        go_loopw [10] (fun iv wr => RChkRel w1 ⟨ts, A, c, n⟩ gm gp l T iv wr) (fun iv _ => l.length - (intOf iv).toNat)
        case atStart => exact HD0.out
        case round =>
          obtain ⟨i, m, hi, rfl, hI, hv, hq, hrun⟩ := hrel
          have HI := Lib.hid hI
          have HV := Lib.hid hv
          have hbw : Below w.heap.size w wr := HG1.out.trans (hI.be.mono hg1s)
          clear HD0
          by_cases hil : i < l.length
          · have q0 : (i : Int) < (l.length : Int) := by omega
            obtain ⟨e, he⟩ : ∃ e, l[i]? = some e := ⟨_, List.getElem?_eq_getElem hil⟩
            have hrun : (if (AU.exam ts n m e).1 ≠ 0 then (some (i, (AU.exam ts n m e).1), m) else AU.run ts n (i + 1) (AU.exam ts n m e).2 (l.drop (i + 1))) = T := by rw [← AU.run_at he]; exact hrun
            obtain ⟨b, o, rfl, hb, x0, x1, x2, x3, x4, x5⟩ := rev_at (HT.out.below hbw) he
            have hexa := rexamine_any HX.out hI e i (by omega) hv
            rw [show reV e = #[.int .i64 e.slot, .int .i64 e.core, .int .i64 e.task, .int .i64 e.job, .int .u8 (e.kind : Int), .int .i64 e.value] from rfl, show (Aud.ts ⟨ts, A, c, n⟩) = ts from rfl, show (Aud.n ⟨ts, A, c, n⟩) = n from rfl] at hexa
            have HEX := Lib.hid hexa
            clear hexa
            have hex : (AU.exam ts n m e).1 = 0 → AU.Inv ts n (i + 1) (AU.exam ts n m e).2 ∧ (AU.exam ts n m e).2.req.length ≤ 1000 ∧ ((AU.exam ts n m e).2.slot : Int) = e.slot := fun h0 => AU.exam_inv (e := e) hv HAL.out h40 HX.out.n4 hq h0
            have HRX := Lib.hid hex
            have HRUN := Lib.hid hrun
            have HBW := Lib.hid hbw
            clear hI hv hbw hex hrun he hq
            generalize hXX : AU.exam ts n m e = XX at *
            obtain ⟨ru, m1⟩ := XX
            simp only at HEX HRX HRUN
            go_wp2_with fail
            refine HEX.out.mono ?_
            rintro r w5 ⟨rfl, m5, hI5, hm5⟩
            have HI5 := Lib.hid hI5
            clear hI5 HEX x0 x1 x2 x3 x4 x5
            by_cases hr0 : ru = 0
            · have n1 : decide (0 < ru) = false := decide_eq_false (by omega)
              obtain ⟨hv2, hq2, hs2⟩ := HRX.out hr0
              have hrn := HRUN.out
              rw [if_neg (by simp [hr0])] at hrn
              obtain rfl := hm5 hr0
              have HREL := Lib.hid (show RChkRel w1 ⟨ts, A, c, n⟩ gm gp l T (.int .i64 ((i : Int) + 1)) w5 from ⟨i + 1, m5, by omega, by simp, HI5.out, hv2, hq2, hrn⟩)
              clear HRX HRUN hv2 hq2 hs2 hrn hm5 hr0
              go_wp2_with fail
              exact ⟨HREL.out, by simp [intOf]; omega⟩
            · have n1 : decide (0 < ru) = true := decide_eq_true (by omega)
              have hrn := HRUN.out
              rw [if_pos hr0] at hrn
              have HFF := Lib.hid (show F = some (i, ru) by rw [HF.out, ← hrn])
              clear HRX HRUN hrn hr0 hm5
              go_wp2_with fail
              go_ret3
              exact ⟨by rw [HFF.out]; rfl, HG1.out.trans (HI5.out.be.mono hg1s)⟩
          · have q0 : ¬ (i : Int) < (l.length : Int) := by omega
            have hie : i = l.length := by omega
            rw [List.drop_of_length_le (by omega), AU.run] at hrun
            have HFF := Lib.hid (show F = AU.fin ts n m l.length by rw [HF.out, ← hrun])
            have HBW := Lib.hid hbw
            have HRF := Lib.hid (show RFinRel w1 ⟨ts, A, c, n⟩ gm gp i m.slot (AU.adv ts n m.slot 6 AU.fuel m) wr from ⟨m, _, hI, hv, rfl, rfl, by have := hv.ph; unfold AU.fuel; omega⟩)
            have hsl := hv.slot
            generalize hRA : AU.adv ts n m.slot 6 AU.fuel m = RA at *
            have HFI := Lib.hid (show F = if l.length = 0 then none else if RA.1 ≠ 0 then some (l.length, RA.1) else none by rw [HFF.out]; unfold AU.fin; rw [hRA])
            clear hrun hI hv hbw hRA HFF HI HV HF
            subst hie
            generalize m.slot = s at *
            go_wp2_with fail
            go_loopw [] (fun wr => RFinRel w1 ⟨ts, A, c, n⟩ gm gp l.length s RA wr) (fun wr => msr gm wr)
            case atStart => exact HRF.out
            case round =>
              obtain ⟨m2, k, hI, hv, had, hs, hk⟩ := hrel
              have hbw : Below w.heap.size w wr := HG1.out.trans (hI.be.mono hg1s)
              clear HRF
              by_cases hz : l.length = 0
              · have z0 : (l.length : Int) = 0 := by omega
                have q9 : ¬ (0 : Int) < (l.length : Int) := by omega
                have HF0 := Lib.hid (show F = none by rw [HFI.out, if_pos hz])
                clear HFI hz hI hv had
                go_wp2_with fail
                go_ret3
                exact ⟨by rw [HF0.out]; rfl, hbw⟩
              · have q8 : (0 : Int) < (l.length : Int) := by omega
                have hp5 := hv.ph.2
                have hp1 := hv.ph.1
                obtain ⟨k, rfl⟩ : ∃ j, k = j + 1 := ⟨k - 1, by omega⟩
                rw [AU.adv, if_pos (Or.inr (by omega))] at had
                have HI := Lib.hid hI
                have HV := Lib.hid hv
                have HBW := Lib.hid hbw
                obtain ⟨-, -, -, a3, a4, -, hlm⟩ := hI.cells
                cases hq : m2.req with
                | cons r l' =>
                  rw [if_pos (by rw [hq]; simp)] at had
                  have a5 : ∃ A c, wr.cell? ⟨gm, 5, none⟩ = some (.slice A (l'.length + 1) c) := by
                    obtain ⟨A, c, kd, hbm, _⟩ := hI.bm
                    rw [hq] at hbm
                    exact ⟨A, c, hbm.cell 5⟩
                  obtain ⟨A', c', a5⟩ := a5
                  have HRU := Lib.hid (fun W => rrule_any m2.phase (by omega) W)
                  have HF0 := Lib.hid (show F = some (l.length, m2.phase + 2) by rw [HFI.out, if_neg hz, ← had]; simp)
                  clear HFI hz hI hv had hq hbw
                  go_wp2_with fail
                  refine (HRU.out _).mono ?_
                  rintro r w7 ⟨rfl, rfl⟩
                  go_wp2_with fail
                  go_ret3
                  exact ⟨by rw [HF0.out]; rfl, HBW.out⟩
                | nil =>
                  rw [if_neg (by rw [hq]; simp)] at had
                  have a5 : ∃ A c, wr.cell? ⟨gm, 5, none⟩ = some (.slice A 0 c) := by
                    obtain ⟨A, c, hbm⟩ := hI.req0 hq
                    exact ⟨A, c, hbm.cell 5⟩
                  obtain ⟨A', c', a5⟩ := a5
                  by_cases h5 : m2.phase < 5
                  · have n5 : ((m2.phase : Int) == 5) = false := by simp; omega
                    rw [if_pos (Or.inl h5)] at had
                    have HNX := Lib.hid (rnext_any HX.out hI hq l.length (by omega) hv (Or.inl h5))
                    have HM1 := Lib.hid (rmsr_eq hI)
                    have HAD := Lib.hid had
                    have hnx : AU.nxt ts n m2 = ⟨m2.ps, m2.slot, m2.phase + 1, AU.need ts n m2.ps m2.slot (m2.phase + 1), m2.last⟩ := by unfold AU.nxt; rw [if_pos h5]
                    have HSN := Lib.hid (show (AU.nxt ts n m2).slot = s ∧ 6 ≤ (AU.nxt ts n m2).phase + k by rw [hnx]; exact ⟨hs, by simp only; omega⟩)
                    have HIN := Lib.hid (AU.inv_nxt hv (Or.inl h5))
                    clear HFI hz hI hv had hq hbw hnx
                    go_wp2_with fail
                    refine HNX.out.mono ?_
                    rintro r w7 ⟨rfl, h7, hf7⟩
                    have H7 := Lib.hid h7
                    have hmm := AU.nxt_mm ts n m2 HV.out.ph.2
                    have hm2 := rmsr_eq h7
                    have hm1 := HM1.out
                    have hin := HIN.out
                    have HLT := Lib.hid (show msr gm w7 < msr gm wr by
                      have e1 : (Aud.ts ⟨ts, A, c, n⟩) = ts := rfl
                      have e2 : (Aud.n ⟨ts, A, c, n⟩) = n := rfl
                      try rw [e1, e2] at hm2
                      have hb := hin.slot
                      have hb5 := hin.ph.2
                      have hmb : AU.mm (AU.nxt ts n m2) ≤ 500005 := by
                        have e3 := hin.slot
                        unfold AU.mm
                        have e4 : (Aud.ts ⟨ts, A, c, n⟩) = ts := rfl
                        have e5 : (Aud.n ⟨ts, A, c, n⟩) = n := rfl
                        try rw [e4, e5] at e3
                        try rw [e4, e5] at hb5
                        omega
                      omega)
                    have HRR := Lib.hid (show RFinRel w1 ⟨ts, A, c, n⟩ gm gp l.length s RA w7 from ⟨_, k, H7.out, HIN.out, HAD.out, HSN.out.1, HSN.out.2⟩)
                    clear h7 hf7 HNX hmm hm2 hm1 hin
                    go_wp2_with fail
                    exact ⟨HRR.out, HLT.out⟩
                  · have n5 : ((m2.phase : Int) == 5) = true := by simp; omega
                    rw [if_neg (by rw [hs]; omega)] at had
                    have HF0 := Lib.hid (show F = none by rw [HFI.out, if_neg hz, ← had]; simp)
                    clear HFI hz hI hv had hq hbw
                    go_wp2_with fail
                    go_ret3
                    exact ⟨by rw [HF0.out]; rfl, HBW.out⟩
end
end Go.Proofs.Ytehdgdlndlamjaa
/- The walk of AuditChecks. -/
namespace Go.Proofs.Ytehdgdlndlamjaa
open Go.RowKit Go.Maps Go.Sort Go.Lib
open SL (Tk Cd)
open AU (Pr Rq Ev Mo)
section
set_option maxHeartbeats 2000000
set_option maxRecDepth 100000
theorem achecks_walk (ts : List Tk) (A : Option Addr) (c : Nat) (cores : Int) (l : List Ev) (tA : Option Addr) (tc : Nat) (w : World) (hr : Row w A (tkRow ts)) (_hx : -9223372036854775808 ≤ cores ∧ cores ≤ 9223372036854775807) (ht : Row w tA (evC l)) :
    Calls Try.prog 3 #[.slice A ts.length c, .int .i64 cores, .slice tA l.length tc] w fun e w' => e = .returned (.bool true) ∧ Below w.heap.size w w' := by
  have HR := Lib.hid hr
  have HT := Lib.hid ht
  clear hr ht
  go_enter Try.func3, Try.ntmps3
  go_wp2_with fail
  refine (aawake_any _).mono ?_
  rintro e w1 ⟨rfl, hb1⟩
  have HB1 := Lib.hid hb1
  have HG := Lib.hid (agreat_any ts.length c l.length tc A tA w1)
  clear hb1
  go_wp2_with fail
  refine HG.out.mono ?_
  rintro e w2 ⟨rfl, rfl⟩
  clear HG
  by_cases hg : 8 < ts.length ∨ 200 < l.length
  · have d1 : (decide (8 < ts.length) || decide (200 < l.length)) = true := by simp [hg]
    rw [d1]
    clear hg d1
    go_wp2_with fail
    go_ret
    exact ⟨rfl, HB1.out⟩
  have d1 : (decide (8 < ts.length) || decide (200 < l.length)) = false := by simp; omega
  rw [d1]
  have hl8 : ts.length ≤ 8 := by omega
  have hl200 : l.length ≤ 200 := by omega
  clear hg d1
  have HC := Lib.hid (acheck_any ts A c cores l tA tc w2 (HR.out.below HB1.out) (HT.out.below HB1.out) (by omega))
  go_wp2_with fail
  refine HC.out.mono ?_
  rintro e w3 ⟨v, rfl, hf3, hb3⟩
  have HB3 := Lib.hid (HB1.out.trans (hb3.mono HB1.out.size))
  have HF3 := Lib.hid hf3
  have HPL := Lib.hid (plain_any ts A c w3 (HR.out.below HB3.out) (by omega))
  clear hf3 hb3 HC
  have hsl : ∃ g n c, v = .slice g n c := by
    have := HF3.out
    unfold FindV at this
    split at this
    · exact ⟨_, _, _, this⟩
    · obtain ⟨g, h, _⟩ := this
      exact ⟨_, _, _, h⟩
  obtain ⟨g3, n3, c3, rfl⟩ := hsl
  go_wp2_with fail
  refine HPL.out.mono ?_
  rintro e w4 ⟨A4, c4, rfl, hr4, hb4⟩
  have HB4 := Lib.hid (HB3.out.trans (hb4.mono HB3.out.size))
  have HR4 := Lib.hid hr4
  have HBR := Lib.hid (bare_any l tA tc w4 (HT.out.below HB4.out) (by omega))
  have HB34 := Lib.hid hb4
  clear hr4 hb4 HPL
  go_wp2_with fail
  refine HBR.out.mono ?_
  rintro e w5 ⟨A5, c5, rfl, hr5, hb5⟩
  have HB5 := Lib.hid (HB4.out.trans (hb5.mono HB4.out.size))
  have HB35 := Lib.hid (HB34.out.trans (hb5.mono HB34.out.size))
  have HRC := Lib.hid (rcheck_any ts A4 c4 cores l A5 c5 w5 (HR4.out.below hb5) hr5 (by omega))
  clear hr5 hb5 HBR
  generalize AU.check ts cores l = F at *
  cases F with
  | none =>
    have hv := HF3.out
    unfold FindV at hv
    simp only at hv
    injection hv with v1 v2 v3
    subst v1 v2 v3
    rw [show chkT none = .tuple #[.int .i64 0, .int .i64 0, .bool false] from rfl] at HRC
    go_wp2_with fail
    refine HRC.out.mono ?_
    rintro e w6 ⟨rfl, hb6⟩
    have HB6 := Lib.hid (HB5.out.trans (hb6.mono HB5.out.size))
    clear hb6 HRC HF3
    go_wp2_with fail
    go_ret
    exact ⟨rfl, HB6.out⟩
  | some ir =>
    obtain ⟨i, r⟩ := ir
    obtain ⟨g, hv, hbg⟩ := HF3.out
    injection hv with v1 v2 v3
    subst v1 v2 v3
    rw [show chkT (some (i, r)) = .tuple #[.int .i64 (i : Int), .int .i64 (r : Int), .bool true] from rfl] at HRC
    have HBG := Lib.hid hbg
    clear hbg
    go_wp2_with fail
    refine HRC.out.mono ?_
    rintro e w6 ⟨rfl, hb6⟩
    have HB6 := Lib.hid (HB5.out.trans (hb6.mono HB5.out.size))
    have hb6g := (HBG.out.below HB35.out).below hb6
    have z0 := hb6g.cell 0
    have z1 := hb6g.cell 1
    simp only [List.getElem?_toArray, List.getElem?_cons_zero, List.getElem?_cons_succ] at z0 z1
    clear hb6g hb6 HRC HF3 HBG
    go_wp2_with fail
    go_ret
    exact ⟨rfl, HB6.out⟩
end
end Go.Proofs.Ytehdgdlndlamjaa
