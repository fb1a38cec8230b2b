/- Worlds that only grow; rows of tasks; valid sets of tasks. -/
import Derived.Test.YtpmbhdheeaejgaaGreatDoorBase
import Derived.Test.YtpmbhdheeaejgaaGreatDoorPlainSl
import Derived.Sort.Grow
import Derived.Deep.RegionLaw
namespace Go.Proofs.YtpmbhdheeaejgaaGreatDoor
open Go.RowKit
open SL (Tk Jb Ms Cd)
/-- Nothing that lay has turned; the tape was asked no less often. -/
def Gr (w w' : World) : Prop := Below w.heap.size w w' ∧ w.drawn ≤ w'.drawn
theorem Gr.refl (w : World) : Gr w w := ⟨Below.refl _ _, Nat.le_refl _⟩
theorem Gr.trans {a b c : World} (h : Gr a b) (k : Gr b c) : Gr a c := ⟨h.1.trans (k.1.mono h.1.size), Nat.le_trans h.2 k.2⟩
theorem Gr.alloc {a b : World} (h : Gr a b) (o : Obj) : Gr a (b.alloc o) := ⟨h.1.alloc h.1.size o, h.2⟩
theorem Gr.drewN {a b : World} (h : Gr a b) (n : Nat) : Gr a (b.drewN n) := ⟨⟨h.1.os, h.1.tape, h.1.output, h.1.size, h.1.block⟩, Nat.le_trans h.2 (Nat.le_add_right _ _)⟩
theorem Gr.drew {a b : World} (h : Gr a b) : Gr a b.drew := ⟨⟨h.1.os, h.1.tape, h.1.output, h.1.size, h.1.block⟩, Nat.le_trans h.2 (Nat.le_add_right _ _)⟩
theorem Gr.set {a b : World} (h : Gr a b) {g : Nat} (hg : a.heap.size ≤ g) (i : Nat) (v : Value) : Gr a (b.setCell ⟨g, i, none⟩ v) := ⟨h.1.setCell (p := ⟨g, i, none⟩) hg v, h.2⟩
theorem Gr.size {a b : World} (h : Gr a b) : a.heap.size ≤ b.heap.size := h.1.size
theorem Gr.grow {w w' : World} (h : Gr w w') : ∃ q os, w' = Go.Sort.grow (w.drewN q) os := by
  obtain ⟨hb, hd⟩ := h
  refine ⟨w'.drawn - w.drawn, w'.heap.extract w.heap.size w'.heap.size, ?_⟩
  obtain ⟨h1, t1, d1, o1, p1⟩ := w
  obtain ⟨h2, t2, d2, o2, p2⟩ := w'
  obtain ⟨e1, e2, e3, e4, e5⟩ := hb
  simp only at e1 e2 e3 e4 e5 hd
  subst e1 e2 e3
  show World.mk h2 t2 d2 o2 p2 = World.mk (h1 ++ h2.extract h1.size h2.size) t2 (d1 + (d2 - d1)) o2 p2
  rw [Nat.add_sub_cancel' hd]
  congr 1
  apply Array.ext_getElem?
  intro i
  by_cases hi : i < h1.size
  · rw [e5 i hi, Array.getElem?_append_left hi]
  · rw [Array.getElem?_append_right (by omega), Array.getElem?_extract]
    by_cases h2' : i < h2.size
    · rw [if_pos (by omega)]; congr 1; omega
    · rw [if_neg (by omega), Array.getElem?_eq_none (by omega)]
/-- A slice reads as a row of cells. -/
def Row (w : World) (A : Option Addr) (xs : List Value) : Prop := xs ≠ [] → ∃ b o, A = some ⟨b, o, none⟩ ∧ b < w.heap.size ∧ ∀ i v, xs[i]? = some v → w.cell? ⟨b, o + i, none⟩ = some v
theorem Row.below {w w' : World} {A : Option Addr} {xs : List Value} (h : Row w A xs) (hb : Below w.heap.size w w') : Row w' A xs := fun hn => by
  obtain ⟨b, o, rfl, hlt, hc⟩ := h hn
  exact ⟨b, o, rfl, Nat.lt_of_lt_of_le hlt hb.size, fun i v hi => (hb.cell (p := ⟨b, o + i, none⟩) hlt).trans (hc i v hi)⟩
def tkV (t : Tk) : Array Value := #[.string t.name, .int .i64 t.cost, .int .i64 t.per]
def tkRow (l : List Tk) : List Value := l.flatMap fun t => (tkV t).toList
theorem tkRow_at : ∀ {l : List Tk} {k : Nat} {t : Tk}, l[k]? = some t → ∀ m, m < 3 → (tkRow l)[k * 3 + m]? = (tkV t)[m]?
  | [], _, _, h, _, _ => by simp at h
  | x :: l, 0, t, h, m, hm => by
    simp at h; subst h
    rw [tkRow, List.flatMap_cons, List.getElem?_append_left (by simp [tkV]; omega)]
    simp
  | x :: l, k + 1, t, h, m, hm => by
    have ih := tkRow_at (l := l) (k := k) (t := t) (by simpa using h) m hm
    rw [tkRow, List.flatMap_cons, List.getElem?_append_right (by simp [tkV]; omega)]
    rw [← ih]
    show (tkRow l)[_]? = _
    congr 1
    simp [tkV]; omega
theorem Row.tk {w : World} {A : Option Addr} {l : List Tk} (h : Row w A (tkRow l)) {k : Nat} {t : Tk} (hk : l[k]? = some t) :
    ∃ b o, A = some ⟨b, o, none⟩ ∧ b < w.heap.size ∧ w.cell? ⟨b, o + k * 3, none⟩ = some (.string t.name) ∧ w.cell? ⟨b, o + k * 3 + 1, none⟩ = some (.int .i64 t.cost) ∧ w.cell? ⟨b, o + k * 3 + 2, none⟩ = some (.int .i64 t.per) := by
  have ha := fun m hm => tkRow_at hk m hm
  obtain ⟨b, o, hA, hb, hc⟩ := h (fun e => by have := ha 0 (by omega); rw [e] at this; simp [tkV] at this)
  exact ⟨b, o, hA, hb, hc _ _ (ha 0 (by omega)), hc (k * 3 + 1) _ (ha 1 (by omega)), hc (k * 3 + 2) _ (ha 2 (by omega))⟩
section
set_option maxHeartbeats 1000000
set_option maxRecDepth 100000
theorem tsvalid_any (l : List Tk) (A : Option Addr) (n c : Nat) (w : World) (hN : l.length = n) (hr : Row w A (tkRow l)) :
    Calls Tryz.prog 20 #[.slice A n c] w fun e w' => e = .returned (.bool (SL.okTs l)) ∧ Gr w w' := by
  have hok : SL.okTs l = (decide (l.length ≤ 40) && l.all SL.okTk) := rfl
  generalize SL.okTs l = R at *
  by_cases hbig : 40 < n
  · have e1 : decide ((40 : Int) < (n : Int)) = true := by simp; omega
    have HR := Lib.hid (show R = false by rw [hok, decide_eq_false (by omega)]; rfl)
    clear hok
    go_enter Tryz.func20, Tryz.ntmps20
    go_wp2_with fail
    go_ret
    rw [HR.out]
    exact ⟨rfl, Gr.refl _⟩
  have e1 : decide ((40 : Int) < (n : Int)) = false := by simp; omega
  have HR := Lib.hid (show R = l.all SL.okTk by rw [hok, decide_eq_true (by omega), Bool.true_and])
  have HN := Lib.hid hN
  have HRW := Lib.hid hr
  clear hok hN hr
  go_enter Tryz.func20, Tryz.ntmps20
  go_wp2_with fail
  go_loopw [10] (fun v wr => ∃ k : Nat, k ≤ n ∧ v = .int .i64 (k : Int) ∧ (l.take k).all SL.okTk = true ∧ Gr w wr) (fun v _ => n - (intOf v).toNat)
  case atStart => exact ⟨0, Nat.zero_le _, rfl, rfl, Gr.refl _⟩
  case round =>
    obtain ⟨k, hk, rfl, hall, hgr⟩ := hrel
    have HG := Lib.hid hgr
    by_cases hlt : k < n
    · obtain ⟨t, ht⟩ : ∃ t, l[k]? = some t := ⟨_, List.getElem?_eq_getElem (by rw [HN.out]; exact hlt)⟩
      obtain ⟨rb, ro, rfl, hrb, c0, c1, c2⟩ := (HRW.out.below hgr.1).tk ht
      have q0 : (k : Int) < (n : Int) := by omega
      have htk : l.take (k + 1) = l.take k ++ [t] := by
        obtain ⟨h1, h2⟩ := List.getElem?_eq_some_iff.1 ht
        rw [List.take_succ_eq_append_getElem h1, h2]
      have hmem := List.mem_of_getElem? ht
      have HALL := Lib.hid hall
      have HTK := Lib.hid htk
      clear hgr hall htk ht
      cases hv : SL.okTk t with
      | true =>
        obtain ⟨v1, v2, v3⟩ := SL.okTk_iff.1 hv
        have d1 : decide (t.cost < 1) = false := decide_eq_false (by omega)
        have d2 : decide (t.per < t.cost) = false := decide_eq_false (by omega)
        have d3 : decide ((1000 : Int) < t.per) = false := decide_eq_false (by omega)
        have HV := Lib.hid hv
        clear hv v1 v2 v3 hmem
        go_wp2_with fail
        refine ⟨⟨k + 1, hlt, by simp, ?_, HG.out.alloc _⟩, by simp [intOf]; omega⟩
        rw [HTK.out, List.all_append, HALL.out]
        simp [HV.out]
      | false =>
        have HRF := Lib.hid (show R = false by rw [HR.out, List.all_eq_false]; exact ⟨t, hmem, by simp [hv]⟩)
        have hcs : decide (t.cost < 1) = true ∨ (decide (t.cost < 1) = false ∧ (decide (t.per < t.cost) = true ∨ (decide (t.per < t.cost) = false ∧ decide ((1000 : Int) < t.per) = true))) := by
          have := SL.okTk_iff (t := t)
          rw [hv] at this
          simp only [Bool.false_eq_true, false_iff] at this
          simp only [decide_eq_true_eq, decide_eq_false_iff_not]
          omega
        clear hv hmem
        rcases hcs with d1 | ⟨d1, d2 | ⟨d2, d3⟩⟩
        all_goals
          go_wp2_with fail
          go_ret
          rw [HRF.out]
          exact ⟨rfl, HG.out.alloc _⟩
    · have q1 : ¬ (k : Int) < (n : Int) := by omega
      have hall' : R = true := by rw [HR.out, ← hall, List.take_of_length_le (by rw [HN.out]; omega)]
      have HRT := Lib.hid hall'
      clear hall' hall hgr
      go_wp2_with fail
      go_ret
      rw [HRT.out]
      exact ⟨rfl, HG.out⟩
end
end Go.Proofs.YtpmbhdheeaejgaaGreatDoor
