/- ParserValid: every program that is returned is valid, and an error comes with a zero program and an offset within the text. -/
import Derived.Test.YtaaaicpjlaeiiaaDoorValG
import Derived.Test.YtaaaicpjlaeiiaaDoorLawLevels
namespace Go.Proofs.YtaaaicpjlaeiiaaDoor
open Go.RowKit Go.Maps
open PP (Tree ArrD TaskD ProgD)
theorem nm_arrs {ar : List ArrD} (h : ar.all PP.okArr = true) : NmArr ar := fun a ha => by
  have := List.all_eq_true.1 h a ha
  simp only [PP.okArr, Bool.and_eq_true] at this
  exact PP.name_65536 this.1.1
theorem nm_prog {p : ProgD} (h : PP.okProg p = true) : NmArr p.shared ∧ ∀ t ∈ p.tasks, NmTask t := by
  have hb := fun t ht => PP.body_small h (t := t) ht
  simp only [PP.okProg, Bool.and_eq_true] at h
  refine ⟨nm_arrs h.1.2, fun t ht => ?_⟩
  have hs := hb t ht
  have := List.all_eq_true.1 h.2 t ht
  simp only [PP.okTask, Bool.and_eq_true] at this
  obtain ⟨⟨⟨⟨⟨⟨⟨⟨h1, _⟩, _⟩, _⟩, _⟩, h6⟩, h7⟩, _⟩, h9⟩ := this
  exact ⟨PP.name_65536 h1, fun v hv => PP.name_65536 (List.all_eq_true.1 h7 v hv), nm_arrs h6, PP.okT_nm _ _ h9, by omega⟩
theorem zero_form2 {w : World} {base : Nat} {va vt : Value} {ba els bt bx kx} (h : ProgV w base va vt zeroP ba els bt bx kx) : ∃ A c A' c', va = .slice A 0 c ∧ vt = .slice A' 0 c' := by
  obtain ⟨Av, cv, rfl⟩ := h.ra.form
  obtain ⟨At, ct, rfl⟩ := h.rt.form
  have : els.length = 0 := by have := congrArg List.length h.td; simpa [zeroP] using this.symm
  rw [this]
  exact ⟨_, _, _, _, rfl, rfl⟩
section
set_option maxHeartbeats 4000000
set_option maxRecDepth 100000
theorem valid_walk (s : ByteArray) (w : World) (hg : SignsIs w) (hO : OpsIs w) (hs : s.size ≤ maxLen) :
    Calls Tryd.prog 12 #[.string s] w fun e w' => e = .returned (.bool true) ∧ Below w.heap.size w w' := by
  have HG := Lib.hid hg
  have HO := Lib.hid hO
  have HA := Lib.hid (awake13_any w hg hO)
  have HSM := Lib.hid hs
  have hnot : ∀ (x : Bool) (w : World), (Op.unary .not (.bool x)).run Tryd.prog w = .ok (.bool (!x)) w := fun _ _ => rfl
  clear hg hO hs
  by_cases hl : 700 < s.size
  · have e1 : decide ((700 : Int) < (s.size : Int)) = true := by simp; omega
    have e2 : decide (700 < s.size) = true := by simp; omega
    go_enter Tryd.func12, Tryd.ntmps12
    go_wp2_with fail
    refine HA.out.mono ?_
    rintro e w1 ⟨rfl, hb1⟩
    go_wp2_with fail
    go_ret
    exact ⟨rfl, hb1⟩
  have e1 : decide ((700 : Int) < (s.size : Int)) = false := by simp; omega
  have e2 : decide (700 < s.size) = false := by simp; omega
  have hsl : s.size ≤ 700 := by omega
  clear hl
  go_enter Tryd.func12, Tryd.ntmps12
  go_wp2_with fail
  refine HA.out.mono ?_
  rintro e w1 ⟨rfl, hb1⟩
  have HB1 := Lib.hid hb1
  have HP := Lib.hid (program_any s w1 HSM.out (HG.out.below hb1 HG.out.pos) (HO.out.below hb1))
  clear hb1 HA
  go_wp2_with fail
  refine HP.out.mono ?_
  rintro e w3 ⟨va, vt, n, q, ba, els, bt, bx, kx, hq, rfl, hv, hb3⟩
  have HB3 := Lib.hid (HB1.out.trans (hb3.mono HB1.out.size))
  have hq' : PP.programP (PP.envL s.data.toList) n (PP.sigT s.data.toList) = some q := by rw [← envOf_eq, ← sigOf_eq]; exact hq
  have hsz : s.data.toList.length = s.size := Array.length_toList
  by_cases hqe : q.1.err = 0
  · have hok := PP.program_valid _ hq' hqe
    rw [show PP.out zeroP q = (q.2, 0, 0) from by unfold PP.out; rw [if_pos hqe]] at hv ⊢
    obtain ⟨Av, cv, At, ct, rfl, rfl, hpr⟩ := hv.read
    obtain ⟨hm1, hm2⟩ := nm_prog hok
    have hP : ((q.2, 0, 0) : ProgD × Nat × Nat).1 = q.2 := rfl
    rw [hP] at hpr ⊢
    have hB4 := HB3.out.alloc HB3.out.size (.cells #[.slice Av q.2.shared.length cv, .slice At q.2.tasks.length ct] 39)
    have hb4 : Below w3.heap.size w3 (w3.alloc (.cells #[.slice Av q.2.shared.length cv, .slice At q.2.tasks.length ct] 39)) := (Below.refl _ _).alloc (Nat.le_refl _) _
    have hva := valid_any (c := cv) (d := ct) rfl rfl (hpr.below hb4) (HG.out.below hB4 HG.out.pos) hm1 hm2
    rw [hok] at hva
    have HVA := Lib.hid hva
    have HB4 := Lib.hid hB4
    clear hva hB4 hb4 hpr hm1 hm2 hv hb3 HP hok hq hq' hP
    generalize q.2.shared.length = na at *
    generalize q.2.tasks.length = nt at *
    go_wp2_with fail
    refine HVA.out.mono ?_
    rintro e w5 ⟨rfl, hb5⟩
    have HB5 := Lib.hid (HB4.out.trans (hb5.mono HB4.out.size))
    clear hb5
    go_wp2_with fail
    go_ret
    exact ⟨rfl, HB5.out⟩
  · have hoff := PP.program_off (by omega) hq'
    rw [hsz] at hoff
    rw [show PP.out zeroP q = (zeroP, q.1.off, q.1.err) from by unfold PP.out; rw [if_neg hqe]] at hv ⊢
    obtain ⟨B, d, B', d', rfl, rfl⟩ := zero_form2 hv
    have e3 : ((q.1.err : Int) != 0) = true := by simpa using hqe
    have e4 : decide ((0 : Int) ≤ (q.1.off : Int)) = true := by simp
    have e5 : decide ((q.1.off : Int) ≤ (s.size : Int)) = true := by simp; omega
    have e6 : decide (q.1.off ≤ s.size) = true := by simpa using hoff
    have HB8 := Lib.hid (HB3.out.alloc HB3.out.size (.cells #[.slice B 0 d, .slice B' 0 d'] 39))
    clear hv hb3 HP hq hq'
    go_wp2_with fail
    refine (same_zero _ _ _ _ _ _ _ _ _).mono ?_
    rintro e w9 ⟨rfl, hb9⟩
    have HB9 := Lib.hid (HB8.out.trans (hb9.mono HB8.out.size))
    clear hb9
    go_wp2_with fail
    go_ret
    exact ⟨rfl, HB9.out⟩
end
end Go.Proofs.YtaaaicpjlaeiiaaDoor
