/- The walk of ParserPrograms. -/
import Derived.Test.YtglaecalbamnkaaGreatDoorRdR
import Derived.Test.YtglaecalbamnkaaGreatDoorRdS
import Derived.Test.YtglaecalbamnkaaGreatDoorPlainValid
namespace Go.Proofs.YtglaecalbamnkaaGreatDoor
open Go.RowKit Go.Maps
open PP (Tree ProgD)
theorem program_same {E : PP.Env} {σ : PP.St} {n m : Nat} {q r : PP.St × ProgD} (h : PP.programP E n σ = some q) (h' : PP.programP E m σ = some r) : r = q := by
  have h1 := PP.programP_le E (Nat.le_max_left n m) h
  have h2 := PP.programP_le E (Nat.le_max_right n m) h'
  rw [h1] at h2
  exact (Option.some.inj h2).symm
theorem prog_out_small {E : PP.Env} {σ : PP.St} {n : Nat} {q : PP.St × ProgD} (h : PP.programP E n σ = some q) : ∀ t ∈ (PP.out zeroP q).1.tasks, t.body.size ≤ 1000000 := by
  intro t ht
  unfold PP.out at ht
  by_cases h0 : q.1.err = 0
  · rw [if_pos h0] at ht
    have := PP.body_small (PP.program_valid _ h h0) ht
    omega
  · rw [if_neg h0] at ht; simp [zeroP] at ht
section
set_option maxHeartbeats 4000000
set_option maxRecDepth 100000
theorem parprograms_walk (s : ByteArray) (w : World) (hg : SignsIs w) (hO : OpsIs w) (hs : s.size ≤ maxLen) :
    Calls Tryz.prog 3 #[.string s] w fun e w' => e = .returned (.bool true) ∧ Below w.heap.size w w' := by
  have HG := Lib.hid hg
  have HO := Lib.hid hO
  have HA := Lib.hid (awake13_any w hg hO)
  have HSM := Lib.hid hs
  have hnot : ∀ (x : Bool) (w : World), (Op.unary .not (.bool x)).run Tryz.prog w = .ok (.bool (!x)) w := fun _ _ => rfl
  clear hg hO hs
  by_cases hl : 700 < s.size
  · have e1 : decide ((700 : Int) < (s.size : Int)) = true := by simp; omega
    have e2 : decide (700 < s.size) = true := by simp; omega
    go_enter Tryz.func3, Tryz.ntmps3
    go_wp2_with fail
    refine HA.out.mono ?_
    rintro e w1 ⟨rfl, hb1⟩
    go_wp2_with fail
    go_ret
    exact ⟨rfl, hb1⟩
  have e1 : decide ((700 : Int) < (s.size : Int)) = false := by simp; omega
  have e2 : decide (700 < s.size) = false := by simp; omega
  have hsl : s.size ≤ 700 := by omega
  clear hl
  go_enter Tryz.func3, Tryz.ntmps3
  go_wp2_with fail
  refine HA.out.mono ?_
  rintro e w1 ⟨rfl, hb1⟩
  have HB1 := Lib.hid hb1
  have HX := Lib.hid (program_any s w1 HSM.out (HG.out.below hb1 HG.out.pos) (HO.out.below hb1))
  clear hb1 HA
  go_wp2_with fail
  refine HX.out.mono ?_
  rintro e w2 ⟨va, vt, n, q, ba, els, bt, bx, kx, hq, rfl, hv, hb2⟩
  obtain ⟨Av, cv, At, ct, rfl, rfl, hpr⟩ := hv.read
  have HB2 := Lib.hid (HB1.out.trans (hb2.mono HB1.out.size))
  have HSZ := Lib.hid (prog_out_small hq)
  have HQ := Lib.hid hq
  have HPR := Lib.hid hpr
  clear hv hb2 HX HB1 hq hpr
  generalize hOO : PP.out zeroP q = OO at *
  generalize hna : OO.1.shared.length = na at *
  generalize hnt : OO.1.tasks.length = nt at *
  have HOO := Lib.hid hOO
  have HNA := Lib.hid hna
  have HNT := Lib.hid hnt
  have hblk := Blk.new w2 26 #[.slice Av na cv, .slice At nt ct]
  have hb3 : Below w.heap.size w (w2.alloc (.cells #[.slice Av na cv, .slice At nt ct] 26)) := HB2.out.alloc HB2.out.size _
  have HR := Lib.hid (refprogram_any s (w2.alloc (.cells #[.slice Av na cv, .slice At nt ct] 26)) (by omega))
  have HBLK := Lib.hid hblk
  have HB3 := Lib.hid hb3
  clear hblk hb3 hna hnt hOO
  go_wp2_with fail
  refine HR.out.mono ?_
  rintro e w4 ⟨va', vt', n', q', ba', els', bt', bx', kx', hq', rfl, hv', hb4⟩
  have hqq := program_same HQ.out hq'
  subst hqq
  obtain ⟨Av', cv', At', ct', rfl, rfl, hpr'⟩ := hv'.read
  rw [HOO.out] at hpr' ⊢
  rw [HNA.out, HNT.out]
  have HPR' := Lib.hid hpr'
  have hb4' : Below w.heap.size w w4 := HB3.out.trans (hb4.mono HB3.out.size)
  have hb5 : Below w.heap.size w (w4.alloc (.cells #[.slice Av' na cv', .slice At' nt ct'] 26)) := hb4'.alloc hb4'.size _
  have hB5 := (HBLK.out.belowD hb4).alloc (.cells #[.slice Av' na cv', .slice At' nt ct'] 26)
  have hB6 := Blk.new w4 26 #[.slice Av' na cv', .slice At' nt ct']
  have hkv : Below w2.heap.size w2 (w4.alloc (.cells #[.slice Av' na cv', .slice At' nt ct'] 26)) := (((Below.refl w2.heap.size w2).alloc (Nat.le_refl _) (.cells #[.slice Av na cv, .slice At nt ct] 26)).trans (hb4.mono (by simp))).alloc (by have := hb4.size; simp at this; omega) _
  have HEQ := Lib.hid (rsame_any (c := cv) (d := ct) (c' := cv') (d' := ct') HNA.out HNT.out (HPR.out.below hkv) (HPR'.out.below ((Below.refl w4.heap.size w4).alloc (Nat.le_refl _) (.cells #[.slice Av' na cv', .slice At' nt ct'] 26))) HSZ.out)
  obtain ⟨m0, m1⟩ := hB_two hB5
  obtain ⟨n0, n1⟩ := hB_two hB6
  have HB5 := Lib.hid hb5
  clear hB5 hB6 hkv hb5 hb4' hb4 hq' hv' hpr' HR
  have f1 : ((OO.2.2 : Int) == (OO.2.2 : Int)) = true := by simp
  have f2 : ((OO.2.1 : Int) == (OO.2.1 : Int)) = true := by simp
  go_wp2_with fail
  refine HEQ.out.mono ?_
  rintro e w6 ⟨rfl, hb6⟩
  have HB6 := Lib.hid (HB5.out.trans (hb6.mono HB5.out.size))
  clear hb6 HEQ m0 m1 n0 n1
  go_wp2_with fail
  go_ret
  exact ⟨rfl, HB6.out⟩
end
end Go.Proofs.YtglaecalbamnkaaGreatDoor
