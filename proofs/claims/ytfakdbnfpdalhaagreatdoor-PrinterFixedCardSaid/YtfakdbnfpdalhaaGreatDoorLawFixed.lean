/- The walk of PrinterFixed. -/
import Derived.Test.YtfakdbnfpdalhaaGreatDoorLawRound
import Derived.Test.YtfakdbnfpdalhaaGreatDoorPlainFix
namespace Go.Proofs.YtfakdbnfpdalhaaGreatDoor
open Go.RowKit Go.Maps
open PP (Tree ArrD TaskD ProgD)
theorem nm_progF {p : ProgD} (h : PP.okProg p = true) : NmArr p.shared ∧ ∀ t ∈ p.tasks, NmTask t := by
  have hi := okProg_inv h
  refine ⟨fun a ha => by have := (okArr_inv (hi.sv a ha)).1; omega, fun t ht => ?_⟩
  have ti := hi.tv t ht
  exact ⟨by have := ti.n; omega, fun v hv => by have := ti.vv v hv; omega, fun a ha => by have := (okArr_inv (ti.av a ha)).1; omega, PP.okT_nm _ _ ti.b, by have := ti.s; omega⟩
section
set_option maxHeartbeats 4000000
set_option maxRecDepth 100000
theorem fixed14_walk (s : ByteArray) (w : World) (hg : SignsIs w) (hO : OpsIs w) (hP : PowIs w) (hs : s.size ≤ maxLen) :
    Calls Tryz.prog 7 #[.string s] w fun e w' => e = .returned (.bool true) ∧ Below w.heap.size w w' := by
  have hnot : ∀ (x : Bool) (w : World), (Op.unary .not (.bool x)).run Tryz.prog w = .ok (.bool (!x)) w := fun _ _ => rfl
  have HG := Lib.hid hg
  have HO := Lib.hid hO
  have HPW := Lib.hid hP
  have HA := Lib.hid (awake14_any w hO hP hg)
  have HSM := Lib.hid hs
  clear hg hO hs hP
  by_cases hl : 2000 < s.size
  · have e1 : decide ((2000 : Int) < (s.size : Int)) = true := by simp; omega
    have e2 : decide (2000 < s.size) = true := by simp; omega
    go_enter Tryz.func7, Tryz.ntmps7
    go_wp2_with fail
    refine HA.out.mono ?_
    rintro e w1 ⟨rfl, hb1⟩
    go_wp2_with fail
    go_ret
    exact ⟨rfl, hb1⟩
  have e1 : decide ((2000 : Int) < (s.size : Int)) = false := by simp; omega
  have e2 : decide (2000 < s.size) = false := by simp; omega
  have hsl : s.size ≤ 2000 := by omega
  clear hl
  go_enter Tryz.func7, Tryz.ntmps7
  go_wp2_with fail
  refine HA.out.mono ?_
  rintro e w1 ⟨rfl, hb1⟩
  have HB1 := Lib.hid hb1
  have HPA := Lib.hid (program_any s w1 HSM.out (HG.out.belowS hb1) (HO.out.below hb1))
  clear hb1 HA
  go_wp2_with fail
  refine HPA.out.mono ?_
  rintro e w3 ⟨va, vt, n, q, ba, els, bt, bx, kx, hq, rfl, hv, hb3⟩
  have HB3 := Lib.hid (HB1.out.trans (hb3.mono HB1.out.size))
  have hq' : PP.programP (PP.envL s.data.toList) n (PP.sigT s.data.toList) = some q := by rw [← envOf_eqR, ← sigOf_eqR]; exact hq
  have hsz : s.data.toList.length = s.size := Array.length_toList
  by_cases hqe : q.1.err = 0
  · have hok := PP.program_valid _ hq' hqe
    have hfit := PP.fixed_fits (by omega) hq' hqe
    rw [show PP.out zeroP q = (q.2, 0, 0) from by unfold PP.out; rw [if_pos hqe]] at hv ⊢
    obtain ⟨Av, cv, At, ct, rfl, rfl, hpr⟩ := hv.read
    have hPP : ((q.2, 0, 0) : ProgD × Nat × Nat).1 = q.2 := rfl
    rw [hPP] at hpr ⊢
    generalize q.2 = p at *
    obtain ⟨hm1, hm2⟩ := nm_progF hok
    have HOK := Lib.hid hok
    have HM1 := Lib.hid hm1
    have HM2 := Lib.hid hm2
    have HFIT := Lib.hid hfit
    obtain ⟨na, hna⟩ : ∃ na, p.shared.length = na := ⟨_, rfl⟩
    obtain ⟨nt, hnt⟩ : ∃ nt, p.tasks.length = nt := ⟨_, rfl⟩
    rw [hna, hnt]
    have HNA := Lib.hid hna
    have HNT := Lib.hid hnt
    have hb4 : Below w3.heap.size w3 (w3.alloc (.cells #[.slice Av na cv, .slice At nt ct] 26)) := (Below.refl _ _).alloc (Nat.le_refl _) _
    have hB4 := HB3.out.trans (hb4.mono HB3.out.size)
    have HB4 := Lib.hid hB4
    have HK4 := Lib.hid (Blk.new w3 26 #[.slice Av na cv, .slice At nt ct])
    have HR4 := Lib.hid (hpr.below hb4)
    have HPP := Lib.hid (printProg_ok (c := cv) (d := ct) hna hnt (hpr.below hb4) (HO.out.below hB4) (HPW.out.below hB4 HPW.out.lt) (HG.out.belowS hB4) hm1 hm2 hok)
    clear hpr hb4 hB4 hm1 hm2 hv hb3 HPA hok hq hq' hPP hfit hna hnt hqe
    go_wp2_with fail
    generalize w3.alloc (.cells #[.slice Av na cv, .slice At nt ct] 26) = w4 at *
    generalize w3.heap.size = P1 at *
    refine HPP.out.mono ?_
    rintro e w5 ⟨rfl, hb5⟩
    have g5 := HB4.out.trans (hb5.mono HB4.out.size)
    have HB5 := Lib.hid g5
    have HK5 := Lib.hid (Blk.below HK4.out hb5)
    have HR5 := Lib.hid (HR4.out.below hb5)
    have hlen := HFIT.out
    have hts := size_mkR (PP.prP p)
    have HTL : Hid ((⟨(PP.prP p).toArray⟩ : ByteArray).data.toList = PP.prP p) := Lib.hid rfl
    have HPR := Lib.hid (fun (W : World) (A T : Option Addr) (c d : Nat) (h : ProgR W A T p) (ho : OpsIs W) (hq : PowIs W) (hg : SignsIs W) => printProg_ok (c := c) (d := d) HNA.out HNT.out h ho hq hg HM1.out HM2.out HOK.out)
    obtain ⟨m, hm⟩ := PP.back_prog HOK.out HFIT.out
    generalize (⟨(PP.prP p).toArray⟩ : ByteArray) = TXT at *
    have hpa := program_at TXT w5 (by unfold maxLen; omega) (HG.out.belowS g5) (HO.out.below g5) (n := m) (q := _) (by rw [envOf_eqR, sigOf_eqR, HTL.out]; exact hm)
    rw [show PP.out zeroP (⟨(PP.tokP p).length, 0, 0⟩, p) = (p, 0, 0) from rfl] at hpa
    have HPB := Lib.hid hpa
    clear hpa hb5 g5 hlen hts hm HPP
    go_wp2_with fail
    refine HPB.out.mono ?_
    rintro e w6 ⟨va, vt, ba, els, bt, bx, kx, rfl, hv, hb6⟩
    obtain ⟨A2, c2, T2, d2, rfl, rfl, hpr⟩ := hv.read
    rw [HNA.out, HNT.out]
    have hb7 : Below w6.heap.size w6 (w6.alloc (.cells #[.slice A2 na c2, .slice T2 nt d2] 26)) := (Below.refl _ _).alloc (Nat.le_refl _) _
    have g6 := HB5.out.trans (hb6.mono HB5.out.size)
    have g7 := g6.trans (hb7.mono g6.size)
    have HB7 := Lib.hid g7
    have HK7 := Lib.hid (Blk.new w6 26 #[.slice A2 na c2, .slice T2 nt d2])
    have HQ7 := Lib.hid (Blk.below (Blk.below HK5.out hb6) hb7)
    have HR7 := Lib.hid ((HR5.out.below hb6).below hb7)
    have HS7 := Lib.hid (hpr.below hb7)
    have HPC := Lib.hid (HPR.out _ A2 T2 c2 d2 (hpr.below hb7) (HO.out.below g7) (HPW.out.below g7 HPW.out.lt) (HG.out.belowS g7))
    clear hv hb6 hb7 g6 g7 hpr HPB
    go_wp2_with fail
    generalize w6.alloc (.cells #[.slice A2 na c2, .slice T2 nt d2] 26) = w7 at *
    generalize w6.heap.size = P2 at *
    refine HPC.out.mono ?_
    rintro e w8 ⟨rfl, hb8⟩
    have g8 := HB7.out.trans (hb8.mono HB7.out.size)
    have HB8 := Lib.hid g8
    have k1 := Blk.below HQ7.out hb8
    have k2 := Blk.below HK7.out hb8
    obtain ⟨x0, x1⟩ := k1.pair
    obtain ⟨y0, y1⟩ := k2.pair
    have hl1 := k1.lt
    have hl2 := k2.lt
    have HSA := Lib.hid (same_any (c := cv) (d := ct) (c' := c2) (d' := d2) HNA.out HNT.out (HR7.out.below hb8) (HS7.out.below hb8) (fun t ht => (HM2.out t ht).s))
    clear hb8 g8 k1 k2 HPC
    go_wp2_with fail
    refine HSA.out.mono ?_
    rintro e w9 ⟨rfl, hb9⟩
    have HB9 := Lib.hid (HB8.out.trans (hb9.mono HB8.out.size))
    clear hb9
    go_wp2_with fail
    go_ret
    exact ⟨rfl, HB9.out⟩
  · rw [show PP.out zeroP q = (zeroP, q.1.off, q.1.err) from by unfold PP.out; rw [if_neg hqe]] at hv ⊢
    obtain ⟨Av, cv, rfl⟩ := hv.ra.form
    obtain ⟨At, ct, rfl⟩ := hv.rt.form
    have e3 : ((q.1.err : Int) != 0) = true := by simpa using hqe
    have HB8 := Lib.hid (HB3.out.alloc HB3.out.size (.cells #[.slice Av (zeroP, q.1.off, q.1.err).1.shared.length cv, .slice At els.length ct] 26))
    clear hv hb3 HPA hq hq'
    go_wp2_with fail
    go_ret
    exact ⟨rfl, HB8.out⟩
end
end Go.Proofs.YtfakdbnfpdalhaaGreatDoor
