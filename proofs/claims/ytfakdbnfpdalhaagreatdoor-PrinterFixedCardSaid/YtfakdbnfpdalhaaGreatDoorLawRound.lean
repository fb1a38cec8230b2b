/- The walk of PrinterRound. -/
import Derived.Test.YtfakdbnfpdalhaaGreatDoorAwake14
import Derived.Test.YtfakdbnfpdalhaaGreatDoorOpenP
import Derived.Test.YtfakdbnfpdalhaaGreatDoorPlainRd2
import Derived.Test.YtfakdbnfpdalhaaGreatDoorSame2
namespace Go.Proofs.YtfakdbnfpdalhaaGreatDoor
open Go.RowKit
open PP (Tree ArrD TaskD ProgD)
theorem size_mkR (l : List UInt8) : (⟨l.toArray⟩ : ByteArray).size = l.length := by simp [ByteArray.size]
theorem envOf_eqR (s : ByteArray) : envOf s = PP.envL s.data.toList := by
  unfold envOf PP.envL
  rw [show s.data.toList.length = s.size from Array.length_toList]
theorem sigOf_eqR (s : ByteArray) : sigOf s = PP.sigT s.data.toList := rfl
section
set_option maxHeartbeats 4000000
set_option maxRecDepth 100000
theorem round14_walk {p : ProgD} {A T : Option Addr} {c d na nt : Nat} {w : World} (hna : p.shared.length = na) (hnt : p.tasks.length = nt) (h : PLArg w A T p) :
    Calls Tryz.prog 6 #[.agg #[.slice A na c, .slice T nt d]] w fun e w' => e = .returned (.bool true) ∧ Below w.heap.size w w' := by
  have hnot : ∀ (x : Bool) (w : World), (Op.unary .not (.bool x)).run Tryz.prog w = .ok (.bool (!x)) w := fun _ _ => rfl
  have hb : Below w.heap.size w (w.alloc (.cells #[.slice A na c, .slice T nt d] 26)) := (Below.refl _ _).alloc (Nat.le_refl _) _
  have hblk := Blk.new w 26 #[.slice A na c, .slice T nt d]
  have h1 := h.below hb
  have HAW := Lib.hid (awake14_any _ h1.ops h1.pow h1.sg)
  have HL := Lib.hid h
  have HB0 := Lib.hid hb
  have HK0 := Lib.hid hblk
  have HNA := Lib.hid hna
  have HNT := Lib.hid hnt
  have x0 := True.intro
  have x1 := True.intro
  have hl0 := True.intro
  clear h hb hblk h1 hna hnt
  go_enter Tryz.func6, Tryz.ntmps6
  go_wp2_with fail
  refine HAW.out.mono ?_
  rintro e w1 ⟨rfl, hb1⟩
  have g1 := HB0.out.trans (hb1.mono HB0.out.size)
  have HB1 := Lib.hid g1
  have hk1 := Blk.below HK0.out hb1
  clear x0 x1 hl0
  obtain ⟨x0, x1⟩ := hk1.pair
  have hl1 := hk1.lt
  have HK1 := Lib.hid hk1
  have hsm := smallProg_any (c := c) (d := d) HNA.out HNT.out (HL.out.below g1).pr
  clear g1 hb1 hk1 HK0 HAW
  cases hsp : PP.smP p with
  | true =>
    rw [hsp] at hsm
    have HSM := Lib.hid hsm
    have HSP := Lib.hid hsp
    clear hsm hsp
    cases hok : PP.okProg p with
    | true =>
      have HOK := Lib.hid hok
      clear hok
      go_wp2_with fail
      refine HSM.out.mono ?_
      rintro e w2 ⟨rfl, hb2⟩
      have g2 := HB1.out.trans (hb2.mono HB1.out.size)
      have HB2 := Lib.hid g2
      have hk2 := Blk.below HK1.out hb2
      clear x0 x1 hl1
      obtain ⟨x0, x1⟩ := hk2.pair
      have hl2 := hk2.lt
      have HK2 := Lib.hid hk2
      have hva := valid_any (c := c) (d := d) HNA.out HNT.out ((HL.out.below g2).pr.small HSP.out).1 (HL.out.below g2).sg ((HL.out.below g2).pr.small HSP.out).2.1 ((HL.out.below g2).pr.small HSP.out).2.2
      rw [HOK.out] at hva
      have HVA := Lib.hid hva
      clear hva
      clear g2 hb2 hk2 HK1 HSM
      go_wp2_with fail
      refine HVA.out.mono ?_
      rintro e w3 ⟨rfl, hb3⟩
      have g3 := HB2.out.trans (hb3.mono HB2.out.size)
      have HB3 := Lib.hid g3
      have hk3 := Blk.below HK2.out hb3
      clear x0 x1 hl2
      obtain ⟨x0, x1⟩ := hk3.pair
      have hl3 := hk3.lt
      have HK3 := Lib.hid hk3
      have HPP := Lib.hid (printProg_ok (c := c) (d := d) HNA.out HNT.out ((HL.out.below g3).pr.small HSP.out).1 (HL.out.below g3).ops (HL.out.below g3).pow (HL.out.below g3).sg ((HL.out.below g3).pr.small HSP.out).2.1 ((HL.out.below g3).pr.small HSP.out).2.2 HOK.out)
      clear g3 hb3 hk3 HK2 HVA
      go_wp2_with fail
      refine HPP.out.mono ?_
      rintro e w4 ⟨rfl, hb4⟩
      have g4 := HB3.out.trans (hb4.mono HB3.out.size)
      have HB4 := Lib.hid g4
      have hk4 := Blk.below HK3.out hb4
      clear x0 x1 hl3
      obtain ⟨x0, x1⟩ := hk4.pair
      have hl4 := hk4.lt
      have HK4 := Lib.hid hk4
      have HL4 := Lib.hid (HL.out.below g4)
      clear g4 hb4 hk4 HK3 HPP
      have hlen := prP_len (okProg_inv HOK.out)
      have hts := size_mkR (PP.prP p)
      have HBACK := Lib.hid (fun hl => PP.back_prog HOK.out hl)
      have HTL : Hid ((⟨(PP.prP p).toArray⟩ : ByteArray).data.toList = PP.prP p) := Lib.hid rfl
      generalize (⟨(PP.prP p).toArray⟩ : ByteArray) = TXT at *
      by_cases hbig : 65536 < TXT.size
      · have e1 : decide ((65536 : Int) < (TXT.size : Int)) = true := by simp; omega
        have e2 : decide (65536 < TXT.size) = true := by simpa using hbig
        have HPA := Lib.hid (program_any TXT w4 (by unfold maxLen; omega) HL4.out.sg HL4.out.ops)
        clear hts hlen hbig
        go_wp2_with fail
        refine HPA.out.mono ?_
        rintro e w5 ⟨va, vt, n, q, ba, els, bt, bx, kx, _, rfl, hv, hb5⟩
        obtain ⟨Av, cv, rfl⟩ := hv.ra.form
        obtain ⟨At, ct, rfl⟩ := hv.rt.form
        have HB5 := Lib.hid (HB4.out.trans (hb5.mono HB4.out.size))
        have HB6 := Lib.hid (HB5.out.alloc HB5.out.size (.cells #[.slice Av (PP.out zeroP q).1.shared.length cv, .slice At els.length ct] 26))
        generalize ((PP.out zeroP q).2.1 : Int) = v1 at *
        generalize ((PP.out zeroP q).2.2 : Int) = v2 at *
        clear hv hb5 HPA x0 x1 hl4
        go_wp2_with fail
        go_ret
        exact ⟨rfl, HB6.out⟩
      · have e1 : decide ((65536 : Int) < (TXT.size : Int)) = false := by simp; omega
        have e2 : decide (65536 < TXT.size) = false := by simpa using hbig
        obtain ⟨m, hm⟩ := HBACK.out (by omega)
        have hpa := program_at TXT w4 (by unfold maxLen; omega) HL4.out.sg HL4.out.ops (n := m) (q := _) (by rw [envOf_eqR, sigOf_eqR, HTL.out]; exact hm)
        rw [show PP.out zeroP (⟨(PP.tokP p).length, 0, 0⟩, p) = (p, 0, 0) from rfl] at hpa
        have HPA := Lib.hid hpa
        clear hts hlen hbig hm hpa
        go_wp2_with fail
        refine HPA.out.mono ?_
        rintro e w5 ⟨va, vt, ba, els, bt, bx, kx, rfl, hv, hb5⟩
        obtain ⟨Av, cv, At, ct, rfl, rfl, hpr⟩ := hv.read
        rw [HNA.out, HNT.out]
        have hb6 : Below w5.heap.size w5 (w5.alloc (.cells #[.slice Av na cv, .slice At nt ct] 26)) := (Below.refl _ _).alloc (Nat.le_refl _) _
        have g5 := HB4.out.trans (hb5.mono HB4.out.size)
        have g6 := g5.trans (hb6.mono g5.size)
        have HB6 := Lib.hid g6
        have hk5 := Blk.below HK4.out hb5
        clear x0 x1 hl4
        obtain ⟨x0, x1⟩ := hk5.pair
        have hl5 := hk5.lt
        have HSA := Lib.hid (same_any (c := c) (d := d) (c' := cv) (d' := ct) HNA.out HNT.out ((HL.out.below g6).pr.small HSP.out).1 (hpr.below hb6) (fun t ht => (((HL.out.below g6).pr.small HSP.out).2.2 t ht).s))
        clear hv hb5 hb6 g5 g6 hpr hk5 HPA
        go_wp2_with fail
        refine HSA.out.mono ?_
        rintro e w7 ⟨rfl, hb7⟩
        have HB7 := Lib.hid (HB6.out.trans (hb7.mono HB6.out.size))
        clear hb7
        go_wp2_with fail
        go_ret
        exact ⟨rfl, HB7.out⟩
    | false =>
      have HOK := Lib.hid hok
      clear hok
      go_wp2_with fail
      refine HSM.out.mono ?_
      rintro e w2 ⟨rfl, hb2⟩
      have g2 := HB1.out.trans (hb2.mono HB1.out.size)
      have HB2 := Lib.hid g2
      have hk2 := Blk.below HK1.out hb2
      clear x0 x1 hl1
      obtain ⟨x0, x1⟩ := hk2.pair
      have hl2 := hk2.lt
      have HK2 := Lib.hid hk2
      have hva := valid_any (c := c) (d := d) HNA.out HNT.out ((HL.out.below g2).pr.small HSP.out).1 (HL.out.below g2).sg ((HL.out.below g2).pr.small HSP.out).2.1 ((HL.out.below g2).pr.small HSP.out).2.2
      rw [HOK.out] at hva
      have HVA := Lib.hid hva
      clear hva
      clear g2 hb2 hk2 HK1 HSM
      go_wp2_with fail
      refine HVA.out.mono ?_
      rintro e w3 ⟨rfl, hb3⟩
      have g3 := HB2.out.trans (hb3.mono HB2.out.size)
      have HB3 := Lib.hid g3
      have hk3 := Blk.below HK2.out hb3
      clear x0 x1 hl2
      obtain ⟨x0, x1⟩ := hk3.pair
      have hl3 := hk3.lt
      have HK3 := Lib.hid hk3
      clear g3 hb3 hk3 HK2 HVA
      go_wp2_with fail
      go_ret
      exact ⟨rfl, HB3.out⟩
  | false =>
    rw [hsp] at hsm
    have HSM := Lib.hid hsm
    clear hsm hsp
    go_wp2_with fail
    refine HSM.out.mono ?_
    rintro e w2 ⟨rfl, hb2⟩
    have g2 := HB1.out.trans (hb2.mono HB1.out.size)
    have HB2 := Lib.hid g2
    have hk2 := Blk.below HK1.out hb2
    clear x0 x1 hl1
    obtain ⟨x0, x1⟩ := hk2.pair
    have hl2 := hk2.lt
    have HK2 := Lib.hid hk2
    clear g2 hb2 hk2 HK1 HSM
    go_wp2_with fail
    go_ret
    exact ⟨rfl, HB2.out⟩
end
end Go.Proofs.YtfakdbnfpdalhaaGreatDoor
