/- The walk of PrinterPrograms. -/
import Derived.Test.YtfakdbnfpdalhaaDoorRefW
import Derived.Test.YtfakdbnfpdalhaaDoorOpenP
namespace Go.Proofs.YtfakdbnfpdalhaaDoor
open Go.RowKit
open PP (Tree ArrD TaskD ProgD)
/-- What the laws of the printer's that take a program are handed. -/
structure PLArg (w : World) (A T : Option Addr) (p : ProgD) : Prop where
  pr : ProgU w A T p
  ops : OpsIs w
  pow : PowIs w
  sg : SignsIs w
theorem PLArg.below {w w' : World} {A T : Option Addr} {p : ProgD} (h : PLArg w A T p) (hb : Below w.heap.size w w') : PLArg w' A T p :=
  ⟨h.pr.below hb, h.ops.below hb, h.pow.below hb h.pow.lt, h.sg.belowS hb⟩
section
set_option maxHeartbeats 4000000
set_option maxRecDepth 100000
theorem printProg_bad {p : ProgD} {A T : Option Addr} {c d na nt : Nat} {w : World} (hna : p.shared.length = na) (hnt : p.tasks.length = nt) (h : ProgR w A T p) (hg : SignsIs w) (hm : NmArr p.shared) (hm2 : ∀ t ∈ p.tasks, NmTask t) (hok : PP.okProg p = false) :
    Calls Tryd.prog 18 #[.agg #[.slice A na c, .slice T nt d]] w fun e w' => e = .returned (.tuple #[.string ⟨#[]⟩, .int .i64 3]) ∧ Below w.heap.size w w' := by
  have hnot : ∀ (x : Bool) (w : World), (Op.unary .not (.bool x)).run Tryd.prog w = .ok (.bool (!x)) w := fun _ _ => rfl
  have hb1 : Below w.heap.size w (w.alloc (.cells #[.slice A na c, .slice T nt d] 39)) := (Below.refl _ _).alloc (Nat.le_refl _) _
  have hv := valid_any (c := c) (d := d) hna hnt (h.below hb1) (hg.belowS hb1) hm hm2
  rw [hok] at hv
  have HV := Lib.hid hv
  have HB1 := Lib.hid hb1
  clear h hb1 hv hok hm hm2 hg hna hnt
  go_enter Tryd.func18, Tryd.ntmps18
  go_wp2_with fail
  refine HV.out.mono ?_
  rintro e w2 ⟨rfl, hb2⟩
  have HB2 := Lib.hid (HB1.out.trans (hb2.mono HB1.out.size))
  clear hb2
  go_wp2_with fail
  go_ret2
  exact ⟨rfl, HB2.out⟩
theorem programs14_walk {p : ProgD} {A T : Option Addr} {c d na nt : Nat} {w : World} (hna : p.shared.length = na) (hnt : p.tasks.length = nt) (h : PLArg w A T p) :
    Calls Tryd.prog 5 #[.agg #[.slice A na c, .slice T nt d]] w fun e w' => e = .returned (.bool true) ∧ Below w.heap.size w w' := by
  have hnot : ∀ (x : Bool) (w : World), (Op.unary .not (.bool x)).run Tryd.prog w = .ok (.bool (!x)) w := fun _ _ => rfl
  have hb : Below w.heap.size w (w.alloc (.cells #[.slice A na c, .slice T nt d] 39)) := (Below.refl _ _).alloc (Nat.le_refl _) _
  have hblk := Blk.new w 39 #[.slice A na c, .slice T nt d]
  have h1 := h.below hb
  have HAW := Lib.hid (awake14_any _ h1.ops h1.pow h1.sg)
  have HL := Lib.hid h
  have HB0 := Lib.hid hb
  have HK0 := Lib.hid hblk
  have HNA := Lib.hid hna
  have HNT := Lib.hid hnt
  have x0 := True.intro
  have x1 := True.intro
  have hl0 := True.intro
  clear h hb hblk h1 hna hnt
  go_enter Tryd.func5, Tryd.ntmps5
  go_wp2_with fail
  refine HAW.out.mono ?_
  rintro e w1 ⟨rfl, hb1⟩
  have g1 := HB0.out.trans (hb1.mono HB0.out.size)
  have HB1 := Lib.hid g1
  have hk1 := Blk.below HK0.out hb1
  clear x0 x1 hl0
  obtain ⟨x0, x1⟩ := hk1.pair
  have hl1 := hk1.lt
  have HK1 := Lib.hid hk1
  have hsm := smallProg_any (c := c) (d := d) HNA.out HNT.out (HL.out.below g1).pr
  clear g1 hb1 hk1 HK0 HAW
  cases hsp : PP.smP p with
  | true =>
    rw [hsp] at hsm
    have HSM := Lib.hid hsm
    have HSP := Lib.hid hsp
    clear hsm hsp
    cases hok : PP.okProg p with
    | true =>
      have HOK := Lib.hid hok
      clear hok
      go_wp2_with fail
      refine HSM.out.mono ?_
      rintro e w2 ⟨rfl, hb2⟩
      have g2 := HB1.out.trans (hb2.mono HB1.out.size)
      have HB2 := Lib.hid g2
      have hk2 := Blk.below HK1.out hb2
      clear x0 x1 hl1
      obtain ⟨x0, x1⟩ := hk2.pair
      have hl2 := hk2.lt
      have HK2 := Lib.hid hk2
      have HPP := Lib.hid (printProg_ok (c := c) (d := d) HNA.out HNT.out ((HL.out.below g2).pr.small HSP.out).1 (HL.out.below g2).ops (HL.out.below g2).pow (HL.out.below g2).sg ((HL.out.below g2).pr.small HSP.out).2.1 ((HL.out.below g2).pr.small HSP.out).2.2 HOK.out)
      clear g2 hb2 hk2 HK1 HSM
      go_wp2_with fail
      refine HPP.out.mono ?_
      rintro e w3 ⟨rfl, hb3⟩
      have g3 := HB2.out.trans (hb3.mono HB2.out.size)
      have HB3 := Lib.hid g3
      have hk3 := Blk.below HK2.out hb3
      clear x0 x1 hl2
      obtain ⟨x0, x1⟩ := hk3.pair
      have hl3 := hk3.lt
      have HK3 := Lib.hid hk3
      have hva := valid_any (c := c) (d := d) HNA.out HNT.out ((HL.out.below g3).pr.small HSP.out).1 (HL.out.below g3).sg ((HL.out.below g3).pr.small HSP.out).2.1 ((HL.out.below g3).pr.small HSP.out).2.2
      rw [HOK.out] at hva
      have HVA := Lib.hid hva
      clear hva
      clear g3 hb3 hk3 HK2 HPP
      go_wp2_with fail
      refine HVA.out.mono ?_
      rintro e w4 ⟨rfl, hb4⟩
      have g4 := HB3.out.trans (hb4.mono HB3.out.size)
      have HB4 := Lib.hid g4
      have hk4 := Blk.below HK3.out hb4
      clear x0 x1 hl3
      obtain ⟨x0, x1⟩ := hk4.pair
      have hl4 := hk4.lt
      have HK4 := Lib.hid hk4
      have HRP := Lib.hid (refProg_ok (c := c) (d := d) HNA.out HNT.out ((HL.out.below g4).pr.small HSP.out).1 HOK.out)
      generalize (⟨(PP.prP p).toArray⟩ : ByteArray) = TXT at *
      clear g4 hb4 hk4 HK3 HVA
      go_wp2_with fail
      refine HRP.out.mono ?_
      rintro e w5 ⟨rfl, hb5⟩
      have g5 := HB4.out.trans (hb5.mono HB4.out.size)
      have HB5 := Lib.hid g5
      have hk5 := Blk.below HK4.out hb5
      clear x0 x1 hl4
      obtain ⟨x0, x1⟩ := hk5.pair
      have hl5 := hk5.lt
      have HK5 := Lib.hid hk5
      clear g5 hb5 hk5 HK4 HRP
      go_wp2_with fail
      go_ret
      exact ⟨rfl, HB5.out⟩
    | false =>
      have HOK := Lib.hid hok
      clear hok
      go_wp2_with fail
      refine HSM.out.mono ?_
      rintro e w2 ⟨rfl, hb2⟩
      have g2 := HB1.out.trans (hb2.mono HB1.out.size)
      have HB2 := Lib.hid g2
      have hk2 := Blk.below HK1.out hb2
      clear x0 x1 hl1
      obtain ⟨x0, x1⟩ := hk2.pair
      have hl2 := hk2.lt
      have HK2 := Lib.hid hk2
      have HPP := Lib.hid (printProg_bad (c := c) (d := d) HNA.out HNT.out ((HL.out.below g2).pr.small HSP.out).1 (HL.out.below g2).sg ((HL.out.below g2).pr.small HSP.out).2.1 ((HL.out.below g2).pr.small HSP.out).2.2 HOK.out)
      clear g2 hb2 hk2 HK1 HSM
      go_wp2_with fail
      refine HPP.out.mono ?_
      rintro e w3 ⟨rfl, hb3⟩
      have g3 := HB2.out.trans (hb3.mono HB2.out.size)
      have HB3 := Lib.hid g3
      have hk3 := Blk.below HK2.out hb3
      clear x0 x1 hl2
      obtain ⟨x0, x1⟩ := hk3.pair
      have hl3 := hk3.lt
      have HK3 := Lib.hid hk3
      have hva := valid_any (c := c) (d := d) HNA.out HNT.out ((HL.out.below g3).pr.small HSP.out).1 (HL.out.below g3).sg ((HL.out.below g3).pr.small HSP.out).2.1 ((HL.out.below g3).pr.small HSP.out).2.2
      rw [HOK.out] at hva
      have HVA := Lib.hid hva
      clear hva
      clear g3 hb3 hk3 HK2 HPP
      go_wp2_with fail
      refine HVA.out.mono ?_
      rintro e w4 ⟨rfl, hb4⟩
      have g4 := HB3.out.trans (hb4.mono HB3.out.size)
      have HB4 := Lib.hid g4
      have hk4 := Blk.below HK3.out hb4
      clear x0 x1 hl3
      obtain ⟨x0, x1⟩ := hk4.pair
      have hl4 := hk4.lt
      have HK4 := Lib.hid hk4
      clear g4 hb4 hk4 HK3 HVA
      go_wp2_with fail
      go_ret
      exact ⟨rfl, HB4.out⟩
  | false =>
    rw [hsp] at hsm
    have HSM := Lib.hid hsm
    clear hsm hsp
    go_wp2_with fail
    refine HSM.out.mono ?_
    rintro e w2 ⟨rfl, hb2⟩
    have g2 := HB1.out.trans (hb2.mono HB1.out.size)
    have HB2 := Lib.hid g2
    have hk2 := Blk.below HK1.out hb2
    clear x0 x1 hl1
    obtain ⟨x0, x1⟩ := hk2.pair
    have hl2 := hk2.lt
    have HK2 := Lib.hid hk2
    clear g2 hb2 hk2 HK1 HSM
    go_wp2_with fail
    go_ret
    exact ⟨rfl, HB2.out⟩
end
end Go.Proofs.YtfakdbnfpdalhaaDoor
