/- SlotsChecked: Check accepts what Simulate makes, with the same misses. -/
import Derived.Test.YtgfojgabobakdaaSlR
namespace Go.Proofs.Ytgfojgabobakdaa
open Go.RowKit Go.Maps Go.Sort Go.Lib
open SL (Tk Jb Ms Cd)
section
set_option maxHeartbeats 2000000
set_option maxRecDepth 100000
/-- Check on the simulation. -/
theorem chk_ok (p : Pl) (w3 : World) (gs : Nat) (hp : PlIn w3 p) (h : okP p = true) (hS : SchedS w3 gs p.untl.toNat p.untl.toNat (simP p).1) :
    Calls Try.prog 21 #[.slice p.m.A p.m.ts.length p.m.c, .int .i64 p.cores, .slice p.m.rA p.m.rs.length p.m.rc, .slice (some ⟨gs, 0, none⟩) p.untl.toNat p.untl.toNat] w3 fun e w' => ∃ A c, e = .returned (.tuple #[.slice A (simP p).2.length c, .int .i64 0]) ∧
      Row w' A (msC (simP p).2) ∧ Below w3.heap.size w3 w' := by
  have ho := okP_of h
  obtain ⟨n, hn, hn1⟩ := ho.u
  obtain ⟨k, hk, hk1, hk8⟩ := ho.c
  have hl : ((simP p).1.map SL.ints).length = p.untl.toNat := by rw [List.length_map]; exact sched_len hS
  have hr := sched_rel hS
  rw [← hl] at hr ⊢
  have hx := okP_ints ho
  have hmx : maxLen = 9223372036854775807 := rfl
  have hu : p.untl.toNat ≤ 100 := by omega
  have hc := checkS_any p.m p.cores w3 (mc_of hp ho.val) ho.val hp.lx hp.lr _ _ _ hr (by omega) (fun r hr => by have := hx r hr; omega)
  have he : SL.chkS p.m.ts p.m.rs p.cores ((simP p).1.map SL.ints) 0 (List.replicate p.m.ts.length SL.jb0) = ((simP p).2, 0) := by
    have h1 := SL.chk_simulate p.m.ts p.m.rs p.cores.toNat p.untl.toNat
    rw [show ((p.cores.toNat : Nat) : Int) = p.cores from by omega] at h1
    exact h1
  rw [he] at hc
  refine hc.mono ?_
  rintro e w' ⟨v, rfl, how, hb⟩
  obtain ⟨A, c, rfl⟩ := own_slice how
  exact ⟨A, c, rfl, row_own how, hb⟩
theorem checked_walk (p : Pl) (w : World) (hp : PlIn w p) : Calls Try.prog 7 #[.agg (plV p)] w fun e w' => e = .returned (.bool true) ∧ Below w.heap.size w w' := by
  have hnot : ∀ (x : Bool) (w : World), (Op.unary .not (.bool x)).run Try.prog w = .ok (.bool (!x)) w := fun _ _ => rfl
  have hb := (Below.refl w.heap.size w).alloc (Nat.le_refl _) (.cells (plV p) 25)
  have hk := Blk.new w 25 (plV p)
  have HB := Lib.hid hb
  have HK := Lib.hid hk
  have HPI := Lib.hid (hp.below hb)
  have HPV := Lib.hid (show plV p = #[.slice p.m.A p.m.ts.length p.m.c, .int .i64 p.cores, .slice p.m.rA p.m.rs.length p.m.rc, .int .i64 p.untl] from rfl)
  rw [HPV.out] at hk HB HPI HK ⊢
  clear hb hk hp
  go_enter Try.func7, Try.ntmps7
  go_wp2_with fail
  (with_reducible refine (awake_any _).mono ?_)
  rintro e w1 ⟨rfl, hb1⟩
  have HB1 := Lib.hid (HB.out.trans (hb1.mono HB.out.size))
  have HK1 := Lib.hid (HK.out.below hb1)
  have HPI1 := Lib.hid (HPI.out.below hb1)
  obtain ⟨b0, b1, b2, b3⟩ := HK1.out.four.1
  have HSM := Lib.hid (simulated_any p w1 HPI1.out)
  rw [HPV.out] at HSM
  clear hb1
  go_wp2_with fail
  (with_reducible refine HSM.out.mono ?_)
  rintro e w2 ⟨hb2, h2⟩
  have HB2 := Lib.hid (HB1.out.trans (hb2.mono HB1.out.size))
  have HK2 := Lib.hid (HK1.out.below hb2)
  have HPI2 := Lib.hid (HPI1.out.below hb2)
  obtain ⟨c0, c1, c2, c3⟩ := HK2.out.four.1
  clear hb2 HSM
  rcases h2 with ⟨_, rfl⟩ | ⟨hok, gs, mv, rfl, hgs, hS, how⟩
  · go_wp2_with fail
    go_ret
    exact ⟨rfl, HB2.out⟩
  · obtain ⟨A, c, rfl⟩ := own_slice how
    have HR2 := Lib.hid (row_own how)
    have HCH := Lib.hid (chk_ok p w2 gs HPI2.out hok hS)
    have hml := okP_ms (okP_of hok)
    have HML := Lib.hid hml
    clear hok hS how hml
    go_wp2_with fail
    (with_reducible refine HCH.out.mono ?_)
    rintro e w3 ⟨A', c', rfl, hr3, hb3⟩
    have HB3 := Lib.hid (HB2.out.trans (hb3.mono HB2.out.size))
    have HM1 := Lib.hid (misses_any (simP p).2 A c w3 (HR2.out.below hb3) (by have := HML.out; omega))
    have HR3 := Lib.hid hr3
    clear hr3 hb3 HCH
    go_wp2_with fail
    (with_reducible refine HM1.out.mono ?_)
    rintro e w4 ⟨A4, c4, rfl, hr4, hb4⟩
    have HB4 := Lib.hid (HB3.out.trans (hb4.mono HB3.out.size))
    have HM2 := Lib.hid (misses_any (simP p).2 A' c' w4 (HR3.out.below hb4) (by have := HML.out; omega))
    have HR4 := Lib.hid hr4
    clear hr4 hb4 HM1
    go_wp2_with fail
    (with_reducible refine HM2.out.mono ?_)
    rintro e w5 ⟨A5, c5, rfl, hr5, hb5⟩
    have HB5 := Lib.hid (HB4.out.trans (hb5.mono HB4.out.size))
    have HSA := Lib.hid (same_any (simP p).2 A4 A5 c4 c5 w5 (HR4.out.below hb5) hr5 (by have := HML.out; have hmx : maxLen = 9223372036854775807 := rfl; omega))
    clear hr5 hb5 HM2
    go_wp2_with fail
    (with_reducible refine HSA.out.mono ?_)
    rintro e w6 ⟨rfl, q, hw6⟩
    have HB6 := Lib.hid (show Below w.heap.size w w6 by rw [hw6]; exact below_drewN HB5.out q)
    clear hw6 HSA
    go_wp2_with fail
    go_ret
    exact ⟨rfl, HB6.out⟩
end
end Go.Proofs.Ytgfojgabobakdaa
