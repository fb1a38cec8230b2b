/- SlotsOptimal: where the load fits the cores, the schedule misses no deadline. -/
import Derived.Test.YtdlbokcndbbgnaaSlR
import Derived.Test.YtdlbokcndbbgnaaBgR
namespace Go.Proofs.Ytdlbokcndbbgnaa
open Go.RowKit Go.Maps Go.Sort Go.Lib
open SL (Tk Jb Ms Cd)
theorem cores_big {k : Nat} (h : k ≤ 8) : k < BG.B ^ 200 := Nat.lt_of_le_of_lt h (by decide)
/-- taskset.Fits at a plan that is valid. -/
theorem fits_plan (p : Pl) (w : World) (hp : PlIn w p) (h : okP p = true) :
    Calls Try.prog 7 #[.slice p.m.A p.m.ts.length p.m.c, .int .i64 p.cores] w fun e w' => ∃ b, e = .returned (.bool b) ∧ (b = true ↔ SL.okTs p.m.ts = true ∧ PD.fitsP p.m.ts p.cores.toNat) ∧ Below w.heap.size w w' := by
  obtain ⟨k, hk, hk1, hk8⟩ := (okP_of h).c
  have := fits_any p.m.ts k (by omega) (cores_big (by omega)) p.m.A p.m.ts.length p.m.c w rfl (mc_of hp (okP_of h).val).row
  rw [hk]
  exact this
section
set_option maxHeartbeats 2000000
set_option maxRecDepth 100000
theorem optimal_walk (p : Pl) (w : World) (hp : PlIn w p) : Calls Try.prog 3 #[.agg (plV p)] w fun e w' => e = .returned (.bool true) ∧ Below w.heap.size w w' := by
  have hb := (Below.refl w.heap.size w).alloc (Nat.le_refl _) (.cells (plV p) 25)
  have hk := Blk.new w 25 (plV p)
  have HB := Lib.hid hb
  have HK := Lib.hid hk
  have HPI := Lib.hid (hp.below hb)
  have HPV := Lib.hid (show plV p = #[.slice p.m.A p.m.ts.length p.m.c, .int .i64 p.cores, .slice p.m.rA p.m.rs.length p.m.rc, .int .i64 p.untl] from rfl)
  rw [HPV.out] at hk HB HPI HK ⊢
  clear hb hk hp
  go_enter Try.func3, Try.ntmps3
  go_wp2_with fail
  (with_reducible refine (awake_any _).mono ?_)
  rintro e w1 ⟨rfl, hb1⟩
  have HB1 := Lib.hid (HB.out.trans (hb1.mono HB.out.size))
  have HK1 := Lib.hid (HK.out.below hb1)
  have HPI1 := Lib.hid (HPI.out.below hb1)
  obtain ⟨b0, b1, b2, b3⟩ := HK1.out.four.1
  have HSM := Lib.hid (simulated_any p w1 HPI1.out)
  rw [HPV.out] at HSM
  clear hb1
  go_wp2_with fail
  (with_reducible refine HSM.out.mono ?_)
  rintro e w2 ⟨hb2, h2⟩
  have HB2 := Lib.hid (HB1.out.trans (hb2.mono HB1.out.size))
  have HK2 := Lib.hid (HK1.out.below hb2)
  have HPI2 := Lib.hid (HPI1.out.below hb2)
  obtain ⟨c0, c1, c2, c3⟩ := HK2.out.four.1
  clear hb2 HSM
  rcases h2 with ⟨_, rfl⟩ | ⟨hok, gs, mv, rfl, hgs, hS, how⟩
  · go_wp2_with fail
    go_ret
    exact ⟨rfl, HB2.out⟩
  · obtain ⟨A, c, rfl⟩ := own_slice how
    have HFI := Lib.hid (fits_plan p w2 HPI2.out hok)
    have ho := okP_of hok
    have HNM := Lib.hid (show PD.fitsP p.m.ts p.cores.toNat → ((simP p).2.length : Int) = 0 from fun hf => by
      obtain ⟨k, hk, hk1, hk8⟩ := ho.c
      have hv := ho.val
      rw [hk] at hv hf
      have := PD.no_miss (n := p.untl.toNat) hv hf
      unfold simP
      rw [hk]
      show (((SL.simulate p.m.ts p.m.rs k p.untl.toNat).2.length : Nat) : Int) = 0
      rw [this]; rfl)
    clear hok hS how ho
    go_wp2_with fail
    (with_reducible refine HFI.out.mono ?_)
    rintro e w3 ⟨b, rfl, hbb, hb3⟩
    have HB3 := Lib.hid (HB2.out.trans (hb3.mono HB2.out.size))
    clear hb3 HFI
    cases b with
    | false =>
      clear hbb
      go_wp2_with fail
      go_ret
      exact ⟨rfl, HB3.out⟩
    | true =>
      have hz := HNM.out (hbb.1 rfl).2
      clear hbb
      generalize hL : ((simP p).2.length : Int) = L at *
      subst hz
      go_wp2_with fail
      go_ret
      exact ⟨rfl, HB3.out⟩
end
end Go.Proofs.Ytdlbokcndbbgnaa
