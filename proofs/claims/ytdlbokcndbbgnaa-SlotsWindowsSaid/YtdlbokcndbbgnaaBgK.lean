/- Integers in memory: the greatest common divisor. -/
import Derived.Test.YtdlbokcndbbgnaaBgJ
namespace Go.Proofs.Ytdlbokcndbbgnaa
open Go.RowKit Go.Maps Go.Sort
open BG (val dig)
/-- The number whose digits a slice holds. -/
def msrD (W : World) : Value → Nat
  | .slice (some ⟨b, o, none⟩) n _ => val ((List.range n).map fun i => match W.cell? ⟨b, o + i, none⟩ with
    | some (.int _ z) => z.toNat
    | _ => 0)
  | _ => 0
theorem msrD_eq {W : World} {A : Option Addr} {ds : List Nat} {c : Nat} (h : DG W A ds) : msrD W (.slice A ds.length c) = val ds := by
  by_cases hn : ds = []
  · subst hn
    cases A with
    | none => rfl
    | some p =>
      obtain ⟨b, o, q⟩ := p
      cases q <;> rfl
  · obtain ⟨b, o, cs, m, rfl, h2, h3⟩ := h hn
    unfold msrD
    simp only
    congr 1
    refine List.ext_getElem? fun i => ?_
    rw [List.getElem?_map]
    by_cases hi : i < ds.length
    · rw [List.getElem?_range hi, List.getElem?_eq_getElem hi]
      simp only [Option.map_some]
      rw [cell_of_row W b (o + i) cs _ m h2, h3 i _ (List.getElem?_eq_getElem hi)]
      simp
    · rw [List.getElem?_eq_none (by simpa using hi), List.getElem?_eq_none (by simpa using hi)]; rfl
section
set_option maxHeartbeats 4000000
set_option maxRecDepth 100000
theorem gcd_any (x y : Int) (vx vy : Value) (w : World) (hx : BI w vx x) (hy : BI w vy y) (hl : (dig x.natAbs).length ≤ 1000) (hl' : (dig y.natAbs).length ≤ 1000) :
    Calls Try.prog 48 #[vx, vy] w fun e w' => ∃ v, e = .returned v ∧ BI w' v (Nat.gcd x.natAbs y.natAbs : Nat) ∧ Below w.heap.size w w' := by
  obtain ⟨A, c, rfl, hr, hc⟩ := hx
  obtain ⟨A', c', rfl, hr', hc'⟩ := hy
  generalize decide (x < 0) = nx at *
  generalize decide (y < 0) = ny at *
  generalize x.natAbs = X at *
  generalize y.natAbs = Y at *
  obtain ⟨n, hn⟩ : ∃ n, n = (dig X).length := ⟨_, rfl⟩
  obtain ⟨n', hn'⟩ : ∃ n, n = (dig Y).length := ⟨_, rfl⟩
  rw [← hn] at hl hc ⊢
  rw [← hn'] at hl' hc' ⊢
  have hg := (((Below.refl w.heap.size w).alloc (Nat.le_refl _) (.cells #[.bool nx, .slice A n c] 50)).alloc (by simp) (.cells #[.bool ny, .slice A' n' c'] 50)).alloc (by simp; omega) (.cells #[.bool false, .slice none 0 0] 50)
  have hX := ((Blk.new w 50 #[.bool nx, .slice A n c]).alloc (.cells #[.bool ny, .slice A' n' c'] 50)).alloc (.cells #[.bool false, .slice none 0 0] 50)
  have hY := (blk_second w 50 50 #[.bool nx, .slice A n c] #[.bool ny, .slice A' n' c']).alloc (.cells #[.bool false, .slice none 0 0] 50)
  have hZ := Blk.new ((w.alloc (.cells #[.bool nx, .slice A n c] 50)).alloc (.cells #[.bool ny, .slice A' n' c'] 50)) 50 #[.bool false, .slice none 0 0]
  rw [show ((w.alloc (.cells #[.bool nx, .slice A n c] 50)).alloc (.cells #[.bool ny, .slice A' n' c'] 50)).heap.size = w.heap.size + 2 by simp] at hZ
  have HG := Lib.hid hg
  have HX := Lib.hid hX
  have HY := Lib.hid hY
  have HZ := Lib.hid hZ
  have HR := Lib.hid (hr.below hg)
  have HR' := Lib.hid (hr'.below hg)
  have HN := Lib.hid (And.intro hn hn')
  have HC := Lib.hid (And.intro hc hc')
  clear hg hX hY hZ hr hr' hn hn' hc hc'
  go_enter Try.func48, Try.ntmps48
  go_upto_region 1 with fail
  generalize ((w.alloc (.cells #[.bool nx, .slice A n c] 50)).alloc (.cells #[.bool ny, .slice A' n' c'] 50)).alloc (.cells #[.bool false, .slice none 0 0] 50) = w0 at *
  have x1 := HX.out.pair.2
  have y1 := HY.out.pair.2
  go_quiet (fail)
  have HG1 := Lib.hid (below_drewN HG.out nq)
  have HZ1 := Lib.hid (HZ.out.drewN nq)
  have HR1 := Lib.hid (HR.out.below (show RowKit.Below w0.heap.size w0 (w0.drewN nq) from below_drewN (Below.refl _ _) nq))
  have HR1' := Lib.hid (HR'.out.below (show RowKit.Below w0.heap.size w0 (w0.drewN nq) from below_drewN (Below.refl _ _) nq))
  clear x1 y1 HX HY HG HZ HR HR'
  generalize w0.drewN nq = w1 at *
  go_wp2_with fail
  go_loopw [5, 6] (fun av bv wr => ∃ (p q : Nat) (B1 : Option Addr) (d1 : Nat) (B2 : Option Addr) (d2 : Nat), av = .slice B1 (dig p).length d1 ∧ bv = .slice B2 (dig q).length d2 ∧ Nat.gcd p q = Nat.gcd X Y ∧ DG wr B1 (dig p) ∧ (dig p).length ≤ d1 ∧ (dig p).length ≤ 1000 ∧ DG wr B2 (dig q) ∧ (dig q).length ≤ d2 ∧ (dig q).length ≤ 1000 ∧ Blk wr (w.heap.size + 2) 50 #[.bool false, .slice none 0 0] ∧ Below w.heap.size w wr) (fun _ bv wr => msrD wr bv)
  case atStart => exact ⟨X, Y, A, c, A', c', by rw [HN.out.1], by rw [HN.out.2], rfl, HR1.out, by rw [← HN.out.1]; exact HC.out.1, by rw [← HN.out.1]; exact hl, HR1'.out, by rw [← HN.out.2]; exact HC.out.2, by rw [← HN.out.2]; exact hl', HZ1.out, HG1.out⟩
  case round =>
    obtain ⟨p, q, B1, d1, B2, d2, rfl, rfl, hgcd, hp, hpc, hpl, hq, hqc, hql, hz, hbel⟩ := hrel
    have HGC := Lib.hid hgcd
    have HP := Lib.hid hp
    have HPC := Lib.hid (And.intro hpc hpl)
    have HQ := Lib.hid hq
    have HQC := Lib.hid (And.intro hqc hql)
    have HZ2 := Lib.hid hz
    have HB2 := Lib.hid hbel
    have HMS := Lib.hid (msrD_eq (c := d2) hq)
    obtain ⟨k1, hk1⟩ : ∃ k, k = (dig p).length := ⟨_, rfl⟩
    obtain ⟨k2, hk2⟩ : ∃ k, k = (dig q).length := ⟨_, rfl⟩
    rw [← hk1] at hpl hpc HPC ⊢
    rw [← hk2] at hql hqc HQC HMS ⊢
    have HK := Lib.hid (And.intro hk1 hk2)
    clear hgcd hp hq hz hbel hk1 hk2
    by_cases h0 : q = 0
    · have hk0 : k2 = 0 := by rw [HK.out.2, h0, BG.dig_zero]; rfl
      subst hk0
      have HSG := Lib.hid (signed_any false (dig p) B1 k1 d1 wr HK.out.1.symm HP.out (BG.ok_dig p) (by omega) hpc)
      have HPG := Lib.hid (show val (dig p) = Nat.gcd X Y by rw [BG.val_dig, ← HGC.out, h0, Nat.gcd_zero_right])
      clear h0
      go_wp2_with fail
      refine HSG.out.mono ?_
      rintro e w6 ⟨v6, rfl, hv6, hb6⟩
      have HV6 := Lib.hid hv6
      have HZ6 := Lib.hid (HZ2.out.below hb6)
      have HG6 := Lib.hid (HB2.out.trans (hb6.mono HB2.out.size))
      obtain ⟨A6, c6, rfl, _, _⟩ := hv6
      have f0 := HZ6.out.frozen 0
      have f1 := HZ6.out.frozen 1
      have k0 := HZ6.out.cell 0
      have k1' := HZ6.out.cell 1
      have e1 : decide (sgI false (val (dig p)) < 0) = false := by unfold sgI; simp
      have e2 : (sgI false (val (dig p))).natAbs = val (dig p) := sgI_abs _ _
      rw [e1, e2] at HV6 ⊢
      clear hb6 HSG e1 e2
      go_wp2_with fail
      have hfx := fun (u0 u1 : Value) => ((FxT.refl [50] w6).set HZ6.out (by simp) 0 u0).set (HZ6.out.set_ 0 u0) (by simp) 1 u1
      refine bodyPost_ret (bi_result rfl rfl ((HZ6.out.set_ 0 _).set_ 1 _)) rfl ?_
      refine ⟨_, rfl, ?_, (HG6.out.setCell (p := ⟨w.heap.size + 2, 0, none⟩) (by simp) _).setCell (p := ⟨w.heap.size + 2, 1, none⟩) (by simp) _⟩
      rw [show ((Nat.gcd X Y : Nat) : Int) = sgI false (val (dig p)) by rw [HPG.out]; rfl]
      exact HV6.out.fx (hfx _ _) (by decide)
    · have hq0 : 0 < q := by omega
      have hk0 : 0 < k2 := by rw [HK.out.2, BG.dig_pos h0]; simp
      have r1 : (0 : Int) < (k2 : Int) := by omega
      have HDV := Lib.hid (divide_any p q hq0 B1 B2 k1 d1 k2 d2 wr HK.out.1.symm HK.out.2.symm HP.out HQ.out hpc (by omega) (by omega))
      have HQP := Lib.hid hq0
      clear h0
      go_wp2_with fail
      refine HDV.out.mono ?_
      rintro e w6 ⟨A1, c1, A2, c2, rfl, g1, g2, g3, g4, hb6⟩
      have HG3 := Lib.hid g3
      have HG4 := Lib.hid g4
      have HB6 := Lib.hid hb6
      obtain ⟨k3, hk3⟩ : ∃ k, k = (dig (p % q)).length := ⟨_, rfl⟩
      have HK3 := Lib.hid hk3
      have HM3 := Lib.hid (msrD_eq (c := c2) g3)
      rw [← hk3] at HM3 ⊢
      generalize (dig (p / q)).length = k4 at *
      clear g1 g2 g3 g4 hb6 hk3 HDV
      go_wp2_with fail
      refine ⟨⟨q, p % q, B2, d2, A2, c2, by rw [← HK.out.2], by rw [← HK3.out], ?_, HQ.out.below HB6.out, by rw [← HK.out.2]; exact hqc, by rw [← HK.out.2]; exact hql, HG3.out, HG4.out, ?_, HZ2.out.below HB6.out, HB2.out.trans (HB6.out.mono HB2.out.size)⟩, ?_⟩
      · rw [← HGC.out, Nat.gcd_comm p q, Nat.gcd_comm q, ← Nat.gcd_rec]
      · have h1 := BG.val_lt (BG.ok_dig q)
        rw [BG.val_dig, ← HK.out.2] at h1
        exact Nat.le_trans (BG.dig_len (Nat.lt_trans (Nat.mod_lt p HQP.out) h1)) hql
      · rw [HM3.out, HMS.out, BG.val_dig, BG.val_dig]
        exact Nat.mod_lt p HQP.out
end
end Go.Proofs.Ytdlbokcndbbgnaa
