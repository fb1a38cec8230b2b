/- SlotsSimulate: the simulation is the reference's, slot by slot. -/
import Derived.Test.YtgfojgabobakdaaLawSlCheck
import Derived.Test.YtgfojgabobakdaaSlZ4
import Derived.Test.YtgfojgabobakdaaSlR
namespace Go.Proofs.Ytgfojgabobakdaa
open Go.RowKit Go.Maps Go.Sort Go.Lib
open SL (Tk Jb Ms Cd)
section
set_option maxHeartbeats 2000000
set_option maxRecDepth 100000
theorem simulate_walk (p : Pl) (w : World) (hp : PlIn w p) :
    Calls Try.prog 3 #[.agg (plV p)] w fun e w' => e = .returned (.bool true) ∧ Below w.heap.size w w' := by
  have hnot : ∀ (x : Bool) (w : World), (Op.unary .not (.bool x)).run Try.prog w = .ok (.bool (!x)) w := fun _ _ => rfl
  have mixed : Try.prog.follows .mixedOrders = true := by kernel_rfl
  obtain ⟨i3, mi, mz0, mz1, mz2⟩ := info_parts infoInts
  have J0 := Lib.hid mi
  have J1 := Lib.hid mz0
  have J2 := Lib.hid mz1
  have J3 := Lib.hid mz2
  obtain ⟨⟨ts, TA, tc, rs, rA, rc⟩, cores, untl⟩ := p
  have hb := (Below.refl w.heap.size w).alloc (Nat.le_refl _) (.cells (plV ⟨⟨ts, TA, tc, rs, rA, rc⟩, cores, untl⟩) 25)
  have hk := Blk.new w 25 (plV ⟨⟨ts, TA, tc, rs, rA, rc⟩, cores, untl⟩)
  have HB := Lib.hid hb
  have HK := Lib.hid hk
  have HPI := Lib.hid (hp.below hb)
  have HPV := Lib.hid (show plV ⟨⟨ts, TA, tc, rs, rA, rc⟩, cores, untl⟩ = #[.slice TA ts.length tc, .int .i64 cores, .slice rA rs.length rc, .int .i64 untl] from rfl)
  rw [HPV.out] at hk HB HPI HK ⊢
  clear hb hk hp mi mz0 mz1 mz2
  go_enter Try.func3, Try.ntmps3
  go_wp2_with fail
  (with_reducible refine (awake_any _).mono ?_)
  rintro e w1 ⟨rfl, hb1⟩
  have HB1 := Lib.hid (HB.out.trans (hb1.mono HB.out.size))
  have HK1 := Lib.hid (HK.out.below hb1)
  have HPI1 := Lib.hid (HPI.out.below hb1)
  have HGR := Lib.hid (great_any ⟨⟨ts, TA, tc, rs, rA, rc⟩, cores, untl⟩ w1 HPI1.out)
  rw [HPV.out] at HGR
  obtain ⟨b0, b1, b2, b3⟩ := HK1.out.four.1
  clear hb1 HPI HK
  cases hG : greatP ⟨⟨ts, TA, tc, rs, rA, rc⟩, cores, untl⟩ with
  | true =>
    rw [hG] at HGR
    clear hG
    go_wp2_with fail
    (with_reducible refine HGR.out.mono ?_)
    rintro e w2 ⟨rfl, hb2⟩
    have HB2 := Lib.hid (HB1.out.trans (hb2.mono HB1.out.size))
    clear hb2 HGR
    go_wp2_with fail
    go_ret
    exact ⟨rfl, HB2.out⟩
  | false =>
    obtain ⟨g1, g2, g3, g4⟩ := great_parts hG
    have HGP := Lib.hid hG
    rw [hG] at HGR
    simp only at g1 g2 g3 g4
    have HG3 := Lib.hid g3
    clear g3 g4 hG
    go_wp2_with fail
    (with_reducible refine HGR.out.mono ?_)
    rintro e w2 ⟨rfl, hb2⟩
    have HB2 := Lib.hid (HB1.out.trans (hb2.mono HB1.out.size))
    have HK2 := Lib.hid (HK1.out.below hb2)
    have HPI2 := Lib.hid (HPI1.out.below hb2)
    obtain ⟨c0, c1, c2, c3⟩ := HK2.out.four.1
    clear hb2 HGR b0 b1 b2 b3
    cases hv : SL.valid ts cores rs with
    | false =>
      have HCH := Lib.hid (simulate_bad ⟨ts, TA, tc, rs, rA, rc⟩ cores untl w2 HPI2.out.row HPI2.out.rel hv HPI2.out.lx HPI2.out.lr)
      rw [show Mdl.tv ⟨ts, TA, tc, rs, rA, rc⟩ = .slice TA ts.length tc from rfl, show Mdl.rv ⟨ts, TA, tc, rs, rA, rc⟩ = .slice rA rs.length rc from rfl] at HCH
      have HV := Lib.hid hv
      clear hv
      go_wp2_with fail
      (with_reducible refine HCH.out.mono ?_)
      rintro e w3 ⟨rfl, hb3⟩
      have HB3 := Lib.hid (HB2.out.trans (hb3.mono HB2.out.size))
      have HK3 := Lib.hid (HK2.out.below hb3)
      have HPI3 := Lib.hid (HPI2.out.below hb3)
      obtain ⟨k0, k1, k2, k3⟩ := HK3.out.four.1
      have HPL := Lib.hid (plain_any ts TA tc w3 HPI3.out.row (by omega))
      clear hb3 HCH c0 c1 c2 c3
      go_wp2_with fail
      (with_reducible refine HPL.out.mono ?_)
      rintro e w4 ⟨PA, pc, rfl, hpr, hb4⟩
      have HB4 := Lib.hid (HB3.out.trans (hb4.mono HB3.out.size))
      have HK4 := Lib.hid (HK3.out.below hb4)
      have HPI4 := Lib.hid (HPI3.out.below hb4)
      have HPR := Lib.hid hpr
      obtain ⟨l0, l1, l2, l3⟩ := HK4.out.four.1
      have HRV := Lib.hid (rvalid_any ts PA pc rs (.slice rA rs.length rc) cores w4 hpr HPI4.out.rel HPI4.out.lx)
      rw [HV.out] at HRV
      clear hb4 HPL k0 k1 k2 k3 hpr
      go_wp2_with fail
      (with_reducible refine HRV.out.mono ?_)
      rintro e w5 ⟨rfl, q, hw5⟩
      have hb5 : Below w4.heap.size w4 w5 := by rw [hw5]; exact below_drewN (Below.refl _ _) q
      have HB5 := Lib.hid (HB4.out.trans (hb5.mono HB4.out.size))
      have HK5 := Lib.hid (HK4.out.below hb5)
      have HPI5 := Lib.hid (HPI4.out.below hb5)
      have HPR5 := Lib.hid (HPR.out.below hb5)
      obtain ⟨m0, m1, m2, m3⟩ := HK5.out.four.1
      clear hw5 HRV l0 l1 l2 l3
      go_wp2_with fail
      go_ret
      exact ⟨rfl, HB5.out⟩
    | true =>
      by_cases hu : untl < 0
      · have d1 : decide (untl < 0) = true := decide_eq_true hu
        have HCH := Lib.hid (simulate_neg ⟨ts, TA, tc, rs, rA, rc⟩ cores untl w2 HPI2.out.row HPI2.out.rel hv HPI2.out.lx HPI2.out.lr hu)
        rw [show Mdl.tv ⟨ts, TA, tc, rs, rA, rc⟩ = .slice TA ts.length tc from rfl, show Mdl.rv ⟨ts, TA, tc, rs, rA, rc⟩ = .slice rA rs.length rc from rfl] at HCH
        have HV := Lib.hid hv
        clear hv hu
        go_wp2_with fail
        (with_reducible refine HCH.out.mono ?_)
        rintro e w3 ⟨rfl, hb3⟩
        have HB3 := Lib.hid (HB2.out.trans (hb3.mono HB2.out.size))
        have HK3 := Lib.hid (HK2.out.below hb3)
        have HPI3 := Lib.hid (HPI2.out.below hb3)
        obtain ⟨k0, k1, k2, k3⟩ := HK3.out.four.1
        have HPL := Lib.hid (plain_any ts TA tc w3 HPI3.out.row (by omega))
        clear hb3 HCH c0 c1 c2 c3
        go_wp2_with fail
        (with_reducible refine HPL.out.mono ?_)
        rintro e w4 ⟨PA, pc, rfl, hpr, hb4⟩
        have HB4 := Lib.hid (HB3.out.trans (hb4.mono HB3.out.size))
        have HK4 := Lib.hid (HK3.out.below hb4)
        have HPI4 := Lib.hid (HPI3.out.below hb4)
        have HPR := Lib.hid hpr
        obtain ⟨l0, l1, l2, l3⟩ := HK4.out.four.1
        have HRV := Lib.hid (rvalid_any ts PA pc rs (.slice rA rs.length rc) cores w4 hpr HPI4.out.rel HPI4.out.lx)
        rw [HV.out] at HRV
        clear hb4 HPL k0 k1 k2 k3 hpr
        go_wp2_with fail
        (with_reducible refine HRV.out.mono ?_)
        rintro e w5 ⟨rfl, q, hw5⟩
        have hb5 : Below w4.heap.size w4 w5 := by rw [hw5]; exact below_drewN (Below.refl _ _) q
        have HB5 := Lib.hid (HB4.out.trans (hb5.mono HB4.out.size))
        have HK5 := Lib.hid (HK4.out.below hb5)
        have HPI5 := Lib.hid (HPI4.out.below hb5)
        have HPR5 := Lib.hid (HPR.out.below hb5)
        obtain ⟨m0, m1, m2, m3⟩ := HK5.out.four.1
        clear hw5 HRV l0 l1 l2 l3
        go_wp2_with fail
        go_ret
        exact ⟨rfl, HB5.out⟩
      · have d1 : decide (untl < 0) = false := decide_eq_false hu
        obtain ⟨n, rfl⟩ : ∃ n : Nat, untl = (n : Int) := ⟨untl.toNat, by omega⟩
        have hok : okP ⟨⟨ts, TA, tc, rs, rA, rc⟩, cores, (n : Int)⟩ = true := by
          unfold okP valP
          rw [HGP.out]
          simp only [hv, Bool.not_false, Bool.true_and, decide_eq_true_eq]
          omega
        have HCH := Lib.hid (sim_ok ⟨⟨ts, TA, tc, rs, rA, rc⟩, cores, (n : Int)⟩ w2 HPI2.out hok)
        simp only [Int.toNat_natCast] at HCH
        obtain ⟨cN, hcN, hc1, hc8⟩ := (okP_of hok).c
        simp only at hcN
        have HSR := Lib.hid (show (∀ i row, (simP ⟨⟨ts, TA, tc, rs, rA, rc⟩, cores, (n : Int)⟩).1[i]? = some row → row = SL.nextR ts rs (((simP ⟨⟨ts, TA, tc, rs, rA, rc⟩, cores, (n : Int)⟩).1.map SL.ints).take i) cores i) ∧ (simP ⟨⟨ts, TA, tc, rs, rA, rc⟩, cores, (n : Int)⟩).2 = SL.missL ts rs ((simP ⟨⟨ts, TA, tc, rs, rA, rc⟩, cores, (n : Int)⟩).1.map SL.ints) (((simP ⟨⟨ts, TA, tc, rs, rA, rc⟩, cores, (n : Int)⟩).1.map SL.ints).length + 1) from by
          subst hcN
          exact SL.sim_ref (n := n) hv)
        have hml := okP_ms (okP_of hok)
        have HML := Lib.hid hml
        have HIL := Lib.hid (okP_ints (okP_of hok))
        have HV := Lib.hid hv
        obtain ⟨p1, p2, p3, p4, p5⟩ := val_parts hv
        have HOT := Lib.hid (SL.okTs_all p1)
        have HRG := Lib.hid (okRels_ge p5 p4)
        have HRLL := Lib.hid p4
        clear hv hu hok hml p1 p2 p3 p4 p5 hcN hc1 hc8
        generalize simP ⟨⟨ts, TA, tc, rs, rA, rc⟩, cores, (n : Int)⟩ = Q at *
        obtain ⟨T, L⟩ := Q
        simp only at HCH HSR HML HIL
        go_wp2_with fail
        (with_reducible refine HCH.out.mono ?_)
        rintro e w3 ⟨gs, mv, rfl, hgs, hS, how, hb3⟩
        obtain ⟨mA, mc, rfl⟩ := own_slice how
        have HRM := Lib.hid (row_own how)
        have HRS := Lib.hid (sched_rel hS)
        have HTL := Lib.hid (sched_len hS)
        clear hS how
        have HB3 := Lib.hid (HB2.out.trans (hb3.mono HB2.out.size))
        have HK3 := Lib.hid (HK2.out.below hb3)
        have HPI3 := Lib.hid (HPI2.out.below hb3)
        obtain ⟨k0, k1, k2, k3⟩ := HK3.out.four.1
        have HPL := Lib.hid (plain_any ts TA tc w3 HPI3.out.row (by omega))
        clear hb3 HCH c0 c1 c2 c3
        go_wp2_with fail
        (with_reducible refine HPL.out.mono ?_)
        rintro e w4 ⟨PA, pc, rfl, hpr, hb4⟩
        have HB4 := Lib.hid (HB3.out.trans (hb4.mono HB3.out.size))
        have HK4 := Lib.hid (HK3.out.below hb4)
        have HPI4 := Lib.hid (HPI3.out.below hb4)
        have HPR := Lib.hid hpr
        have HRM4 := Lib.hid (HRM.out.below hb4)
        have HRS4 := Lib.hid (HRS.out.below hb4)
        obtain ⟨l0, l1, l2, l3⟩ := HK4.out.four.1
        have HRV := Lib.hid (rvalid_any ts PA pc rs (.slice rA rs.length rc) cores w4 hpr HPI4.out.rel HPI4.out.lx)
        rw [HV.out] at HRV
        clear hb4 HPL k0 k1 k2 k3 hpr
        go_wp2_with fail
        (with_reducible refine HRV.out.mono ?_)
        rintro e w5 ⟨rfl, q, hw5⟩
        have hb5 : Below w4.heap.size w4 w5 := by rw [hw5]; exact below_drewN (Below.refl _ _) q
        have HB5 := Lib.hid (HB4.out.trans (hb5.mono HB4.out.size))
        have HK5 := Lib.hid (HK4.out.below hb5)
        have HPI5 := Lib.hid (HPI4.out.below hb5)
        have HPR5 := Lib.hid (HPR.out.below hb5)
        obtain ⟨m0, m1, m2, m3⟩ := HK5.out.four.1
        have HRM5 := Lib.hid (HRM4.out.below hb5)
        have HRS5 := Lib.hid (HRS4.out.below hb5)
        have hlt5 : w.heap.size < w5.heap.size := HK5.out.lt
        have HN5 := Lib.hid (And.intro m1 (And.intro m2 m3))
        clear hw5 hb5 HRV l0 l1 l2 l3 HPV HB1 HB2 HB3 HB4 HK1 HK2 HK3 HK4 HPI1 HPI2 HPI3 HPI4 HRM HRM4 HRS HRS4 HPR HGP HV
        go_wp2_with fail
        go_loopw [7, 8] (fun dv v wr => ∃ (t : Nat) (hs : List Value), t ≤ n ∧ v = .int .i64 (t : Int) ∧ wr.ownsRow w5.heap.size 36 1 dv t hs ∧ Hid (∀ (i : Nat) (row : List Nat), (T.take t)[i]? = some row → ∃ (Ai : Option Addr) (ci : Nat), hs[i]? = some (.slice Ai row.length ci) ∧ RowI wr Ai ((SL.ints row).map (Value.int .i64))) ∧ Below w5.heap.size w5 wr) (fun _ v _ => n - (intOf v).toNat)
        case atStart => exact ⟨0, [], Nat.zero_le _, rfl, World.ownsRow_nil _ _ _ _, Lib.hid (fun i row h => by simp at h), Below.refl _ _⟩
        case round =>
          obtain ⟨t, hs, ht, rfl, how, HIN, hbw⟩ := hrel
          obtain ⟨dA, dc, rfl⟩ := own_form how
          have HO := Lib.hid how
          have HBW := Lib.hid hbw
          have hRD : RelV wr (.slice dA t dc) ((T.map SL.ints).take t) := by
            have hl0 : ((T.map SL.ints).take t).length = t := by rw [List.length_take, List.length_map]; have := HTL.out; omega
            refine ⟨dA, dc, hs, by rw [hl0], by rw [hl0]; have := how.1; omega, row_own how, fun i r hi => ?_⟩
            rw [← List.map_take, List.getElem?_map] at hi
            obtain ⟨row, h0, rfl⟩ := Option.map_eq_some_iff.1 hi
            obtain ⟨Ai, ci, g1, g2⟩ := HIN.out i row h0
            exact ⟨Ai, ci, by rw [g1]; simp [SL.ints], g2.row⟩
          have HRD := Lib.hid hRD
          have n1 := (hbw.cell (p := ⟨w.heap.size, 1, none⟩) hlt5).trans HN5.out.1
          have n2 := (hbw.cell (p := ⟨w.heap.size, 2, none⟩) hlt5).trans HN5.out.2.1
          have n3 := (hbw.cell (p := ⟨w.heap.size, 3, none⟩) hlt5).trans HN5.out.2.2
          have hs6 := hbw.size
          have HPI6 := Lib.hid (HPI5.out.below hbw)
          have HPR6 := Lib.hid (HPR5.out.below hbw)
          by_cases hlt : t < n
          · have q0 : (t : Int) < (n : Int) := by omega
            obtain ⟨row, hrow⟩ : ∃ row, T[t]? = some row := ⟨_, List.getElem?_eq_getElem (by have := HTL.out; omega)⟩
            have hl0 : ((T.map SL.ints).take t).length = t := by rw [List.length_take, List.length_map]; have := HTL.out; omega
            have HNX := Lib.hid (rnext_any ts PA pc rs rA rc ((T.map SL.ints).take t) dA t dc cores wr HPR6.out HOT.out g1 HPI6.out.rel HRLL.out HG3.out HRG.out hRD (by omega) (fun r hr => by have := HIL.out r (List.mem_of_mem_take hr); have hmx : maxLen = 9223372036854775807 := rfl; omega))
            rw [hl0, ← HSR.out.1 t row hrow] at HNX
            have HTK := Lib.hid (show T.take (t + 1) = T.take t ++ [row] from SL.take_snoc hrow)
            clear hrow hl0 hRD how hbw
            generalize wr = w6 at *
            go_wp2_with fail
            (with_reducible refine HNX.out.mono ?_)
            rintro e w7 ⟨v, rfl, how7, hb7⟩
            obtain ⟨eA, ec, rfl⟩ := own_form how7
            have HRW := Lib.hid (rowI_own how7)
            have f0 : FxT [] w6 w7 := (FxT.refl [] w6).below hb7
            have HO7 := Lib.hid (own_fx HO.out f0 (by simp))
            have HIN7 := Lib.hid (show ∀ (i : Nat) (r : List Nat), (T.take t)[i]? = some r → ∃ (Ai : Option Addr) (ci : Nat), hs[i]? = some (.slice Ai r.length ci) ∧ RowI w7 Ai ((SL.ints r).map (Value.int .i64)) from fun i r h => by
              obtain ⟨Ai, ci, g1, g2⟩ := HIN.out i r h
              exact ⟨Ai, ci, g1, g2.fx f0 (by simp)⟩)
            have HB7 := Lib.hid (HBW.out.trans (hb7.mono HBW.out.size))
            have hs7 := HB7.out.size
            clear how7 hb7 f0 HNX HRD
            go_wp2_with (at_builtin; refine wpList_append_own _ rfl _ _ 23 rfl w5.heap.size 36 i3 (.slice none 0 0) 1 24 Try.underlying23 J0.out J1.out J2.out J3.out rfl (by decide) _ _ _ rfl (HO7.out.alloc _) ⟨w7.heap.size, 0, none⟩ 1 1 [.slice eA row.length ec] rfl rfl ?c1 ?c2 ?c3 ?c4 ?c5 ?_)
            case c1 => exact World.news_of_block (cs := #[.slice eA row.length ec]) (Blk.new w7 _ _)
            case c2 => intro u hu; simp at hu; subst hu; rfl
            case c3 => unfold maxLen; omega
            case c4 => omega
            case c5 => first | omega | (simp; omega)
            intro v' w8 hown8 hg8 _
            obtain ⟨vA, vc, rfl⟩ := own_form hown8
            have how8 := HO7.out.alloc (.cells #[.slice eA row.length ec] 36)
            have hlt8 := how8.lt
            have f8 : FxT [36] w7 w8 := ((FxT.refl [36] w7).alloc _).grown hg8 (own_row how8 (by simp))
            have HB8 := Lib.hid (show Below w5.heap.size w5 w8 from Below.grown (HB7.out.alloc hs7 (.cells #[.slice eA row.length ec] 36)) hg8 (by simp; omega) (fun k hk => (hlt8 k hk).1))
            have hsl : hs.length = t := by have h := HO7.out.1; omega
            have HI8 := Lib.hid (show ∀ (i : Nat) (r : List Nat), (T.take (t + 1))[i]? = some r → ∃ (Ai : Option Addr) (ci : Nat), (hs ++ [.slice eA row.length ec])[i]? = some (.slice Ai r.length ci) ∧ RowI w8 Ai ((SL.ints r).map (Value.int .i64)) from fun i r h => by
              rw [HTK.out] at h
              have hlk : (T.take t).length = t := by rw [List.length_take]; have := HTL.out; omega
              rcases Nat.lt_or_ge i t with hik | hik
              · rw [List.getElem?_append_left (by omega)] at h
                obtain ⟨Ai, ci, g1, g2⟩ := HIN7.out i r h
                exact ⟨Ai, ci, by rw [List.getElem?_append_left (by omega)]; exact g1, g2.fx f8 (by decide)⟩
              · rw [List.getElem?_append_right (by omega), hlk] at h
                have hik' : i = t := by
                  rcases Nat.eq_or_lt_of_le hik with h' | h'
                  · exact h'.symm
                  · rw [List.getElem?_eq_none (by simp; omega)] at h; cases h
                subst hik'
                simp at h
                subst h
                exact ⟨eA, ec, by rw [List.getElem?_append_right (by omega), hsl]; simp, HRW.out.fx f8 (by decide)⟩)
            have HO8 := Lib.hid hown8
            clear hown8 hg8 hlt8 how8 f8
            go_wp2_with fail
            exact ⟨⟨t + 1, _, hlt, by simp, HO8.out, HI8, HB8.out⟩, by simp [intOf]; omega⟩
          · have q0 : ¬ (t : Int) < (n : Int) := by omega
            have htn : t = n := by omega
            subst htn
            have hTT : (T.map SL.ints).take t = T.map SL.ints := List.take_of_length_le (by rw [List.length_map]; have := HTL.out; omega)
            rw [hTT] at HRD
            have HB6 := Lib.hid (HB5.out.trans (hbw.mono HB5.out.size))
            have HRM6 := Lib.hid (HRM5.out.below hbw)
            have HRS6 := Lib.hid (HRS5.out.below hbw)
            have HTU := Lib.hid (show (T.map SL.ints).length = t by rw [List.length_map]; exact HTL.out)
            have HLM := Lib.hid HSR.out.2
            have e1 : ((t : Int) != (t : Int)) = false := by simp
            clear hTT hbw how hRD HIN HO HBW
            generalize wr = w6 at *
            generalize T.map SL.ints = U at *
            go_wp2_with fail
            go_loopw [91] (fun v wr => ∃ k q : Nat, k ≤ t ∧ v = .int .i64 (k : Int) ∧ wr = w6.drewN q) (fun v _ => t - (intOf v).toNat)
            case atStart => exact ⟨0, 0, Nat.zero_le _, rfl, rfl⟩
            case round =>
              obtain ⟨k, q, hk, rfl, hwr⟩ := hrel
              have HWR := Lib.hid hwr
              by_cases hkt : k < t
              · have q1 : (k : Int) < (t : Int) := by omega
                obtain ⟨r, hr⟩ : ∃ r, U[k]? = some r := ⟨_, List.getElem?_eq_getElem (by have := HTU.out; omega)⟩
                obtain ⟨b5, o5, x5, y5, e5, _, k5, i5⟩ := relV_at HRS6.out hr
                obtain ⟨b2, o2, x2, y2, e2, _, k2, i2⟩ := relV_at HRD.out hr
                injection e5 with e5
                injection e5 with f1 f2
                subst f1 f2
                subst e2
                rw [Nat.zero_add] at k5
                have m5 : wr.cell? ⟨gs, k, none⟩ = some (.slice x5 r.length y5) := by rw [hwr]; exact k5
                have m2 : wr.cell? ⟨b2, o2 + k, none⟩ = some (.slice x2 r.length y2) := by rw [hwr]; exact k2
                have hrl8 := HIL.out _ (List.mem_of_getElem? hr)
                have HINT := Lib.hid (fun q' => Calls.quiet_of (ints_any r x5 x2 y5 y2 (wr.drewN q') (by rw [hwr]; exact i5) (by rw [hwr]; exact i2) (by have hmx : maxLen = 9223372036854775807 := rfl; omega)))
                clear hwr hr i5 i2 k5 k2
                go_wp2_with fail
                go_quiet ((go_at_call 14; exact HINT.out _))
                go_wp2_with fail
                exact ⟨⟨k + 1, q + nq, hkt, by simp, by rw [HWR.out, World.drewN_drewN]⟩, by simp [intOf]; omega⟩
              · have q1 : ¬ (k : Int) < (t : Int) := by omega
                have hbx : Below w6.heap.size w6 wr := by rw [hwr]; exact below_drewN (Below.refl _ _) q
                have HB7 := Lib.hid (HB6.out.trans (hbx.mono HB6.out.size))
                have HPI7 := Lib.hid (HPI6.out.below hbx)
                have HPR7 := Lib.hid (HPR6.out.below hbx)
                have HRM7 := Lib.hid (HRM6.out.below hbx)
                have HRD7 := Lib.hid (HRD.out.below hbx)
                have HN7 := Lib.hid (show wr.cell? ⟨w.heap.size, 2, none⟩ = some (.slice rA rs.length rc) by rw [hwr]; exact n2)
                have hlt7 : w.heap.size < wr.heap.size := by have := hbx.size; omega
                clear hwr hbx
                generalize wr = w7 at *
                have HM1 := Lib.hid (fun (W : World) (h : Below w7.heap.size w7 W) => misses_any L mA mc W (HRM7.out.below h) (by have := HML.out; omega))
                have HM2 := Lib.hid (fun (W : World) (h : Below w7.heap.size w7 W) => rmisses_any ts PA pc rs rA rc U dA t dc W (HPR7.out.below h) HOT.out g1 (HPI7.out.rel.below h) HRLL.out HG3.out (fun r hr x hx => ⟨HRG.out r hr x hx, (HPI7.out.lx r hr).2 x hx⟩) (HRD7.out.below h) (by have := HTU.out; omega) (fun r hr => by have := HIL.out r hr; have hmx : maxLen = 9223372036854775807 := rfl; omega))
                rw [← HLM.out] at HM2
                have HSA := Lib.hid (fun (A1 A2 : Option Addr) (c1 c2 : Nat) (W : World) (h1 : Row W A1 (msC L)) (h2 : Row W A2 (msC L)) => same_any L A1 A2 c1 c2 W h1 h2 (by have := HML.out; have hmx : maxLen = 9223372036854775807 := rfl; omega))
                have HD := Lib.hid (show Below w7.heap.size w7 w7.drew from (Below.refl _ _).drew)
                clear HRM6 HRM5 HRS5 HRS6 HRD HPR6 HPR5 HPI6 HPI5 HB5 HB6 HLM HSR HWR
                go_wp2_with fail
                go_region_held3 (fun W => W.cell? ⟨w.heap.size, 2, none⟩ = some (.slice rA rs.length rc))
                  (first | exact HN7.out | exact (HB9.out.cell (p := ⟨w.heap.size, 2, none⟩) hlt7).trans HN7.out | exact (HBr.out.cell (p := ⟨w.heap.size, 2, none⟩) hlt7).trans HN7.out | exact (HBm.out.cell (p := ⟨w.heap.size, 2, none⟩) hlt7).trans HN7.out)
                  (first
                    | (go_at_call 16; (first | (with_reducible refine (HM1.out _ HBr.out).mono ?_) | (with_reducible refine (HM1.out _ HD.out).mono ?_)); rintro e wm ⟨mA2, mc2, rfl, hrm, hbm⟩; (first | (have HBm := Lib.hid (HBr.out.trans (hbm.mono HBr.out.size)); have HRr2 := Lib.hid (HRr.out.below hbm)) | (have HBm := Lib.hid (HD.out.trans (hbm.mono HD.out.size)))); have HRm := Lib.hid hrm; clear hrm hbm)
                    | (go_at_call 17; (first | (with_reducible refine (HM2.out _ HBm.out).mono ?_) | (with_reducible refine (HM2.out _ HD.out).mono ?_)); rintro e wr ⟨rA2, rc2, rfl, hrr, hbr⟩; (first | (have HBr := Lib.hid (HBm.out.trans (hbr.mono HBm.out.size)); have HRm2 := Lib.hid (HRm.out.below hbr)) | (have HBr := Lib.hid (HD.out.trans (hbr.mono HD.out.size)))); have HRr := Lib.hid hrr; clear hrr hbr)
                    | (go_at_call 15; (first | (with_reducible refine (HSA.out _ _ _ _ _ HRm2.out HRr.out).mono ?_) | (with_reducible refine (HSA.out _ _ _ _ _ HRm.out HRr2.out).mono ?_)); rintro e w9 ⟨rfl, q9, hw9⟩; (first | (have HB9 := Lib.hid (show Below w7.heap.size w7 w9 by rw [hw9]; exact below_drewN HBr.out q9)) | (have HB9 := Lib.hid (show Below w7.heap.size w7 w9 by rw [hw9]; exact below_drewN HBm.out q9))); clear hw9))
                all_goals
                  go_wp2_with fail
                  go_ret
                  exact ⟨rfl, HB7.out.trans (HB9.out.mono HB7.out.size)⟩
end
end Go.Proofs.Ytgfojgabobakdaa
