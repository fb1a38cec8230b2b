/- The contract of the reference printer's Program at a valid program. -/
import Derived.Test.YtfakdbnfpdalhaaDoorPrJ
import Derived.Test.YtfakdbnfpdalhaaDoorLawParts
namespace Go.Proofs.YtfakdbnfpdalhaaDoor
open Go.RowKit
open PP (Tree ArrD TaskD ProgD)
theorem toList_size {T : ByteArray} {l : List UInt8} (h : T.data.toList = l) : T.size = l.length := by
  have hl : T.data.toList.length = T.size := Array.length_toList
  rw [← hl, h]
section
set_option maxHeartbeats 8000000
set_option maxRecDepth 100000
theorem refProg_ok {p : ProgD} {A T : Option Addr} {c d na nt : Nat} {w : World} (hna : p.shared.length = na) (hnt : p.tasks.length = nt) (h : ProgR w A T p) (hok : PP.okProg p = true) :
    Calls Tryd.prog 20 #[.agg #[.slice A na c, .slice T nt d]] w fun e w' => e = .returned (.string ⟨(PP.prP p).toArray⟩) ∧ Below w.heap.size w w' := by
  have hb1 : Below w.heap.size w (w.alloc (.cells #[.slice A na c, .slice T nt d] 39)) := (Below.refl _ _).alloc (Nat.le_refl _) _
  have HBK := Lib.hid (Blk.new w 39 #[.slice A na c, .slice T nt d])
  have HB1 := Lib.hid hb1
  have HA := Lib.hid (h.below hb1)
  have HI := Lib.hid (okProg_inv hok)
  have HNA := Lib.hid hna
  have HNT := Lib.hid hnt
  have hna4 : na ≤ 4 := by rw [← hna]; exact HI.out.s
  have hnt8 : nt ≤ 8 := by rw [← hnt]; exact HI.out.t
  have hlen := prP_len HI.out
  have HSP := Lib.hid (show PP.prP p = p.shared.flatMap (PP.prArr 0 PP.sShared) ++ p.tasks.flatMap PP.prTask from rfl)
  rw [HSP.out, List.length_append] at hlen
  clear h hb1 hok hna hnt
  go_enter Tryd.func20, Tryd.ntmps20
  go_wp2_with fail
  generalize w.alloc (.cells #[.slice A na c, .slice T nt d] 39) = w1 at *
  generalize hPB : w.heap.size = PB at *
  go_loopw [3, 4] (fun s i wt => ∃ (j : Nat) (X : ByteArray), j ≤ na ∧ i = .int .i64 (j : Int) ∧ s = .string X ∧ X.data.toList = (p.shared.take j).flatMap (PP.prArr 0 PP.sShared) ∧ Below w1.heap.size w1 wt) (fun _ i _ => na - (intOf i).toNat)
  case atStart => exact ⟨0, _, Nat.zero_le _, rfl, rfl, by simp, Below.refl _ _⟩
  case round =>
    obtain ⟨j, X, hj, rfl, rfl, hX, hbr⟩ := hrel
    have hbk := HBK.out.belowT hbr
    obtain ⟨x0, x1⟩ := hbk.pair
    have hlt := hbk.lt
    have HXX := Lib.hid hX
    have hxs := toList_size hX
    have HBR := Lib.hid hbr
    have HPK := Lib.hid hbk
    clear hX hbk
    by_cases hjl : j < na
    · have hxl := fm_le p.shared (PP.prArr 0 PP.sShared) j
      have hxb : X.size ≤ 100000000 := by omega
      clear x1 hxs hxl
      have hne : p.shared ≠ [] := by intro e; have hx := HNA.out; rw [e] at hx; simp at hx; omega
      obtain ⟨g, o, rfl, hgl, hat⟩ := Row.arr (HA.out.ra) hne
      obtain ⟨a, ha⟩ : ∃ a, p.shared[j]? = some a := ⟨_, List.getElem?_eq_getElem (by have := HNA.out; omega)⟩
      obtain ⟨y0, y1⟩ := hat j a ha
      have d0 := (hbr.cell (p := ⟨g, o + j * 2, none⟩) hgl).trans y0
      have d1 := (hbr.cell (p := ⟨g, o + j * 2 + 1, none⟩) hgl).trans y1
      have hgv : g < wr.heap.size := Nat.lt_of_lt_of_le hgl hbr.size
      have hle := fm_le p.shared (PP.prArr 0 PP.sShared) (j + 1)
      rw [fm_take _ ha, List.length_append] at hle
      have HTK := Lib.hid (fm_take (PP.prArr 0 PP.sShared) ha)
      have hav := okArr_inv (HI.out.sv a (List.mem_of_getElem? ha))
      obtain ⟨ln, hln⟩ := Int.eq_ofNat_of_zero_le (show 0 ≤ a.len by omega)
      rw [hln] at d1
      have HLN := Lib.hid (show a.len.toNat = ln by omega)
      have hl32 : ln ≤ 32 := by omega
      have qD : ∀ d os, Calls Tryd.prog 30 #[.int .i64 (ln : Int)] (Sort.grow (redrawn wr d) os) fun e w'' => e = .returned (.string ⟨(PP.dec ln).toArray⟩) ∧ ∃ p : Regrown, w'' = Sort.grow (redrawn wr p.d) p.os :=
        fun d os => Calls.regrown_of ((decimal14 ln _ (by omega)).mono fun _ _ ⟨h1, h2⟩ => ⟨h1, h2 ▸ Below.refl _ _⟩)
      have z0 := cell_regrown d0
      have z1 := cell_regrown d1
      have z2 := cell_regrown x0
      have hs1 := size_mk a.name
      have hs2 := size_mk (PP.dec ln)
      have hs3 := PP.dec_len ln
      have hn12 := hav.1
      have GN : Hid ((⟨a.name.toArray⟩ : ByteArray).data.toList = a.name) := Lib.hid rfl
      have GD : Hid ((⟨(PP.dec ln).toArray⟩ : ByteArray).data.toList = PP.dec ln) := Lib.hid rfl
      generalize (⟨a.name.toArray⟩ : ByteArray) = NM at *
      generalize (⟨(PP.dec ln).toArray⟩ : ByteArray) = DV at *
      have p1 : (0 : Int) ≤ (j : Int) := by omega
      have p2 : (j : Int) < (na : Int) := by omega
      have n1 : ¬ 9223372036854775807 < X.size + 7 := by omega
      have n2 : ¬ 9223372036854775807 < X.size + 7 + NM.size := by omega
      have n3 : ¬ 9223372036854775807 < X.size + 7 + NM.size + 1 := by omega
      have n4 : ¬ 9223372036854775807 < X.size + 7 + NM.size + 1 + DV.size := by omega
      have n5 : ¬ 9223372036854775807 < X.size + 7 + NM.size + 1 + DV.size + 3 := by omega
      clear hat ha y0 y1 hne hbr hav hle d0 d1 hln hs1 hs2 hs3 hn12
      go_wp2_with fail
      refine wp_region_quiet_below (by kernel_rfl) (by kernel_rfl) ?_
      repeat (quiet_step (with_reducible first | exact qD _ _))
      refine wpQuiet_nil ?_
      intro _ hw'
      obtain ⟨⟨dq, osq⟩, hw''⟩ := hw'
      subst hw''
      clear qD z0 z1 z2 n1 n2 n3 n4 n5
      go_wp2_with fail
      go_roundw
      case rel => exact ⟨j + 1, _, by omega, by go_num, rfl, by rw [HTK.out]; simp [ByteArray.data_append, HXX.out, GN.out, GD.out, HLN.out, PP.prArr, PP.lineP, PP.tabs, PP.sShared, PP.sOpen, PP.sClose], HBR.out.trans ((below_regrown wr dq osq).mono HBR.out.size)⟩
      case measure => simp [intOf]; omega
    · have hall : p.shared.take j = p.shared := List.take_of_length_le (by rw [HNA.out]; omega)
      have p2 : ¬ (j : Int) < (na : Int) := by omega
      rw [hall] at HXX hxs
      have HXS := Lib.hid hxs
      clear hall hbr hxs x1
      go_wp2_with fail
      clear x0 p2 hlt hj hjl
      generalize wr = w3 at *
      go_loopw [3, 5] (fun s i wt => ∃ (j : Nat) (Y : ByteArray), j ≤ nt ∧ i = .int .i64 (j : Int) ∧ s = .string Y ∧ Y.data.toList = p.shared.flatMap (PP.prArr 0 PP.sShared) ++ (p.tasks.take j).flatMap PP.prTask ∧ Below w1.heap.size w1 wt) (fun _ i _ => nt - (intOf i).toNat)
      case atStart => exact ⟨0, _, Nat.zero_le _, rfl, rfl, by simp [HXX.out], HBR.out⟩
      case round =>
        clear HXX HXS HBR HPK
        obtain ⟨m, X, hm, rfl, rfl, hX, hbr⟩ := hrel
        have hbk := HBK.out.belowT hbr
        obtain ⟨x0, x1⟩ := hbk.pair
        have hlt := hbk.lt
        have hxs := toList_size hX
        rw [List.length_append] at hxs
        have HXX := Lib.hid hX
        have HBR := Lib.hid hbr
        clear hX hbk x0
        have hxl := fm_le p.tasks PP.prTask m
        by_cases hml : m < nt
        · have hne : p.tasks ≠ [] := by intro e; have := HNT.out; rw [e] at this; simp at this; omega
          obtain ⟨g, o, rfl, hgl, hat⟩ := HA.out.rt hne
          obtain ⟨t, ht⟩ : ∃ t, p.tasks[m]? = some t := ⟨_, List.getElem?_eq_getElem (by have := HNT.out; omega)⟩
          obtain ⟨vA, vc, aA, ac, k, num, nm, kids, kA, kc, T0⟩ := hat m t ht
          have TT := T0.below hbr hgl
          have hle := fm_le p.tasks PP.prTask (m + 1)
          rw [fm_take _ ht, List.length_append] at hle
          have HT := Lib.hid (fm_take PP.prTask ht)
          have hti := HI.out.tv t (List.mem_of_getElem? ht)
          have HTI := Lib.hid hti
          have HT0 := Lib.hid T0
          obtain ⟨ln, hln⟩ := Int.eq_ofNat_of_zero_le (show 0 ≤ t.period by have := hti.p1; omega)
          have hl32 : ln ≤ 1000 := by have := hti.p2; omega
          have HLNI := Lib.hid hln
          have HLN := Lib.hid (show t.period.toNat = ln by omega)
          clear hln
          have hn12 := hti.n
          have hv12 := hti.v
          have ha4 := hti.a
          have hgv : g < wr.heap.size := Nat.lt_of_lt_of_le hgl hbr.size
          have z0 := TT.c0
          have z1 := TT.c1
          have z2 := TT.c2
          have z3 := TT.c3
          have z4 := TT.c4
          have z5 := TT.c5
          have z6 := TT.c6
          have z7 := TT.c7
          have HB6 := Lib.hid (hbr.trans (((Below.refl _ wr).alloc (Nat.le_refl _) (.cells #[.string ⟨t.name.toArray⟩, .int .i64 t.period, .slice vA t.vars.length vc, .slice aA t.arrays.length ac, .int .u8 (k : Int), .int .i64 num, .string ⟨nm.toArray⟩, .slice kA kids.length kc] 70)).mono hbr.size))
          have HK6 := Lib.hid (Blk.new wr 70 #[.string ⟨t.name.toArray⟩, .int .i64 t.period, .slice vA t.vars.length vc, .slice aA t.arrays.length ac, .int .u8 (k : Int), .int .i64 num, .string ⟨nm.toArray⟩, .slice kA kids.length kc])
          have HLT := Lib.hid (show PP.prTask t = PP.lineP 0 [PP.sTask, t.name, PP.sPeriod, PP.dec t.period.toNat, PP.sOb] ++ t.vars.flatMap PP.prVar ++ t.arrays.flatMap (PP.prArr 1 PP.sArray) ++ PP.prB t.body 1 ++ PP.lineP 0 [PP.sCb] from rfl)
          have hltl := congrArg List.length HLT.out
          simp only [List.length_append] at hltl
          have p1 : (0 : Int) ≤ (m : Int) := by omega
          have p2 : (m : Int) < (nt : Int) := by omega
          have hs1 := size_mk t.name
          have hs2 := size_mk (PP.dec ln)
          have hs3 := PP.dec_len ln
          generalize hXT : p.shared.flatMap (PP.prArr 0 PP.sShared) ++ (p.tasks.take m).flatMap PP.prTask = XT at *
          have hXl : XT.length + (PP.prTask t).length ≤ 100000000 := by rw [← hXT, List.length_append]; omega
          have HXT := Lib.hid hXT
          have hxb : X.size ≤ 100000000 := by omega
          have hbx := hXl
          clear hat ht hne hbr hti T0 TT hXT hle hxs hxl
          go_wp2_with fail
          clear z0 z1 z2 z3 z4 z5 z6 z7 x1
          generalize wr.alloc (.cells #[.string ⟨t.name.toArray⟩, .int .i64 t.period, .slice vA t.vars.length vc, .slice aA t.arrays.length ac, .int .u8 (k : Int), .int .i64 num, .string ⟨nm.toArray⟩, .slice kA kids.length kc] 70) = w6 at *
          generalize wr.heap.size = TB at *
          have qD : ∀ d os, Calls Tryd.prog 30 #[.int .i64 (ln : Int)] (Sort.grow (redrawn w6 d) os) fun e w'' => e = .returned (.string ⟨(PP.dec ln).toArray⟩) ∧ ∃ p : Regrown, w'' = Sort.grow (redrawn w6 p.d) p.os :=
            fun d os => Calls.regrown_of ((decimal14 ln _ (by omega)).mono fun _ _ ⟨h1, h2⟩ => ⟨h1, h2 ▸ Below.refl _ _⟩)
          obtain ⟨⟨e0, e1⟩, _⟩ := HK6.out.cells8
          rw [HLNI.out] at e1
          have z0 := cell_regrown e0
          have z1 := cell_regrown e1
          have GN : Hid ((⟨t.name.toArray⟩ : ByteArray).data.toList = t.name) := Lib.hid rfl
          have GD : Hid ((⟨(PP.dec ln).toArray⟩ : ByteArray).data.toList = PP.dec ln) := Lib.hid rfl
          generalize (⟨(PP.dec ln).toArray⟩ : ByteArray) = DV at *
          generalize (⟨t.name.toArray⟩ : ByteArray) = NM at *
          have n1 : ¬ 9223372036854775807 < X.size + 5 := by omega
          have n2 : ¬ 9223372036854775807 < X.size + 5 + NM.size := by omega
          have n3 : ¬ 9223372036854775807 < X.size + 5 + NM.size + 8 := by omega
          have n4 : ¬ 9223372036854775807 < X.size + 5 + NM.size + 8 + DV.size := by omega
          have n5 : ¬ 9223372036854775807 < X.size + 5 + NM.size + 8 + DV.size + 3 := by omega
          generalize hL0 : PP.lineP 0 [PP.sTask, t.name, PP.sPeriod, PP.dec t.period.toNat, PP.sOb] = L0 at *
          generalize hVV : t.vars.flatMap PP.prVar = V at *
          generalize hAA : t.arrays.flatMap (PP.prArr 1 PP.sArray) = AR at *
          have HL0 := Lib.hid hL0
          have HVV := Lib.hid hVV
          have HAA := Lib.hid hAA
          clear e0 e1 hs1 hs2 hs3 hL0 hVV hAA
          refine wp_region_quiet_below (by kernel_rfl) (by kernel_rfl) ?_
          repeat (quiet_step (with_reducible first | exact qD _ _))
          refine wpQuiet_nil ?_
          intro _ hw'
          obtain ⟨⟨dq, osq⟩, hw''⟩ := hw'
          subst hw''
          clear qD z0 z1 n1 n2 n3 n4 n5
          have HB67 := Lib.hid (below_regrown w6 dq osq)
          generalize Sort.grow (redrawn w6 dq) osq = w7 at *
          have HK7 := Lib.hid (HK6.out.belowT HB67.out)
          have HB7 := Lib.hid (HB6.out.trans (HB67.out.mono HB6.out.size))
          go_wp2_with fail
          go_loopw [3, 7] (fun s i wt => ∃ (l : Nat) (Y : ByteArray), l ≤ t.vars.length ∧ i = .int .i64 (l : Int) ∧ s = .string Y ∧ Y.data.toList = XT ++ L0 ++ (t.vars.take l).flatMap PP.prVar ∧ Below w7.heap.size w7 wt) (fun _ i _ => t.vars.length - (intOf i).toNat)
          case atStart => exact ⟨0, _, Nat.zero_le _, rfl, rfl, by rw [← HL0.out]; simp [ByteArray.data_append, HXX.out, GN.out, GD.out, HLN.out, PP.lineP, PP.tabs, PP.sTask, PP.sPeriod, PP.sOb], Below.refl _ _⟩
          case round =>
            obtain ⟨l, Y, hl, rfl, rfl, hY, hbr7⟩ := hrel
            have hbk := HK7.out.belowT hbr7
            have c2 := hbk.cells8.2.1.1
            have hlt7 := hbk.lt
            have hys := toList_size hY
            have hyl := fm_le t.vars PP.prVar l
            rw [HVV.out] at hyl
            simp only [List.length_append] at hys
            have hyb : Y.size ≤ 100000000 := by omega
            have hbr := HB7.out.trans (hbr7.mono HB7.out.size)
            have HYY := Lib.hid hY
            have HBR7 := Lib.hid hbr7
            clear hY hys hyl hbr7
            by_cases hll : l < t.vars.length
            · have hne : t.vars ≠ [] := by intro e; rw [e] at hll; simp at hll
              obtain ⟨g2, o2, rfl, hgl2, hat2⟩ := Row.str HT0.out.rv hne
              obtain ⟨v, hv⟩ : ∃ v, t.vars[l]? = some v := ⟨_, List.getElem?_eq_getElem hll⟩
              have d0 := (hbr.cell (p := ⟨g2, o2 + l, none⟩) hgl2).trans (hat2 l v hv)
              have hgv2 : g2 < wr.heap.size := Nat.lt_of_lt_of_le hgl2 hbr.size
              have HTV := Lib.hid (fm_take PP.prVar hv)
              have hvs := size_mk v
              have hv2 := HTI.out.vv v (List.mem_of_getElem? hv)
              have GV : Hid ((⟨v.toArray⟩ : ByteArray).data.toList = v) := Lib.hid rfl
              generalize (⟨v.toArray⟩ : ByteArray) = VV at *
              have hvb : VV.size ≤ 12 := by omega
              have p3 : (0 : Int) ≤ (l : Int) := by omega
              have p4 : (l : Int) < (t.vars.length : Int) := by omega
              clear hat2 hv hne hbr hvs hv2 hbk
              go_wp2_with fail
              go_roundw
              case rel => exact ⟨l + 1, _, by omega, by go_num, rfl, by rw [HTV.out]; simp [ByteArray.data_append, HYY.out, GV.out, PP.prVar, PP.lineP, PP.tabs, PP.sVar, PP.sSemi], HBR7.out⟩
              case measure => simp [intOf]; omega
            · have hall : t.vars.take l = t.vars := List.take_of_length_le (by omega)
              rw [hall, HVV.out] at HYY
              have p4 : ¬ (l : Int) < (t.vars.length : Int) := by omega
              clear hall hbr hbk
              go_wp2_with fail
              clear c2 p4 hlt7
              generalize wr = w8 at *
              go_loopw [3, 8] (fun s i wt => ∃ (l : Nat) (Y : ByteArray), l ≤ t.arrays.length ∧ i = .int .i64 (l : Int) ∧ s = .string Y ∧ Y.data.toList = XT ++ L0 ++ V ++ (t.arrays.take l).flatMap (PP.prArr 1 PP.sArray) ∧ Below w7.heap.size w7 wt) (fun _ i _ => t.arrays.length - (intOf i).toNat)
              case atStart => exact ⟨0, _, Nat.zero_le _, rfl, rfl, by simp [HYY.out], HBR7.out⟩
              case round =>
                clear HXX
                obtain ⟨f, X, hf, rfl, rfl, hX, hbr7⟩ := hrel
                have hbk := HK7.out.belowT hbr7
                have hlt7 := hbk.lt
                have hxs := toList_size hX
                have hxl := fm_le t.arrays (PP.prArr 1 PP.sArray) f
                rw [HAA.out] at hxl
                simp only [List.length_append] at hxs
                have hxb : X.size ≤ 100000000 := by omega
                have hbr := HB7.out.trans (hbr7.mono HB7.out.size)
                have HXX := Lib.hid hX
                have HBR := Lib.hid hbr7
                clear hX hxs hxl hbr7
                by_cases hfl : f < t.arrays.length
                · have x3 := hbk.cells8.2.1.2
                  clear hbk
                  have hne : t.arrays ≠ [] := by intro e; rw [e] at hfl; simp at hfl
                  obtain ⟨g, o, rfl, hgl, hat⟩ := Row.arr (HT0.out.ra) hne
                  obtain ⟨a, ha⟩ : ∃ a, t.arrays[f]? = some a := ⟨_, List.getElem?_eq_getElem (by have := (rfl : t.arrays.length = t.arrays.length); omega)⟩
                  obtain ⟨y0, y1⟩ := hat f a ha
                  have d0 := (hbr.cell (p := ⟨g, o + f * 2, none⟩) hgl).trans y0
                  have d1 := (hbr.cell (p := ⟨g, o + f * 2 + 1, none⟩) hgl).trans y1
                  have hgv : g < wr.heap.size := Nat.lt_of_lt_of_le hgl hbr.size
                  have hle := fm_le t.arrays (PP.prArr 1 PP.sArray) (f + 1)
                  rw [fm_take _ ha, List.length_append] at hle
                  have HTK := Lib.hid (fm_take (PP.prArr 1 PP.sArray) ha)
                  have hav := okArr_inv (HTI.out.av a (List.mem_of_getElem? ha))
                  obtain ⟨ln, hln⟩ := Int.eq_ofNat_of_zero_le (show 0 ≤ a.len by omega)
                  rw [hln] at d1
                  have HLN := Lib.hid (show a.len.toNat = ln by omega)
                  have hl32 : ln ≤ 32 := by omega
                  have qD : ∀ d os, Calls Tryd.prog 30 #[.int .i64 (ln : Int)] (Sort.grow (redrawn wr d) os) fun e w'' => e = .returned (.string ⟨(PP.dec ln).toArray⟩) ∧ ∃ p : Regrown, w'' = Sort.grow (redrawn wr p.d) p.os :=
                    fun d os => Calls.regrown_of ((decimal14 ln _ (by omega)).mono fun _ _ ⟨h1, h2⟩ => ⟨h1, h2 ▸ Below.refl _ _⟩)
                  have z0 := cell_regrown d0
                  have z1 := cell_regrown d1
                  have z2 := cell_regrown x3
                  have hs1 := size_mk a.name
                  have hs2 := size_mk (PP.dec ln)
                  have hs3 := PP.dec_len ln
                  have hn12 := hav.1
                  have GN : Hid ((⟨a.name.toArray⟩ : ByteArray).data.toList = a.name) := Lib.hid rfl
                  have GD : Hid ((⟨(PP.dec ln).toArray⟩ : ByteArray).data.toList = PP.dec ln) := Lib.hid rfl
                  generalize (⟨a.name.toArray⟩ : ByteArray) = NM at *
                  generalize (⟨(PP.dec ln).toArray⟩ : ByteArray) = DV at *
                  have p1 : (0 : Int) ≤ (f : Int) := by omega
                  have p2 : (f : Int) < (t.arrays.length : Int) := by omega
                  have n1 : ¬ 9223372036854775807 < X.size + 7 := by omega
                  have n2 : ¬ 9223372036854775807 < X.size + 7 + NM.size := by omega
                  have n3 : ¬ 9223372036854775807 < X.size + 7 + NM.size + 1 := by omega
                  have n4 : ¬ 9223372036854775807 < X.size + 7 + NM.size + 1 + DV.size := by omega
                  have n5 : ¬ 9223372036854775807 < X.size + 7 + NM.size + 1 + DV.size + 3 := by omega
                  clear hat ha y0 y1 hne hbr hav hle d0 d1 hln hs1 hs2 hs3 hn12
                  go_wp2_with fail
                  refine wp_region_quiet_below (by kernel_rfl) (by kernel_rfl) ?_
                  repeat (quiet_step (with_reducible first | exact qD _ _))
                  refine wpQuiet_nil ?_
                  intro _ hw'
                  obtain ⟨⟨dq, osq⟩, hw''⟩ := hw'
                  subst hw''
                  clear qD z0 z1 z2 n1 n2 n3 n4 n5
                  go_wp2_with fail
                  go_roundw
                  case rel => exact ⟨f + 1, _, by omega, by go_num, rfl, by rw [HTK.out]; simp [ByteArray.data_append, HXX.out, GN.out, GD.out, HLN.out, PP.prArr, PP.lineP, PP.tabs, PP.sArray, PP.sOpen, PP.sClose], HBR.out.trans ((below_regrown wr dq osq).mono HBR.out.size)⟩
                  case measure => simp [intOf]; omega
                · have hall : t.arrays.take f = t.arrays := List.take_of_length_le (by omega)
                  rw [hall, HAA.out] at HXX
                  have p4 : ¬ (f : Int) < (t.arrays.length : Int) := by omega
                  obtain ⟨_, ⟨_, x3⟩, c4, c5, c6, c7⟩ := hbk.cells8
                  have hkid := (HT0.out.ks.weak (Z' := (· < w1.heap.size)) (fun g _ hg => hg)).keep (w' := wr) ⟨hbr.size, fun g hg _ => hbr.block g hg⟩
                  have hbs := size_mk (PP.prB t.body 1)
                  have hbl : (PP.prB t.body 1).length ≤ 100000000 := by omega
                  have HC := Lib.hid (rlines_all HTI.out.b (by have := HTI.out.s; omega) wr w1.heap.size k num nm kA kc kids 1 HT0.out.bd hkid hbr.size (by have := HTI.out.d; omega) (by omega))
                  have GB : Hid ((⟨(PP.prB t.body 1).toArray⟩ : ByteArray).data.toList = PP.prB t.body 1) := Lib.hid rfl
                  generalize (⟨(PP.prB t.body 1).toArray⟩ : ByteArray) = BV at *
                  have hbvb : BV.size ≤ 100000000 := by omega
                  have HBW := Lib.hid hbr
                  clear hall hbr hbk hkid hbs hbl
                  go_wp2_with fail
                  refine HC.out.mono ?_
                  rintro e w11 ⟨rfl, hb11⟩
                  have HB11 := Lib.hid (HBW.out.trans (hb11.mono HBW.out.size))
                  clear hb11 c4 c5 c6 c7 x3 p4 HC
                  go_wp2_with fail
                  go_roundw
                  case rel => exact ⟨m + 1, _, by omega, by go_num, rfl, by rw [HT.out, ← List.append_assoc, HXT.out, HLT.out]; simp [ByteArray.data_append, HXX.out, GB.out, PP.lineP, PP.tabs, PP.sCb], HB11.out⟩
                  case measure => simp [intOf]; omega
        · have hall : p.tasks.take m = p.tasks := List.take_of_length_le (by rw [HNT.out]; omega)
          have p2 : ¬ (m : Int) < (nt : Int) := by omega
          clear hbr hxs
          go_wp2_with fail
          go_ret
          exact ⟨str_eq (by rw [HXX.out, hall, HSP.out]), HB1.out.trans (HBR.out.mono (by have := HB1.out.size; omega))⟩
end
end Go.Proofs.YtfakdbnfpdalhaaDoor
