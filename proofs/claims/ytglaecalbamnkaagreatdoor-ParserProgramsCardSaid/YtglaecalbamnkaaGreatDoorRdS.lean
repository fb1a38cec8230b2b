/- The contracts of the reference's list and Same, at two programs with the same contents. -/
import Derived.Test.YtglaecalbamnkaaGreatDoorSame2
import Derived.Test.YtglaecalbamnkaaGreatDoorRdL
import Derived.Test.YtglaecalbamnkaaGreatDoorRdA
import Derived.BigQuiet
import Derived.Deep.DeepCutAuto
namespace Go.Proofs.YtglaecalbamnkaaGreatDoor
open Go.RowKit Go.Maps
open PP (Tree ArrD TaskD ProgD)
theorem keepB {Z : Nat → Prop} {w w' : World} (h : Below w.heap.size w w') : Keep Z w w' := ⟨h.size, fun g _ hg => h.block g hg⟩
theorem hB_two {w : World} {g : Nat} {t : TypeId} {a b : Value} (h : Blk w g t #[a, b]) : w.cell? ⟨g, 0, none⟩ = some a ∧ w.cell? ⟨g, 1, none⟩ = some b := ⟨h.cell 0, h.cell 1⟩
section
set_option maxHeartbeats 2000000
set_option maxRecDepth 100000
theorem rlist_any {ar : List ArrD} {A A' : Option Addr} {c c' : Nat} {w : World} {n : Nat} (hN : ar.length = n) (h : Row w A (arrCells ar)) (h' : Row w A' (arrCells ar)) (hl : n ≤ 100000) :
    Calls Tryz.prog 24 #[.slice A n c, .slice A' n c'] w fun e w' => e = .returned (.bool true) ∧ Below w.heap.size w w' := by
  have HN := Lib.hid hN
  have HH := Lib.hid h
  have HH' := Lib.hid h'
  have e3 : ((n : Int) != (n : Int)) = false := by simp
  clear hN h h'
  go_enter Tryz.func24, Tryz.ntmps24
  go_wp2_with fail
  go_loopw [5] (fun i wr => ∃ j : Nat, j ≤ n ∧ i = .int .i64 (j : Int) ∧ Below w.heap.size w wr) (fun i _ => n - (intOf i).toNat)
  case atStart => exact ⟨0, Nat.zero_le _, rfl, Below.refl _ _⟩
  case round =>
    obtain ⟨j, hj, rfl, hbr⟩ := hrel
    by_cases hlt : j < n
    · have hne : ar ≠ [] := by intro e; have := HN.out; rw [e] at this; simp at this; omega
      obtain ⟨g, o, rfl, hg, hat⟩ := HH.out.arr hne
      obtain ⟨g', o', rfl, hg', hat'⟩ := HH'.out.arr hne
      obtain ⟨a, ha⟩ : ∃ a, ar[j]? = some a := ⟨_, List.getElem?_eq_getElem (by rw [HN.out]; exact hlt)⟩
      obtain ⟨x0, x1⟩ := hat j a ha
      obtain ⟨y0, y1⟩ := hat' j a ha
      have d0 := (hbr.cell (p := ⟨g, o + j * 2, none⟩) hg).trans x0
      have d1 := (hbr.cell (p := ⟨g, o + j * 2 + 1, none⟩) hg).trans x1
      have f0 := (hbr.cell (p := ⟨g', o' + j * 2, none⟩) hg').trans y0
      have f1 := (hbr.cell (p := ⟨g', o' + j * 2 + 1, none⟩) hg').trans y1
      have p1 : (0 : Int) ≤ (j : Int) := by omega
      have p2 : (j : Int) < (n : Int) := by omega
      clear x0 x1 y0 y1 hat hat' ha hne
      go_wp2_with fail
      go_quiet (fail)
      go_wp2_with fail
      go_roundw
      case rel => exact ⟨j + 1, by omega, by go_num, below_drewN hbr _⟩
      case measure => simp [intOf]; omega
    · go_wp2_with fail
      go_ret
      exact ⟨rfl, hbr⟩
def RSameRel (n : Nat) (w0 : World) (i : Value) (wr : World) : Prop := ∃ j : Nat, j ≤ n ∧ i = .int .i64 (j : Int) ∧ Below w0.heap.size w0 wr
theorem rsame_any {p : ProgD} {A T A' T' : Option Addr} {c d c' d' na nt : Nat} {w : World} (hna : p.shared.length = na) (hnt : p.tasks.length = nt) (h : ProgR w A T p) (h' : ProgR w A' T' p) (hsz : ∀ t ∈ p.tasks, t.body.size ≤ 1000000) :
    Calls Tryz.prog 7 #[.agg #[.slice A na c, .slice T nt d], .agg #[.slice A' na c', .slice T' nt d']] w fun e w' => e = .returned (.bool true) ∧ Below w.heap.size w w' := by
  have hb0 : Below w.heap.size w ((w.alloc (.cells #[.slice A na c, .slice T nt d] 26)).alloc (.cells #[.slice A' na c', .slice T' nt d'] 26)) := ((Below.refl _ _).alloc (Nat.le_refl _) _).alloc (by simp) _
  have hB := (Blk.new w 26 #[.slice A na c, .slice T nt d]).alloc (.cells #[.slice A' na c', .slice T' nt d'] 26)
  have hB' := blk_second w 26 26 #[.slice A na c, .slice T nt d] #[.slice A' na c', .slice T' nt d']
  have h1 := h.below hb0
  have h1' := h'.below hb0
  have HLI := Lib.hid (rlist_any (c := c) (c' := c') hna h1.ra h1'.ra (by have := h.la; omega))
  have m0 := hB.cell 0
  have m1 := hB.cell 1
  have n0 := hB'.cell 0
  have n1 := hB'.cell 1
  simp only [List.getElem?_toArray, List.getElem?_cons_zero, List.getElem?_cons_succ] at m0 m1 n0 n1
  have HB0 := Lib.hid hb0
  have HB := Lib.hid hB
  have HB' := Lib.hid hB'
  have HR := Lib.hid h1.rt
  have HR' := Lib.hid h1'.rt
  have HNT := Lib.hid hnt
  have HSZ := Lib.hid hsz
  have hnl : nt ≤ 65536 := by have := h.lt; omega
  have e3 : ((nt : Int) != (nt : Int)) = false := by simp
  clear hb0 hB hB' h1 h1' h h' hnt hsz
  go_enter Tryz.func7, Tryz.ntmps7
  go_wp2_with fail
  refine HLI.out.mono ?_
  rintro e w2 ⟨rfl, hb2⟩
  have hb20 : Below w.heap.size w w2 := HB0.out.trans (hb2.mono HB0.out.size)
  have k0 := hB_two (HB.out.belowD hb2)
  have k1 := hB_two (HB'.out.belowD hb2)
  obtain ⟨k00, k01⟩ := k0
  obtain ⟨k10, k11⟩ := k1
  have HR2 := Lib.hid (HR.out.below hb2)
  have HR2' := Lib.hid (HR'.out.below hb2)
  have HBa := Lib.hid (HB.out.belowD hb2)
  have HBb := Lib.hid (HB'.out.belowD hb2)
  have HB2 := Lib.hid hb20
  clear m0 m1 n0 n1 hb2 hb20 HLI HR HR' HB0 HB HB'
  go_wp2_with fail
  clear k00 k01 k10 k11
  go_loopw [5] (fun i wr => RSameRel nt w2 i wr) (fun i _ => nt - (intOf i).toNat)
  case atStart => exact ⟨0, Nat.zero_le _, rfl, Below.refl _ _⟩
  case round =>
    obtain ⟨j, hj, rfl, hbr⟩ := hrel
    obtain ⟨k00, k01⟩ := hB_two (HBa.out.belowD hbr)
    obtain ⟨k10, k11⟩ := hB_two (HBb.out.belowD hbr)
    by_cases hlt : j < nt
    · have hne : p.tasks ≠ [] := by intro e; have := HNT.out; rw [e] at this; simp at this; omega
      obtain ⟨g, o, rfl, hg, hat⟩ := HR2.out hne
      obtain ⟨g', o', rfl, hg', hat'⟩ := HR2'.out hne
      obtain ⟨t, ht⟩ : ∃ t, p.tasks[j]? = some t := ⟨_, List.getElem?_eq_getElem (by rw [HNT.out]; exact hlt)⟩
      obtain ⟨vA, vc, aA, ac, k, num, nm, kids, kA, kc, hT⟩ := hat j t ht
      obtain ⟨vA', vc', aA', ac', k', num', nm', kids', kA', kc', hT'⟩ := hat' j t ht
      have hbd := hT.bd.symm.trans hT'.bd
      injection hbd with q1 q2 q3 q4
      subst q1 q2 q3 q4
      have hW := hT.below hbr hg
      have hW' := hT'.below hbr hg'
      have hbs := HSZ.out t (List.mem_of_getElem? ht)
      obtain ⟨x0, x1, x2, x3, x4, x5, x6, x7, _, hrv, hra, hks, hlv, hla⟩ := hW
      obtain ⟨y0, y1, y2, y3, y4, y5, y6, y7, _, hrv', hra', hks', _, _⟩ := hW'
      rw [hT.bd] at hbs
      have p1 : (0 : Int) ≤ (j : Int) := by omega
      have p2 : (j : Int) < (nt : Int) := by omega
      have l1 : w.heap.size < wr.heap.size := (HBa.out.belowD hbr).lt
      have l2 : w.heap.size + 1 < wr.heap.size := (HBb.out.belowD hbr).lt
      have l3 : g < wr.heap.size := Nat.lt_of_lt_of_le hg hbr.size
      have l4 : g' < wr.heap.size := Nat.lt_of_lt_of_le hg' hbr.size
      have HRV := Lib.hid hrv
      have HRA := Lib.hid hra
      have HKS := Lib.hid hks
      have HRV' := Lib.hid hrv'
      have HRA' := Lib.hid hra'
      have HKS' := Lib.hid hks'
      have HBS := Lib.hid hbs
      have HBR := Lib.hid hbr
      generalize hnv : t.vars.length = nv at *
      generalize hnr : t.arrays.length = nar at *
      generalize hnk : kids.length = nk at *
      have HNV := Lib.hid hnv
      have HNR := Lib.hid hnr
      have HNK := Lib.hid hnk
      clear hat hat' hT hT' hrv hra hks hrv' hra' hks' hbs hbr hnv hnr hnk ht hne k00 k10
      go_wp2_with fail
      go_cut [6, 7] (fun s6 s7 wx => ∃ g1 g2, s6 = .pointer (some ⟨g1, 0, none⟩) ∧ s7 = .pointer (some ⟨g2, 0, none⟩) ∧ Blk wx g1 49 #[.string ⟨t.name.toArray⟩, .int .i64 t.period, .slice vA nv vc, .slice aA nar ac, .int .u8 (k : Int), .int .i64 num, .string ⟨nm.toArray⟩, .slice kA nk kc] ∧ Blk wx g2 49 #[.string ⟨t.name.toArray⟩, .int .i64 t.period, .slice vA' nv vc', .slice aA' nar ac', .int .u8 (k : Int), .int .i64 num, .string ⟨nm.toArray⟩, .slice kA' nk kc'] ∧ Below wr.heap.size wr wx)
      case first =>
        go_region
        all_goals
          go_wp2_with fail
          go_meet
          refine ⟨_, _, rfl, rfl, ?_, ?_, (((Below.refl _ _).alloc (Nat.le_refl _) _).alloc (by simp) _).drew⟩
          all_goals first | exact (Blk.new wr _ _).alloc _ | exact blk_second wr _ _ _ _
      case rest =>
        obtain ⟨g1, g2, rfl, rfl, b1, b2, hbx⟩ := hcut
        have u0 := b1.cell 0
        have u1 := b1.cell 1
        have u2 := b1.cell 2
        have u3 := b1.cell 3
        have v0 := b2.cell 0
        have v1 := b2.cell 1
        have v2 := b2.cell 2
        have v3 := b2.cell 3
        simp only [List.getElem?_toArray, List.getElem?_cons_zero, List.getElem?_cons_succ] at u0 u1 u2 u3 v0 v1 v2 v3
        have e5 : (t.name.toArray != t.name.toArray) = false := by simp
        have e6 : (t.period != t.period) = false := by simp
        have e7 : ((nv : Int) != (nv : Int)) = false := by simp
        have HL2 := Lib.hid (rlist_any (c := ac) (c' := ac') HNR.out (HRA.out.below hbx) (HRA'.out.below hbx) (by omega))
        have HB1 := Lib.hid b1
        have HB2b := Lib.hid b2
        have HBX := Lib.hid hbx
        clear b1 b2 hbx x0 x1 x2 x3 x4 x5 x6 x7 y0 y1 y2 y3 y4 y5 y6 y7 k01 k11
        go_wp2_with fail
        refine HL2.out.mono ?_
        rintro e w5 ⟨rfl, hb5⟩
        have hb1 := HB1.out.belowD hb5
        have hb2 := HB2b.out.belowD hb5
        have hbx5 := HBX.out.trans (hb5.mono HBX.out.size)
        have u4 := hb1.cell 4
        have u5 := hb1.cell 5
        have u6 := hb1.cell 6
        have u7 := hb1.cell 7
        have v4 := hb2.cell 4
        have v5 := hb2.cell 5
        have v6 := hb2.cell 6
        have v7 := hb2.cell 7
        simp only [List.getElem?_toArray, List.getElem?_cons_zero, List.getElem?_cons_succ] at u4 u5 u6 u7 v4 v5 v6 v7
        have HEQ := Lib.hid (requal_kids HKS.out w5 (keepB hbx5) (HKS'.out.keep (keepB hbx5)) k num nm kc kc' (by have := HBS.out; simp only [PP.Tree.size] at this; omega))
        rw [HNK.out] at HEQ
        have HB1' := Lib.hid hb1
        have HB2' := Lib.hid hb2
        have HBX5 := Lib.hid hbx5
        clear hb1 hb2 hbx5 hb5 u0 u1 u2 u3 v0 v1 v2 v3 HL2
        go_wp2_with fail
        refine HEQ.out.mono ?_
        rintro e w6 ⟨rfl, hb6⟩
        have HB6a := Lib.hid (HB1'.out.belowD hb6)
        have HB6b := Lib.hid (HB2'.out.belowD hb6)
        have HBX6 := Lib.hid (HBX5.out.trans (hb6.mono HBX5.out.size))
        clear hb6 HEQ u4 u5 u6 u7 v4 v5 v6 v7
        go_wp2_with fail
        go_loopw [8] (fun i w7 => RSameRel nv w6 i w7) (fun i _ => nv - (intOf i).toNat)
        case atStart => exact ⟨0, Nat.zero_le _, rfl, Below.refl _ _⟩
        case round =>
          obtain ⟨j2, hj2, rfl, hb7⟩ := hrel
          have u2 := (HB6a.out.belowD hb7).cell 2
          have v2 := (HB6b.out.belowD hb7).cell 2
          have hbx7 := HBX6.out.trans (hb7.mono HBX6.out.size)
          simp only [List.getElem?_toArray, List.getElem?_cons_zero, List.getElem?_cons_succ] at u2 v2
          by_cases hlt2 : j2 < nv
          · have hne : t.vars ≠ [] := by intro e; have := HNV.out; rw [e] at this; simp at this; omega
            obtain ⟨gs, os, rfl, hgs, hats⟩ := HRV.out.str hne
            obtain ⟨gs', os', rfl, hgs', hats'⟩ := HRV'.out.str hne
            obtain ⟨a, ha⟩ : ∃ a, t.vars[j2]? = some a := ⟨_, List.getElem?_eq_getElem (by rw [HNV.out]; exact hlt2)⟩
            have d0 := (hbx7.cell (p := ⟨gs, os + j2, none⟩) hgs).trans (hats j2 a ha)
            have f0 := (hbx7.cell (p := ⟨gs', os' + j2, none⟩) hgs').trans (hats' j2 a ha)
            have p3 : (0 : Int) ≤ (j2 : Int) := by omega
            have p4 : (j2 : Int) < (nv : Int) := by omega
            clear hats hats' ha hne hbx7
            go_wp2_with fail
            go_quiet (fail)
            go_wp2_with fail
            go_roundw
            case rel => exact ⟨j2 + 1, by omega, by go_num, below_drewN hb7 _⟩
            case measure => simp [intOf]; omega
          · go_wp2_with fail
            go_roundw
            case rel => exact ⟨j + 1, by omega, by go_num, HBR.out.trans (hbx7.mono HBR.out.size)⟩
            case measure => simp [intOf]; omega
    · go_wp2_with fail
      go_ret
      exact ⟨rfl, HB2.out.trans (hbr.mono HB2.out.size)⟩
end
end Go.Proofs.YtglaecalbamnkaaGreatDoor
