/- The contract of the reader's stmt (written by wip/genrst.py). -/
import Derived.Test.YtglaecalbamnkaaGreatDoorRdE
namespace Go.Proofs.YtglaecalbamnkaaGreatDoor
open Go.RowKit Go.Maps
open PP (Tree)
theorem RInv.kids3 {w0 W : World} {Z : Nat → Prop} {b : Nat} {Y : RLoc} {E : PP.Env} {σ : PP.St} {bl : List OwnB} {ks : List (Option Addr × List Tree)} (h : RInv w0 Z b Y E σ bl ks W) {k : Nat} {num : Int} {nm : List UInt8} {A : Option Addr} {c : Nat} {kids : List Tree} (hm : (A, kids) ∈ ks)
    {k' : Nat} {num' : Int} {nm' : List UInt8} {A' : Option Addr} {c' : Nat} {kids' : List Tree} (hm' : (A', kids') ∈ ks)
    {k2 : Nat} {num2 : Int} {nm2 : List UInt8} {A2 : Option Addr} {c2 : Nat} {kids2 : List Tree} (hm2 : (A2, kids2) ∈ ks) {n : Nat} (hn : W.heap.size = n) :
    RInv w0 Z b Y E σ bl ((some ⟨n, 0, none⟩, [.node k num nm kids, .node k' num' nm' kids', .node k2 num2 nm2 kids2]) :: ks) (W.alloc (.cells #[.int .u8 (k : Int), .int .i64 num, .string ⟨nm.toArray⟩, .slice A kids.length c, .int .u8 (k' : Int), .int .i64 num', .string ⟨nm'.toArray⟩, .slice A' kids'.length c', .int .u8 (k2 : Int), .int .i64 num2, .string ⟨nm2.toArray⟩, .slice A2 kids2.length c2] 36)) := by
  subst hn
  exact (h.more _).addKs (kids_three h.fresh (h.ks _ hm) (h.ks _ hm') (h.ks _ hm2) _)

section
set_option maxHeartbeats 2000000
set_option maxRecDepth 100000
attribute [local go_sem ↓] Go.wp_at_zero Go.wp_at_succ
variable {b : Nat} {Y : RLoc} {E : PP.Env} {σ : PP.St}
theorem block_Le {n : Nat} {σ : PP.St} {r : PP.St × Tree} (h : PP.block E n σ = some r) : PP.Le σ r.1 := (PP.stmt_le E n).2.1 σ r h
theorem binary_Le {n l : Nat} {σ : PP.St} {r : PP.St × Tree} (h : PP.binary E n l σ = some r) : PP.Le σ r.1 := (PP.expr_le E n).2.2.2.1 l σ r h
theorem place_Le {n : Nat} {σ : PP.St} {r : PP.St × Tree} (h : PP.place E n σ = some r) : PP.Le σ r.1 := (PP.expr_le E n).2.2.1 σ r h
theorem err_ne {σ : PP.St} {P : Prop} (h : σ.err = 0 → P) : σ.err = 0 → P := h
theorem rst_if (HS : ∀ σ', σ.next < σ'.next → σ'.next ≤ E.ts.length → StOk b Y E σ') (s0 : PP.sees E σ [105, 102] = true) : StOk b Y E σ := by
  intro w h
  have hfd := field_tok
  have I0 := (RInv.start (Z := NoZ) h (fun h => h)).alloc #[.int .u8 0, .int .i64 0, .string ⟨#[]⟩, .slice none 0 0] 36 rfl
  have hsee := rsee_inv I0
  unfold seenV at hsee
  have e0 := seen_text E σ (s := [105, 102]) (by decide)
  rw [s0] at e0
  have HMO := Lib.hid (more_of_sees s0)
  have HHS := Lib.hid HS
  generalize (seen E σ).2.1 = tx at *
  generalize ((seen E σ).1 : Int) = kd at *
  generalize ((seen E σ).2.2 : Int) = ps at *
  have HSEE := Lib.hid hsee
  clear hsee I0 h HS
  have S0 := Lib.hid s0
  clear s0
  go_enter Tryz.func67, Tryz.ntmps67
  go_wp2_with fail
  refine HSEE.out.mono ?_
  rintro e w1 ⟨rfl, I1⟩
  have I2 := I1.alloc #[.int .u8 kd, .string ⟨tx.toArray⟩, .int .i64 ps] 58 rfl
  have z1 := I2.b0.cell 1
  simp only [List.getElem?_toArray, List.getElem?_cons_zero, List.getElem?_cons_succ] at z1
  have HSK := Lib.hid (rskip_inv HMO.out I2.drop)
  clear I1 I2 HSEE
  go_wp2_with fail
  refine HSK.out.mono ?_
  rintro e w3 ⟨rfl, I3⟩
  have HEX := Lib.hid (rtree_inv I3 (rexpr_all (PP.adv σ) w3 0 1 PP.lev_start (by omega) I3.ps))
  clear I3 HSK z1
  go_wp2_with fail
  refine HEX.out.mono ?_
  rintro e w4 ⟨k4, num4, nm4, A4, c4, kids4, σ4, rfl, I4, n4, t4, hr4, ht4⟩
  have hl4 := binary_Le hr4
  have I5 := I4.alloc #[.int .u8 (k4 : Int), .int .i64 num4, .string ⟨nm4.toArray⟩, .slice A4 kids4.length c4] 36 rfl
  have hn4 : σ.next < σ4.next := by have := hl4.1; simp only [PP.adv] at this; omega
  have HBK := Lib.hid (rtree_inv I5 (rblock_of (σ := σ4) (fun σ' h1 h2 => HHS.out σ' (by omega) h2) _ I5.ps))
  have HR4 := Lib.hid hr4
  have HT4 := Lib.hid ht4
  clear I4 I5 HEX hr4 ht4
  go_wp2_with fail
  refine HBK.out.mono ?_
  rintro e w6 ⟨k6, num6, nm6, A6, c6, kids6, σ6, rfl, I6, n6, t6, hr6, ht6⟩
  have hl6 := block_Le hr6
  have I7 := I6.alloc #[.int .u8 (k6 : Int), .int .i64 num6, .string ⟨nm6.toArray⟩, .slice A6 kids6.length c6] 36 rfl
  have HW := Lib.hid (rwant_inv ⟨#[101, 108, 115, 101]⟩ (by decide) I7)
  have HR6 := Lib.hid hr6
  have HT6 := Lib.hid ht6
  clear I6 I7 HBK hr6 ht6
  go_wp2_with fail
  refine HW.out.mono ?_
  rintro e w8 ⟨rfl, I8⟩
  have hle8 := PP.le_require E σ6 [101, 108, 115, 101]
  have HS8 : ∀ σ', (PP.require E σ6 [101, 108, 115, 101]).next ≤ σ'.next → σ'.next ≤ E.ts.length → StOk b Y E σ' := fun σ' h1 h2 => HHS.out σ' (by have h3 : σ4.next ≤ σ6.next := hl6.1; have h4 := hle8.1; omega) h2
  have HB7 := Lib.hid (rtree_inv I8 (rblock_of HS8 _ I8.ps))
  have HB7d := Lib.hid (rtree_inv I8.drew (rblock_of HS8 _ I8.drew.ps))
  obtain ⟨⟨x0, x1, x2, x3⟩, _, _, _, _⟩ := I8.b0.four
  obtain ⟨⟨y0, y1, y2, y3⟩, _, _, _, _⟩ := I8.b1.four
  have HI6 := Lib.hid I8
  clear I8 HW HS8
  go_wp2_with fail
  go_region_held3 (fun W => (W.cell? ⟨w6.heap.size, 0, none⟩ = some (.int .u8 (k6 : Int)) ∧ W.cell? ⟨w6.heap.size, 1, none⟩ = some (.int .i64 num6) ∧ W.cell? ⟨w6.heap.size, 2, none⟩ = some (.string ⟨nm6.toArray⟩) ∧ W.cell? ⟨w6.heap.size, 3, none⟩ = some (.slice A6 kids6.length c6)) ∧ (W.cell? ⟨w4.heap.size, 0, none⟩ = some (.int .u8 (k4 : Int)) ∧ W.cell? ⟨w4.heap.size, 1, none⟩ = some (.int .i64 num4) ∧ W.cell? ⟨w4.heap.size, 2, none⟩ = some (.string ⟨nm4.toArray⟩) ∧ W.cell? ⟨w4.heap.size, 3, none⟩ = some (.slice A4 kids4.length c4)))
   (with_reducible first | exact ⟨HI6.out.b0.four.1, HI6.out.b1.four.1⟩ | exact ⟨HI6.out.drew.b0.four.1, HI6.out.drew.b1.four.1⟩ | exact ⟨I9.b0.four.1, I9.b1.four.1⟩ | exact ⟨(I9.more _).b0.four.1, (I9.more _).b1.four.1⟩ | exact ⟨((I9.st2 _ _ _ _).more _).b0.four.1, ((I9.st2 _ _ _ _).more _).b1.four.1⟩)
   (first | (go_at_call 96; (first | (with_reducible refine HB7.out.mono ?_) | (with_reducible refine HB7d.out.mono ?_)); rintro e w9 ⟨k9, num9, nm9, A9, c9, kids9, σ9, rfl, I9, n9, t9, hr9, ht9⟩; obtain ⟨⟨z0, z1, z2, z3⟩, q0, q1, q2, q3⟩ := I9.b2.four; have hRlt := I9.b2.lt))
  have HQ := Lib.hid (fun v0 v1 v2 v3 => (I9.st2 v0 v1 v2 v3).kids3 (k := k4) (num := num4) (nm := nm4) (A := A4) (c := c4) (kids := kids4) (by simp) (k' := k6) (num' := num6) (nm' := nm6) (A' := A6) (c' := c6) (kids' := kids6) (by simp) (k2 := k9) (num2 := num9) (nm2 := nm9) (A2 := A9) (c2 := c9) (kids2 := kids9) (by simp) (n := w9.heap.size) (by simp))
  have hl9 := block_Le hr9
  have hfin : PP.statement E (max (max n4 n6) n9 + 2) σ = some (σ9, .node 41 0 [] [t4, t6, t9]) := by
    have e2 : PP.binary E (max (max n4 n6) n9) 0 (PP.require E σ [105, 102]) = some (σ4, t4) := by
      rw [show PP.require E σ [105, 102] = PP.adv σ from by unfold PP.require; rw [if_pos S0.out]]
      exact PP.binary_le E (by omega) HR4.out
    have e4 : PP.block E (max (max n4 n6) n9) σ4 = some (σ6, t6) := PP.block_le E (by omega) HR6.out
    have e8 : PP.block E (max (max n4 n6) n9) (PP.require E σ6 [101, 108, 115, 101]) = some (σ9, t9) := PP.block_le E (by omega) hr9
    generalize max (max n4 n6) n9 = M at *
    rw [PP.statement]
    simp only [S0.out, if_true]
    rw [PP.choice, e2, Option.bind_some, e4, Option.bind_some, e8]; rfl
  have hT : σ9.err = 0 → Tree.node 41 0 [] [.node k4 num4 nm4 kids4, .node k6 num6 nm6 kids6, .node k9 num9 nm9 kids9] = .node 41 0 [] [t4, t6, t9] := fun h9 => by
    have h6 := err_of_le hle8 (err_of_le hl9 h9)
    rw [HT4.out (err_of_le hl6 h6), HT6.out h6, ht9 h9]
  have HFIN := Lib.hid hfin
  have HTT := Lib.hid hT
  clear hfin hT I9 HB7 HB7d HI6 HR4 HR6 hr9 ht9
  go_wp2_with fail
  refine bodyPost_ret (node_result rfl rfl (HQ.out _ _ _ _).b2) rfl ?_
  exact (HQ.out _ _ _ _).done (A := some ⟨w9.heap.size, 0, none⟩) (kids := [.node k4 num4 nm4 kids4, .node k6 num6 nm6 kids6, .node k9 num9 nm9 kids9]) (k := 41) (num := 0) (nm := []) (c := 3) (by simp) ⟨_, _, HFIN.out, HTT.out⟩
theorem rst_for (HS : ∀ σ', σ.next < σ'.next → σ'.next ≤ E.ts.length → StOk b Y E σ') (s0 : PP.sees E σ [105, 102] = false) (s1 : PP.sees E σ [102, 111, 114] = true) : StOk b Y E σ := by
  intro w h
  have hfd := field_tok
  have I0 := (RInv.start (Z := NoZ) h (fun h => h)).alloc #[.int .u8 0, .int .i64 0, .string ⟨#[]⟩, .slice none 0 0] 36 rfl
  have hsee := rsee_inv I0
  unfold seenV at hsee
  have e0 := seen_text E σ (s := [105, 102]) (by decide)
  rw [s0] at e0
  have e1 := seen_text E σ (s := [102, 111, 114]) (by decide)
  rw [s1] at e1
  have HMO := Lib.hid (more_of_sees s1)
  have HHS := Lib.hid HS
  generalize (seen E σ).2.1 = tx at *
  generalize ((seen E σ).1 : Int) = kd at *
  generalize ((seen E σ).2.2 : Int) = ps at *
  have HSEE := Lib.hid hsee
  clear hsee I0 h HS
  have S0 := Lib.hid s0
  clear s0
  have S1 := Lib.hid s1
  clear s1
  go_enter Tryz.func67, Tryz.ntmps67
  go_wp2_with fail
  refine HSEE.out.mono ?_
  rintro e w1 ⟨rfl, I1⟩
  have I2 := I1.alloc #[.int .u8 kd, .string ⟨tx.toArray⟩, .int .i64 ps] 58 rfl
  have z1 := I2.b0.cell 1
  simp only [List.getElem?_toArray, List.getElem?_cons_zero, List.getElem?_cons_succ] at z1
  have HSK := Lib.hid (rskip_inv HMO.out I2.drop)
  clear I1 I2 HSEE
  go_wp2_with fail
  refine HSK.out.mono ?_
  rintro e w3 ⟨rfl, I3⟩
  have HN := Lib.hid (rname_inv I3)
  have hq1 := (PP.le_nameP E (PP.adv σ)).1
  clear I3 HSK z1
  generalize hq : PP.nameP E (PP.adv σ) = q at *
  obtain ⟨σa, nma⟩ := q
  have HQQ := Lib.hid hq
  clear hq
  simp only [] at HN hq1
  go_wp2_with fail
  refine HN.out.mono ?_
  rintro e w4 ⟨rfl, I4⟩
  have HW := Lib.hid (rwant_inv ⟨#[60]⟩ (by decide) I4)
  have hq2 := (PP.le_require E σa [60]).1
  clear I4 HN
  go_wp2_with fail
  refine HW.out.mono ?_
  rintro e w5 ⟨rfl, I5⟩
  have HNU := Lib.hid (rnum_inv 1 1000 (by decide) I5)
  have hq3 := (PP.le_numP E (PP.require E σa [60]) 1 1000).1
  clear I5 HW
  generalize hv : PP.numP E (PP.require E σa [60]) 1 1000 = qv at *
  obtain ⟨σb, val⟩ := qv
  have hv' : PP.numP E (PP.require E σa [60]) 1 1000 = (σb, val) := hv
  have HV := Lib.hid hv'
  clear hv hv'
  simp only [] at HNU hq3
  go_wp2_with fail
  refine HNU.out.mono ?_
  rintro e w6 ⟨rfl, I6⟩
  have HBK := Lib.hid (rtree_inv I6 (rblock_of (σ := σb) (fun σ' h1 h2 => HHS.out σ' (by simp only [PP.adv] at hq1; omega) h2) _ I6.ps))
  clear I6 HNU
  go_wp2_with fail
  refine HBK.out.mono ?_
  rintro e w7 ⟨k7, num7, nm7, A7, c7, kids7, σ7, rfl, I7, n7, t7, hr7, ht7⟩
  have I8 := I7.kids1 (k := k7) (num := num7) (nm := nm7) (c := c7) (A := A7) (kids := kids7) (by simp) rfl
  obtain ⟨⟨r0, r1, r2, r3⟩, q0, q1, q2, q3⟩ := I8.b0.four
  have HQ := Lib.hid (fun v0 v1 v2 v3 => I8.st0 v0 v1 v2 v3)
  have hfin : PP.statement E (n7 + 1) σ = some (σ7, .node 42 val nma [t7]) := by
    rw [PP.statement]
    simp only [S0.out, S1.out, if_true, if_false, Bool.false_eq_true, HQQ.out, HV.out, hr7, Option.map_some]
  have HFIN := Lib.hid hfin
  have HT7 := Lib.hid ht7
  clear I7 I8 HBK hr7 ht7 hfin
  go_wp2_with fail
  refine bodyPost_ret (node_result rfl rfl (HQ.out _ _ _ _).b0) rfl ?_
  exact (HQ.out _ _ _ _).done (k := 42) (num := val) (nm := nma) (c := 1) (A := some ⟨w7.heap.size, 0, none⟩) (kids := [.node k7 num7 nm7 kids7]) (by simp) ⟨_, _, HFIN.out, fun he => by rw [HT7.out he]⟩
theorem rst_while (HS : ∀ σ', σ.next < σ'.next → σ'.next ≤ E.ts.length → StOk b Y E σ') (s0 : PP.sees E σ [105, 102] = false) (s1 : PP.sees E σ [102, 111, 114] = false) (s2 : PP.sees E σ [119, 104, 105, 108, 101] = true) : StOk b Y E σ := by
  intro w h
  have hfd := field_tok
  have I0 := (RInv.start (Z := NoZ) h (fun h => h)).alloc #[.int .u8 0, .int .i64 0, .string ⟨#[]⟩, .slice none 0 0] 36 rfl
  have hsee := rsee_inv I0
  unfold seenV at hsee
  have e0 := seen_text E σ (s := [105, 102]) (by decide)
  rw [s0] at e0
  have e1 := seen_text E σ (s := [102, 111, 114]) (by decide)
  rw [s1] at e1
  have e2 := seen_text E σ (s := [119, 104, 105, 108, 101]) (by decide)
  rw [s2] at e2
  have HMO := Lib.hid (more_of_sees s2)
  have HHS := Lib.hid HS
  generalize (seen E σ).2.1 = tx at *
  generalize ((seen E σ).1 : Int) = kd at *
  generalize ((seen E σ).2.2 : Int) = ps at *
  have HSEE := Lib.hid hsee
  clear hsee I0 h HS
  have S0 := Lib.hid s0
  clear s0
  have S1 := Lib.hid s1
  clear s1
  have S2 := Lib.hid s2
  clear s2
  go_enter Tryz.func67, Tryz.ntmps67
  go_wp2_with fail
  refine HSEE.out.mono ?_
  rintro e w1 ⟨rfl, I1⟩
  have I2 := I1.alloc #[.int .u8 kd, .string ⟨tx.toArray⟩, .int .i64 ps] 58 rfl
  have z1 := I2.b0.cell 1
  simp only [List.getElem?_toArray, List.getElem?_cons_zero, List.getElem?_cons_succ] at z1
  have HSK := Lib.hid (rskip_inv HMO.out I2.drop)
  clear I1 I2 HSEE
  go_wp2_with fail
  refine HSK.out.mono ?_
  rintro e w3 ⟨rfl, I3⟩
  have HEX := Lib.hid (rtree_inv I3 (rexpr_all (PP.adv σ) w3 0 1 PP.lev_start (by omega) I3.ps))
  clear I3 HSK z1
  go_wp2_with fail
  refine HEX.out.mono ?_
  rintro e w4 ⟨k4, num4, nm4, A4, c4, kids4, σ4, rfl, I4, n4, t4, hr4, ht4⟩
  have hl4 := binary_Le hr4
  have I5 := I4.alloc #[.int .u8 (k4 : Int), .int .i64 num4, .string ⟨nm4.toArray⟩, .slice A4 kids4.length c4] 36 rfl
  have HW := Lib.hid (rwant_inv ⟨#[98, 111, 117, 110, 100]⟩ (by decide) I5)
  have HR4 := Lib.hid hr4
  have HT4 := Lib.hid ht4
  clear I4 I5 HEX hr4 ht4
  go_wp2_with fail
  refine HW.out.mono ?_
  rintro e w5 ⟨rfl, I5⟩
  have HNU := Lib.hid (rnum_inv 1 1000 (by decide) I5)
  have hq2 := PP.le_require E σ4 [98, 111, 117, 110, 100]
  have hq3 := PP.le_numP E (PP.require E σ4 [98, 111, 117, 110, 100]) 1 1000
  clear I5 HW
  generalize hv : PP.numP E (PP.require E σ4 [98, 111, 117, 110, 100]) 1 1000 = qv at *
  obtain ⟨σb, val⟩ := qv
  have hv' : PP.numP E (PP.require E σ4 [98, 111, 117, 110, 100]) 1 1000 = (σb, val) := hv
  have HV := Lib.hid hv'
  clear hv hv'
  simp only [] at HNU hq3
  go_wp2_with fail
  refine HNU.out.mono ?_
  rintro e w6 ⟨rfl, I8⟩
  have HS8 : ∀ σ', σb.next ≤ σ'.next → σ'.next ≤ E.ts.length → StOk b Y E σ' := fun σ' h1 h2 => HHS.out σ' (by have h3 := hl4.1; have h4 := hq2.1; have h5 := hq3.1; simp only [PP.adv] at h3 h5; omega) h2
  have HB7 := Lib.hid (rtree_inv I8 (rblock_of HS8 _ I8.ps))
  have HB7d := Lib.hid (rtree_inv I8.drew (rblock_of HS8 _ I8.drew.ps))
  obtain ⟨⟨x0, x1, x2, x3⟩, _, _, _, _⟩ := I8.b0.four
  have HI6 := Lib.hid I8
  clear I8 HNU HS8
  go_wp2_with fail
  go_region_held3 (fun W => W.cell? ⟨w4.heap.size, 0, none⟩ = some (.int .u8 (k4 : Int)) ∧ W.cell? ⟨w4.heap.size, 1, none⟩ = some (.int .i64 num4) ∧ W.cell? ⟨w4.heap.size, 2, none⟩ = some (.string ⟨nm4.toArray⟩) ∧ W.cell? ⟨w4.heap.size, 3, none⟩ = some (.slice A4 kids4.length c4))
   (with_reducible first | exact HI6.out.b0.four.1 | exact HI6.out.drew.b0.four.1 | exact I9.b0.four.1 | exact (I9.more _).b0.four.1 | exact ((I9.st1 _ _ _ _).more _).b0.four.1)
   (first | (go_at_call 96; (first | (with_reducible refine HB7.out.mono ?_) | (with_reducible refine HB7d.out.mono ?_)); rintro e w9 ⟨k9, num9, nm9, A9, c9, kids9, σ9, rfl, I9, n9, t9, hr9, ht9⟩; obtain ⟨⟨z0, z1, z2, z3⟩, q0, q1, q2, q3⟩ := I9.b1.four; have hRlt := I9.b1.lt))
  have HQ := Lib.hid (fun v0 v1 v2 v3 => (I9.st1 v0 v1 v2 v3).kids2 (k := k4) (num := num4) (nm := nm4) (A := A4) (c := c4) (kids := kids4) (by simp) (k' := k9) (num' := num9) (nm' := nm9) (A' := A9) (c' := c9) (kids' := kids9) (by simp) (n := w9.heap.size) (by simp))
  have hl9 := block_Le hr9
  have hfin : PP.statement E (max n4 n9 + 1) σ = some (σ9, .node 43 val [] [t4, t9]) := by
    have e2 : PP.binary E (max n4 n9) 0 (PP.adv σ) = some (σ4, t4) := PP.binary_le E (by omega) HR4.out
    have e4 : PP.block E (max n4 n9) σb = some (σ9, t9) := PP.block_le E (by omega) hr9
    generalize max n4 n9 = M at *
    rw [PP.statement]
    simp only [S0.out, S1.out, S2.out, if_true, if_false, Bool.false_eq_true, e2, Option.bind_some, HV.out, e4, Option.map_some]
  have hT : σ9.err = 0 → Tree.node 43 val [] [.node k4 num4 nm4 kids4, .node k9 num9 nm9 kids9] = .node 43 val [] [t4, t9] := fun h9 => by
    have h6 := err_of_le hq2 (err_of_le hq3 (err_of_le hl9 h9))
    rw [HT4.out h6, ht9 h9]
  have HFIN := Lib.hid hfin
  have HTT := Lib.hid hT
  clear hfin hT I9 HB7 HB7d HI6 HR4 hr9 ht9
  go_wp2_with fail
  refine bodyPost_ret (node_result rfl rfl (HQ.out _ _ _ _).b1) rfl ?_
  exact (HQ.out _ _ _ _).done (A := some ⟨w9.heap.size, 0, none⟩) (kids := [.node k4 num4 nm4 kids4, .node k9 num9 nm9 kids9]) (k := 43) (num := val) (nm := []) (c := 2) (by simp) ⟨_, _, HFIN.out, HTT.out⟩
theorem rst_in (HS : ∀ σ', σ.next < σ'.next → σ'.next ≤ E.ts.length → StOk b Y E σ') (s0 : PP.sees E σ [105, 102] = false) (s1 : PP.sees E σ [102, 111, 114] = false) (s2 : PP.sees E σ [119, 104, 105, 108, 101] = false) (s3 : PP.sees E σ [105, 110] = true) : StOk b Y E σ := by
  intro w h
  have hfd := field_tok
  have I0 := (RInv.start (Z := NoZ) h (fun h => h)).alloc #[.int .u8 0, .int .i64 0, .string ⟨#[]⟩, .slice none 0 0] 36 rfl
  have hsee := rsee_inv I0
  unfold seenV at hsee
  have e0 := seen_text E σ (s := [105, 102]) (by decide)
  rw [s0] at e0
  have e1 := seen_text E σ (s := [102, 111, 114]) (by decide)
  rw [s1] at e1
  have e2 := seen_text E σ (s := [119, 104, 105, 108, 101]) (by decide)
  rw [s2] at e2
  have e3 := seen_text E σ (s := [105, 110]) (by decide)
  rw [s3] at e3
  have HMO := Lib.hid (more_of_sees s3)
  have HHS := Lib.hid HS
  generalize (seen E σ).2.1 = tx at *
  generalize ((seen E σ).1 : Int) = kd at *
  generalize ((seen E σ).2.2 : Int) = ps at *
  have HSEE := Lib.hid hsee
  clear hsee I0 h HS
  have S0 := Lib.hid s0
  clear s0
  have S1 := Lib.hid s1
  clear s1
  have S2 := Lib.hid s2
  clear s2
  have S3 := Lib.hid s3
  clear s3
  go_enter Tryz.func67, Tryz.ntmps67
  go_wp2_with fail
  refine HSEE.out.mono ?_
  rintro e w1 ⟨rfl, I1⟩
  have I2 := I1.alloc #[.int .u8 kd, .string ⟨tx.toArray⟩, .int .i64 ps] 58 rfl
  have z1 := I2.b0.cell 1
  simp only [List.getElem?_toArray, List.getElem?_cons_zero, List.getElem?_cons_succ] at z1
  have HSK := Lib.hid (rskip_inv HMO.out I2.drop)
  clear I1 I2 HSEE
  go_wp2_with fail
  refine HSK.out.mono ?_
  rintro e w3 ⟨rfl, I3⟩
  have HEX := Lib.hid (rtree_inv I3 (rplace_all (PP.adv σ) w3 I3.ps))
  clear I3 HSK z1
  go_wp2_with fail
  refine HEX.out.mono ?_
  rintro e w4 ⟨k4, num4, nm4, A4, c4, kids4, σ4, rfl, I4, n4, t4, hr4, ht4⟩
  have I5 := I4.alloc #[.int .u8 (k4 : Int), .int .i64 num4, .string ⟨nm4.toArray⟩, .slice A4 kids4.length c4] 36 rfl
  have HW := Lib.hid (rwant_inv ⟨#[44]⟩ (by decide) I5)
  have HR4 := Lib.hid hr4
  have HT4 := Lib.hid ht4
  clear I4 I5 HEX hr4 ht4
  go_wp2_with fail
  refine HW.out.mono ?_
  rintro e w5 ⟨rfl, I5⟩
  have HNU := Lib.hid (rnum_inv 0 7 (by decide) I5)
  have hq2 := PP.le_require E σ4 [44]
  have hq3 := PP.le_numP E (PP.require E σ4 [44]) 0 7
  clear I5 HW
  generalize hv : PP.numP E (PP.require E σ4 [44]) 0 7 = qv at *
  obtain ⟨σb, val⟩ := qv
  have hv' : PP.numP E (PP.require E σ4 [44]) 0 7 = (σb, val) := hv
  have HV := Lib.hid hv'
  clear hv hv'
  simp only [] at HNU hq3
  go_wp2_with fail
  refine HNU.out.mono ?_
  rintro e w6 ⟨rfl, I6⟩
  have HW2 := Lib.hid (rwant_inv ⟨#[59]⟩ (by decide) I6)
  have hq4 := PP.le_require E σb [59]
  clear I6 HNU
  go_wp2_with fail
  refine HW2.out.mono ?_
  rintro e w7 ⟨rfl, I7⟩
  obtain ⟨⟨x0, x1, x2, x3⟩, _, _, _, _⟩ := I7.b0.four
  obtain ⟨⟨r0, r1, r2, r3⟩, q0, q1, q2, q3⟩ := I7.b1.four
  have hRlt := I7.b1.lt
  have hNlt := I7.b0.lt
  have HQ := Lib.hid (fun v0 v1 v2 v3 => (I7.st1 v0 v1 v2 v3).kids1 (k := k4) (num := num4) (nm := nm4) (c := c4) (A := A4) (kids := kids4) (by simp) (n := w7.heap.size) (by simp))
  have hfin : PP.statement E (n4 + 1) σ = some (PP.require E σb [59], .node 44 val [] [t4]) := by
    rw [PP.statement]
    simp only [S0.out, S1.out, S2.out, S3.out, if_true, if_false, Bool.false_eq_true, HR4.out, Option.map_some, PP.transfer, HV.out]
  have HFIN := Lib.hid hfin
  clear I7 HW2 hfin HR4
  go_wp2_with fail
  refine bodyPost_ret (node_result rfl rfl (HQ.out _ _ _ _).b1) rfl ?_
  exact (HQ.out _ _ _ _).done (k := 44) (num := val) (nm := []) (c := 1) (A := some ⟨w7.heap.size, 0, none⟩) (kids := [.node k4 num4 nm4 kids4]) (by simp) ⟨_, _, HFIN.out, fun he => by rw [HT4.out (err_of_le hq2 (err_of_le hq3 (err_of_le hq4 he)))]⟩
theorem rst_out (HS : ∀ σ', σ.next < σ'.next → σ'.next ≤ E.ts.length → StOk b Y E σ') (s0 : PP.sees E σ [105, 102] = false) (s1 : PP.sees E σ [102, 111, 114] = false) (s2 : PP.sees E σ [119, 104, 105, 108, 101] = false) (s3 : PP.sees E σ [105, 110] = false) (s4 : PP.sees E σ [111, 117, 116] = true) : StOk b Y E σ := by
  intro w h
  have hfd := field_tok
  have I0 := (RInv.start (Z := NoZ) h (fun h => h)).alloc #[.int .u8 0, .int .i64 0, .string ⟨#[]⟩, .slice none 0 0] 36 rfl
  have hsee := rsee_inv I0
  unfold seenV at hsee
  have e0 := seen_text E σ (s := [105, 102]) (by decide)
  rw [s0] at e0
  have e1 := seen_text E σ (s := [102, 111, 114]) (by decide)
  rw [s1] at e1
  have e2 := seen_text E σ (s := [119, 104, 105, 108, 101]) (by decide)
  rw [s2] at e2
  have e3 := seen_text E σ (s := [105, 110]) (by decide)
  rw [s3] at e3
  have e4 := seen_text E σ (s := [111, 117, 116]) (by decide)
  rw [s4] at e4
  have HMO := Lib.hid (more_of_sees s4)
  have HHS := Lib.hid HS
  generalize (seen E σ).2.1 = tx at *
  generalize ((seen E σ).1 : Int) = kd at *
  generalize ((seen E σ).2.2 : Int) = ps at *
  have HSEE := Lib.hid hsee
  clear hsee I0 h HS
  have S0 := Lib.hid s0
  clear s0
  have S1 := Lib.hid s1
  clear s1
  have S2 := Lib.hid s2
  clear s2
  have S3 := Lib.hid s3
  clear s3
  have S4 := Lib.hid s4
  clear s4
  go_enter Tryz.func67, Tryz.ntmps67
  go_wp2_with fail
  refine HSEE.out.mono ?_
  rintro e w1 ⟨rfl, I1⟩
  have I2 := I1.alloc #[.int .u8 kd, .string ⟨tx.toArray⟩, .int .i64 ps] 58 rfl
  have z1 := I2.b0.cell 1
  simp only [List.getElem?_toArray, List.getElem?_cons_zero, List.getElem?_cons_succ] at z1
  have HSK := Lib.hid (rskip_inv HMO.out I2.drop)
  clear I1 I2 HSEE
  go_wp2_with fail
  refine HSK.out.mono ?_
  rintro e w3 ⟨rfl, I3⟩
  have HEX := Lib.hid (rtree_inv I3 (rexpr_all (PP.adv σ) w3 0 1 PP.lev_start (by omega) I3.ps))
  clear I3 HSK z1
  go_wp2_with fail
  refine HEX.out.mono ?_
  rintro e w4 ⟨k4, num4, nm4, A4, c4, kids4, σ4, rfl, I4, n4, t4, hr4, ht4⟩
  have I5 := I4.alloc #[.int .u8 (k4 : Int), .int .i64 num4, .string ⟨nm4.toArray⟩, .slice A4 kids4.length c4] 36 rfl
  have HW := Lib.hid (rwant_inv ⟨#[44]⟩ (by decide) I5)
  have HR4 := Lib.hid hr4
  have HT4 := Lib.hid ht4
  clear I4 I5 HEX hr4 ht4
  go_wp2_with fail
  refine HW.out.mono ?_
  rintro e w5 ⟨rfl, I5⟩
  have HNU := Lib.hid (rnum_inv 0 7 (by decide) I5)
  have hq2 := PP.le_require E σ4 [44]
  have hq3 := PP.le_numP E (PP.require E σ4 [44]) 0 7
  clear I5 HW
  generalize hv : PP.numP E (PP.require E σ4 [44]) 0 7 = qv at *
  obtain ⟨σb, val⟩ := qv
  have hv' : PP.numP E (PP.require E σ4 [44]) 0 7 = (σb, val) := hv
  have HV := Lib.hid hv'
  clear hv hv'
  simp only [] at HNU hq3
  go_wp2_with fail
  refine HNU.out.mono ?_
  rintro e w6 ⟨rfl, I6⟩
  have HW2 := Lib.hid (rwant_inv ⟨#[59]⟩ (by decide) I6)
  have hq4 := PP.le_require E σb [59]
  clear I6 HNU
  go_wp2_with fail
  refine HW2.out.mono ?_
  rintro e w7 ⟨rfl, I7⟩
  obtain ⟨⟨x0, x1, x2, x3⟩, _, _, _, _⟩ := I7.b0.four
  obtain ⟨⟨r0, r1, r2, r3⟩, q0, q1, q2, q3⟩ := I7.b1.four
  have hRlt := I7.b1.lt
  have hNlt := I7.b0.lt
  have HQ := Lib.hid (fun v0 v1 v2 v3 => (I7.st1 v0 v1 v2 v3).kids1 (k := k4) (num := num4) (nm := nm4) (c := c4) (A := A4) (kids := kids4) (by simp) (n := w7.heap.size) (by simp))
  have hfin : PP.statement E (n4 + 1) σ = some (PP.require E σb [59], .node 45 val [] [t4]) := by
    rw [PP.statement]
    simp only [S0.out, S1.out, S2.out, S3.out, S4.out, if_true, if_false, Bool.false_eq_true, HR4.out, Option.map_some, PP.transfer, HV.out]
  have HFIN := Lib.hid hfin
  clear I7 HW2 hfin HR4
  go_wp2_with fail
  refine bodyPost_ret (node_result rfl rfl (HQ.out _ _ _ _).b1) rfl ?_
  exact (HQ.out _ _ _ _).done (k := 45) (num := val) (nm := []) (c := 1) (A := some ⟨w7.heap.size, 0, none⟩) (kids := [.node k4 num4 nm4 kids4]) (by simp) ⟨_, _, HFIN.out, fun he => by rw [HT4.out (err_of_le hq2 (err_of_le hq3 (err_of_le hq4 he)))]⟩
theorem rst_lock (HS : ∀ σ', σ.next < σ'.next → σ'.next ≤ E.ts.length → StOk b Y E σ') (s0 : PP.sees E σ [105, 102] = false) (s1 : PP.sees E σ [102, 111, 114] = false) (s2 : PP.sees E σ [119, 104, 105, 108, 101] = false) (s3 : PP.sees E σ [105, 110] = false) (s4 : PP.sees E σ [111, 117, 116] = false) (s5 : PP.sees E σ [108, 111, 99, 107] = true) : StOk b Y E σ := by
  intro w h
  have hfd := field_tok
  have I0 := (RInv.start (Z := NoZ) h (fun h => h)).alloc #[.int .u8 0, .int .i64 0, .string ⟨#[]⟩, .slice none 0 0] 36 rfl
  have hsee := rsee_inv I0
  unfold seenV at hsee
  have e0 := seen_text E σ (s := [105, 102]) (by decide)
  rw [s0] at e0
  have e1 := seen_text E σ (s := [102, 111, 114]) (by decide)
  rw [s1] at e1
  have e2 := seen_text E σ (s := [119, 104, 105, 108, 101]) (by decide)
  rw [s2] at e2
  have e3 := seen_text E σ (s := [105, 110]) (by decide)
  rw [s3] at e3
  have e4 := seen_text E σ (s := [111, 117, 116]) (by decide)
  rw [s4] at e4
  have e5 := seen_text E σ (s := [108, 111, 99, 107]) (by decide)
  rw [s5] at e5
  have HMO := Lib.hid (more_of_sees s5)
  have HHS := Lib.hid HS
  generalize (seen E σ).2.1 = tx at *
  generalize ((seen E σ).1 : Int) = kd at *
  generalize ((seen E σ).2.2 : Int) = ps at *
  have HSEE := Lib.hid hsee
  clear hsee I0 h HS
  have S0 := Lib.hid s0
  clear s0
  have S1 := Lib.hid s1
  clear s1
  have S2 := Lib.hid s2
  clear s2
  have S3 := Lib.hid s3
  clear s3
  have S4 := Lib.hid s4
  clear s4
  have S5 := Lib.hid s5
  clear s5
  go_enter Tryz.func67, Tryz.ntmps67
  go_wp2_with fail
  refine HSEE.out.mono ?_
  rintro e w1 ⟨rfl, I1⟩
  have I2 := I1.alloc #[.int .u8 kd, .string ⟨tx.toArray⟩, .int .i64 ps] 58 rfl
  have z1 := I2.b0.cell 1
  simp only [List.getElem?_toArray, List.getElem?_cons_zero, List.getElem?_cons_succ] at z1
  have HSK := Lib.hid (rskip_inv HMO.out I2.drop)
  clear I1 I2 HSEE
  go_wp2_with fail
  refine HSK.out.mono ?_
  rintro e w3 ⟨rfl, I3⟩
  have HN := Lib.hid (rname_inv I3)
  have hq1 := (PP.le_nameP E (PP.adv σ)).1
  clear I3 HSK z1
  generalize hq : PP.nameP E (PP.adv σ) = q at *
  obtain ⟨σa, nma⟩ := q
  have HQQ := Lib.hid hq
  clear hq
  simp only [] at HN hq1
  go_wp2_with fail
  refine HN.out.mono ?_
  rintro e w6 ⟨rfl, I6⟩
  have HBK := Lib.hid (rtree_inv I6 (rblock_of (σ := σa) (fun σ' h1 h2 => HHS.out σ' (by simp only [PP.adv] at hq1; omega) h2) _ I6.ps))
  clear I6 HN
  go_wp2_with fail
  refine HBK.out.mono ?_
  rintro e w7 ⟨k7, num7, nm7, A7, c7, kids7, σ7, rfl, I7, n7, t7, hr7, ht7⟩
  have I8 := I7.kids1 (k := k7) (num := num7) (nm := nm7) (c := c7) (A := A7) (kids := kids7) (by simp) rfl
  obtain ⟨⟨r0, r1, r2, r3⟩, q0, q1, q2, q3⟩ := I8.b0.four
  have HQ := Lib.hid (fun v0 v1 v2 v3 => I8.st0 v0 v1 v2 v3)
  have hfin : PP.statement E (n7 + 1) σ = some (σ7, .node 46 0 nma [t7]) := by
    rw [PP.statement]
    simp only [S0.out, S1.out, S2.out, S3.out, S4.out, S5.out, if_true, if_false, Bool.false_eq_true, HQQ.out, hr7, Option.map_some]
  have HFIN := Lib.hid hfin
  have HT7 := Lib.hid ht7
  clear I7 I8 HBK hr7 ht7 hfin
  go_wp2_with fail
  refine bodyPost_ret (node_result rfl rfl (HQ.out _ _ _ _).b0) rfl ?_
  exact (HQ.out _ _ _ _).done (k := 46) (num := 0) (nm := nma) (c := 1) (A := some ⟨w7.heap.size, 0, none⟩) (kids := [.node k7 num7 nm7 kids7]) (by simp) ⟨_, _, HFIN.out, fun he => by rw [HT7.out he]⟩
theorem rst_assign (HS : ∀ σ', σ.next < σ'.next → σ'.next ≤ E.ts.length → StOk b Y E σ') (s0 : PP.sees E σ [105, 102] = false) (s1 : PP.sees E σ [102, 111, 114] = false) (s2 : PP.sees E σ [119, 104, 105, 108, 101] = false) (s3 : PP.sees E σ [105, 110] = false) (s4 : PP.sees E σ [111, 117, 116] = false) (s5 : PP.sees E σ [108, 111, 99, 107] = false) : StOk b Y E σ := by
  intro w h
  have hfd := field_tok
  have I0 := (RInv.start (Z := NoZ) h (fun h => h)).alloc #[.int .u8 0, .int .i64 0, .string ⟨#[]⟩, .slice none 0 0] 36 rfl
  have hsee := rsee_inv I0
  unfold seenV at hsee
  have e0 := seen_text E σ (s := [105, 102]) (by decide)
  rw [s0] at e0
  have e1 := seen_text E σ (s := [102, 111, 114]) (by decide)
  rw [s1] at e1
  have e2 := seen_text E σ (s := [119, 104, 105, 108, 101]) (by decide)
  rw [s2] at e2
  have e3 := seen_text E σ (s := [105, 110]) (by decide)
  rw [s3] at e3
  have e4 := seen_text E σ (s := [111, 117, 116]) (by decide)
  rw [s4] at e4
  have e5 := seen_text E σ (s := [108, 111, 99, 107]) (by decide)
  rw [s5] at e5
  have HHS := Lib.hid HS
  generalize (seen E σ).2.1 = tx at *
  generalize ((seen E σ).1 : Int) = kd at *
  generalize ((seen E σ).2.2 : Int) = ps at *
  have HSEE := Lib.hid hsee
  clear hsee I0 h HS
  have S0 := Lib.hid s0
  clear s0
  have S1 := Lib.hid s1
  clear s1
  have S2 := Lib.hid s2
  clear s2
  have S3 := Lib.hid s3
  clear s3
  have S4 := Lib.hid s4
  clear s4
  have S5 := Lib.hid s5
  clear s5
  go_enter Tryz.func67, Tryz.ntmps67
  go_wp2_with fail
  refine HSEE.out.mono ?_
  rintro e w1 ⟨rfl, I1⟩
  have I2 := I1.alloc #[.int .u8 kd, .string ⟨tx.toArray⟩, .int .i64 ps] 58 rfl
  have z1 := I2.b0.cell 1
  simp only [List.getElem?_toArray, List.getElem?_cons_zero, List.getElem?_cons_succ] at z1
  have HPX := Lib.hid (rtree_inv I2.drop (rplace_all σ _ I2.ps))
  clear I1 I2 HSEE HHS
  go_wp2_with fail
  refine HPX.out.mono ?_
  rintro e w4 ⟨k4, num4, nm4, A4, c4, kids4, σ4, rfl, I4, n4, t4, hr4, ht4⟩
  have I5 := I4.alloc #[.int .u8 (k4 : Int), .int .i64 num4, .string ⟨nm4.toArray⟩, .slice A4 kids4.length c4] 36 rfl
  have HW := Lib.hid (rwant_inv ⟨#[61]⟩ (by decide) I5)
  have HR4 := Lib.hid hr4
  have HT4 := Lib.hid ht4
  clear I4 I5 HPX hr4 ht4 z1
  go_wp2_with fail
  refine HW.out.mono ?_
  rintro e w5 ⟨rfl, I5⟩
  have hq2 := PP.le_require E σ4 [61]
  have HEX := Lib.hid (rtree_inv I5 (rexpr_all (PP.require E σ4 [61]) w5 0 1 PP.lev_start (by omega) I5.ps))
  clear I5 HW
  go_wp2_with fail
  refine HEX.out.mono ?_
  rintro e w6 ⟨k6, num6, nm6, A6, c6, kids6, σ6, rfl, I6, n6, t6, hr6, ht6⟩
  have hl6 := binary_Le hr6
  have I7 := I6.alloc #[.int .u8 (k6 : Int), .int .i64 num6, .string ⟨nm6.toArray⟩, .slice A6 kids6.length c6] 36 rfl
  have HW2 := Lib.hid (rwant_inv ⟨#[59]⟩ (by decide) I7)
  have hq4 := PP.le_require E σ6 [59]
  have HR6 := Lib.hid hr6
  have HT6 := Lib.hid ht6
  clear I6 I7 HEX hr6 ht6
  go_wp2_with fail
  refine HW2.out.mono ?_
  rintro e w8 ⟨rfl, I8⟩
  obtain ⟨⟨x0, x1, x2, x3⟩, _, _, _, _⟩ := I8.b0.four
  obtain ⟨⟨y0, y1, y2, y3⟩, _, _, _, _⟩ := I8.b1.four
  obtain ⟨⟨r0, r1, r2, r3⟩, q0, q1, q2, q3⟩ := I8.b2.four
  have hRlt := I8.b2.lt
  have HQ := Lib.hid (fun v0 v1 v2 v3 => (I8.st2 v0 v1 v2 v3).kids2 (k := k4) (num := num4) (nm := nm4) (c := c4) (A := A4) (kids := kids4) (by simp) (k' := k6) (num' := num6) (nm' := nm6) (c' := c6) (A' := A6) (kids' := kids6) (by simp) (n := w8.heap.size) (by simp))
  have hfin : PP.statement E (max n4 n6 + 1) σ = some (PP.require E σ6 [59], .node 40 0 [] [t4, t6]) := by
    have e2 : PP.place E (max n4 n6) σ = some (σ4, t4) := PP.place_le E (by omega) HR4.out
    have e4 : PP.binary E (max n4 n6) 0 (PP.require E σ4 [61]) = some (σ6, t6) := PP.binary_le E (by omega) HR6.out
    generalize max n4 n6 = M at *
    rw [PP.statement]
    simp only [S0.out, S1.out, S2.out, S3.out, S4.out, S5.out, if_false, Bool.false_eq_true, e2, Option.bind_some, e4, Option.map_some]
  have HFIN := Lib.hid hfin
  clear I8 HW2 hfin HR4 HR6
  go_wp2_with fail
  refine bodyPost_ret (node_result rfl rfl (HQ.out _ _ _ _).b2) rfl ?_
  exact (HQ.out _ _ _ _).done (k := 40) (num := 0) (nm := []) (c := 2) (A := some ⟨w8.heap.size, 0, none⟩) (kids := [.node k4 num4 nm4 kids4, .node k6 num6 nm6 kids6]) (by simp) ⟨_, _, HFIN.out, fun he => by
    have h6 := err_of_le hq4 he
    rw [HT4.out (err_of_le hq2 (err_of_le hl6 h6)), HT6.out h6]⟩
theorem rst_upto : ∀ (d : Nat) (σ : PP.St), E.ts.length - σ.next ≤ d → StOk b Y E σ
  | d, σ, hd => by
    have HS : ∀ σ', σ.next < σ'.next → σ'.next ≤ E.ts.length → StOk b Y E σ' := fun σ' h1 h2 => by
      cases d with
      | zero => omega
      | succ d => exact rst_upto d σ' (by omega)
    cases s0 : PP.sees E σ [105, 102] with
    | true => exact rst_if HS s0
    | false =>
    cases s1 : PP.sees E σ [102, 111, 114] with
    | true => exact rst_for HS s0 s1
    | false =>
    cases s2 : PP.sees E σ [119, 104, 105, 108, 101] with
    | true => exact rst_while HS s0 s1 s2
    | false =>
    cases s3 : PP.sees E σ [105, 110] with
    | true => exact rst_in HS s0 s1 s2 s3
    | false =>
    cases s4 : PP.sees E σ [111, 117, 116] with
    | true => exact rst_out HS s0 s1 s2 s3 s4
    | false =>
    cases s5 : PP.sees E σ [108, 111, 99, 107] with
    | true => exact rst_lock HS s0 s1 s2 s3 s4 s5
    | false => exact rst_assign HS s0 s1 s2 s3 s4 s5
theorem rst_all (σ : PP.St) : StOk b Y E σ := rst_upto _ σ (Nat.le_refl _)
theorem rsts_all (σ : PP.St) : StsOk b Y E σ := rsts_of (fun σ' _ _ => rst_all σ')
end
end Go.Proofs.YtglaecalbamnkaaGreatDoor
